/- What a ring's slots hold, and whose they are. No program in sight. Conditions: none. -/
import Derived.Test.YtggjhleomocojaaGreatRd
import Derived.Test.YtggjhleomocojaaGreatKe
import Derived.Test.YtggjhleomocojaaGreatQb
section
namespace Go.Proofs.YtggjhleomocojaaGreat
open Go.RowKit
set_option linter.unusedVariables false
inductive Slot where
 | z (n : Nat)
 | p (n : Nat) (l : Int) (r : List Int)
 | b (t : Int) (d : List Int) (n k : Nat)
 | w (t : Int) (d : List Int) (n : Nat)
def Slot.n : Slot → Nat
 | .z n => n
 | .p n _ _ => n
 | .b _ _ n _ => n
 | .w _ _ n => n
def Slot.row : Slot → List Int
 | .z n => zs n
 | .p _ l r => leB (recS l (-1)) 8 ++ r
 | .b t d n k => rcB (recS (-(8 + (d.length : Int))) t) (d.take k) n
 | .w t d n => rcB (recS (8 + (d.length : Int)) t) d n
def Slot.fin : Slot → Bool
 | .p _ _ _ => true
 | .w _ _ _ => true
 | _ => false
def Slot.isP : Slot → Bool
 | .p _ _ _ => true
 | _ => false
def Slot.isZ : Slot → Bool
 | .z _ => true
 | _ => false
def Slot.good : Slot → Prop
 | .z _ => True
 | .p n l r => IsB r ∧ r.length = n - 8 ∧ 8 ≤ l ∧ (l + 7) / 8 * 8 = n
 | .b t d n k => IsB d ∧ 1 ≤ t ∧ t ≤ 2147483647 ∧ n = (d.length + 15) / 8 * 8 ∧ k ≤ d.length
 | .w t d n => IsB d ∧ 1 ≤ t ∧ t ≤ 2147483647 ∧ n = (d.length + 15) / 8 * 8
structure Slot.ok (x : Slot) : Prop where
 n0 : 8 ≤ x.n
 n8 : x.n % 8 = 0
 n1 : x.n ≤ 8192
 good : x.good
theorem Slot.len {x : Slot} (h : x.ok) : x.row.length = x.n := by
 obtain ⟨h1, h2, h3, h4⟩ := h
 cases x with
 | z n => exact zs_len n
 | p n l r =>
  obtain ⟨g1, g2, g3, g4⟩ := h4
  have h1 : 8 ≤ n := h1
  show (leB (recS l (-1)) 8 ++ r).length = n
  rw [List.length_append, leB_length, g2]
  omega
 | b t d n k =>
  obtain ⟨g1, g2, g3, g4, g5⟩ := h4
  refine rcB_len ?_
  simp
  omega
 | w t d n =>
  obtain ⟨g1, g2, g3, g4⟩ := h4
  refine rcB_len ?_
  omega
theorem recS_bd (n t : Int) : 0 ≤ recS n t ∧ recS n t ≤ 18446744073709551615 := by unfold recS; omega
theorem leN8 (v : Int) (h0 : 0 ≤ v) (h1 : v ≤ 18446744073709551615) (r : List Int) : leN ((leB v 8 ++ r).take 8) = v := by
 rw [List.take_append, leB_length, List.take_of_length_le (by rw [leB_length]; omega), show 8 - 8 = 0 by omega, List.take_zero, List.append_nil, leN_leB]
 have e : (256 : Int) ^ 8 = 18446744073709551616 := by decide
 rw [e]
 omega
theorem zs_hdr (n : Nat) : leN ((zs n).take 8) = 0 := by
 rw [zs_take]
 have : ∀ k, leN (zs k) = 0 := by
  intro k
  induction k with
  | zero => rfl
  | succ k ih =>
   have e : zs (k + 1) = 0 :: zs k := rfl
   rw [e]
   show (0 : Int) + 256 * leN (zs k) = 0
   rw [ih]
   rfl
 exact this _
def Slot.hdr (x : Slot) : Int := leN (x.row.take 8)
theorem Slot.hdr_z (n : Nat) : (Slot.z n).hdr = 0 := zs_hdr n
theorem Slot.hdr_p (n : Nat) (l : Int) (r : List Int) : (Slot.p n l r).hdr = recS l (-1) := leN8 _ (recS_bd _ _).1 (recS_bd _ _).2 _
theorem Slot.hdr_b (t : Int) (d : List Int) (n k : Nat) : (Slot.b t d n k).hdr = recS (-(8 + (d.length : Int))) t := rcB_head _ _ _ (recS_bd _ _).1 (recS_bd _ _).2
theorem Slot.hdr_w (t : Int) (d : List Int) (n : Nat) : (Slot.w t d n).hdr = recS (8 + (d.length : Int)) t := rcB_head _ _ _ (recS_bd _ _).1 (recS_bd _ _).2
def ln : List (Slot × Nat) → Nat
 | [] => 0
 | x :: r => x.1.n + ln r
def rows (A : List (Slot × Nat)) : List (List Int) := A.map fun x => x.1.row
def msgs : List (Slot × Nat) → List (Int × List Int)
 | [] => []
 | (.w t d _, _) :: r => (t, d) :: msgs r
 | (_, _) :: r => msgs r
theorem ln_app (A B : List (Slot × Nat)) : ln (A ++ B) = ln A + ln B := by
 induction A with
 | nil => simp [ln]
 | cons x r ih =>
  show x.1.n + ln (r ++ B) = x.1.n + ln r + ln B
  rw [ih]
  omega
theorem msgs_app (A B : List (Slot × Nat)) : msgs (A ++ B) = msgs A ++ msgs B := by
 induction A with
 | nil => rfl
 | cons x r ih =>
  obtain ⟨x, i⟩ := x
  cases x with
  | w t d n =>
   show (t, d) :: msgs (r ++ B) = (t, d) :: (msgs r ++ msgs B)
   rw [ih]
  | z n => exact ih
  | p n l r => exact ih
  | b t d n k => exact ih
variable {A : List (Slot × Nat)}
theorem tot_rows (h : ∀ x ∈ A, x.1.ok) : tot (rows A) = ln A := by
 induction A with
 | nil => rfl
 | cons x r ih =>
  show tot (x.1.row :: rows r) = x.1.n + ln r
  rw [tot_cons, ih (fun y hy => h y (List.mem_cons_of_mem _ hy)), Slot.len (h x (List.mem_cons_self ..))]
theorem ln_take_set (A : List (Slot × Nat)) (j : Nat) (x y : Slot × Nat) (hx : A[j]? = some x) (hn : y.1.n = x.1.n) (m : Nat) : ln ((A.set j y).take m) = ln (A.take m) := by
 induction A generalizing j m with
 | nil => simp at hx
 | cons a r ih =>
  cases m with
  | zero => rfl
  | succ m =>
   cases j with
   | zero =>
    obtain rfl : a = x := by simpa using hx
    show y.1.n + ln (r.take m) = a.1.n + ln (r.take m)
    rw [hn]
   | succ j =>
    show a.1.n + ln ((r.set j y).take m) = a.1.n + ln (r.take m)
    rw [ih j (by simpa using hx)]
theorem ln_set (A : List (Slot × Nat)) (j : Nat) (x y : Slot × Nat) (hx : A[j]? = some x) (hn : y.1.n = x.1.n) : ln (A.set j y) = ln A := by
 have := ln_take_set A j x y hx hn A.length
 rwa [List.take_of_length_le (by simp), List.take_of_length_le (by simp)] at this
theorem ln_take_le (A : List (Slot × Nat)) (j : Nat) : ln (A.take j) ≤ ln A := by
 have h := ln_app (A.take j) (A.drop j)
 rw [List.take_append_drop] at h
 omega
theorem ln_take_add (A : List (Slot × Nat)) {k j : Nat} (h : k ≤ j) : ln (A.take j) = ln (A.take k) + ln ((A.drop k).take (j - k)) := by
 obtain ⟨e, rfl⟩ : ∃ e, j = k + e := ⟨j - k, by omega⟩
 rw [List.take_add, ln_app, show k + e - k = e by omega]
variable {x : Slot × Nat}
theorem ln_take_succ {j : Nat} (h : A[j]? = some x) : ln (A.take (j + 1)) = ln (A.take j) + x.1.n := by
 rw [List.take_add_one, h, ln_app]
 rfl
theorem ln_mono (h : ∀ x ∈ A, x.1.ok) {i j : Nat} {x : Slot × Nat} (hx : A[i]? = some x) (hij : i < j) : ln (A.take i) < ln (A.take j) := by
 have h1 := ln_take_succ hx
 have h2 := ln_take_add A (show i + 1 ≤ j by omega)
 have h3 := (h x (List.mem_of_getElem? hx)).n0
 omega
def Uncl (A : List (Slot × Nat)) (i : Nat) : Prop := ∀ x ∈ A, x.2 ≠ i
structure Its (A : List (Slot × Nat)) (i j : Nat) (pad : Slot → Bool) (x : Slot) (m : PutM) : Prop where
 at_ : A[j]? = some (x, i)
 cl : m.cl = true
 pos : m.pos = (ln (A.take j) : Nat)
 uq : ∀ j' y, A[j']? = some (y, i) → j' = j ∨ (j' + 1 = j ∧ pad y = true)
def Tl (A : List (Slot × Nat)) (t : Int) : Prop := ∃ t' : Nat, t = t' ∧ t' ≤ ln A
def Fits (m : PutM) (t : Int) : Prop := m.hd ≤ t → m.c.nd ≤ m.c.s - (t - m.hd)
def PcRel (b s : Nat) (A : List (Slot × Nat)) (i : Nat) (m : PutM) : Prop :=
 match m.pc with
 | .done => (m.e = 0 ∧ m.c.ok = true ∧ ∃ j, Its A i j Slot.isP (.w m.c.typ m.c.d m.c.nd.toNat) m) ∨ (m.e ≠ 0 ∧ m.e ≠ 10 ∧ Uncl A i)
 | .hd0 => Uncl A i
 | .tl => Uncl A i
 | .rm t => Tl A t ∧ Uncl A i
 | .rs t v => Tl A t ∧ v = m.hd ∧ Fits m t ∧ Uncl A i
 | .ph t => Tl A t ∧ Fits m t ∧ m.c.s - t % m.c.s < m.c.nd ∧ Uncl A i
 | .ps t v => Tl A t ∧ v = m.hd ∧ Fits m t ∧ m.c.s - t % m.c.s < m.c.nd ∧ m.c.nd ≤ m.hd % m.c.s ∧ Uncl A i
 | .cs t pad => Tl A t ∧ Fits m t ∧ ((pad = 0 ∧ m.c.nd ≤ m.c.s - t % m.c.s) ∨ (pad = m.c.s - t % m.c.s ∧ m.c.s - t % m.c.s < m.c.nd ∧ m.c.nd ≤ m.hd % m.c.s)) ∧ Uncl A i
 | .pd t => ∃ (j g : Nat), A[j]? = some (.z g, i) ∧ t = (ln (A.take j) : Nat) ∧ (g : Int) = m.c.s - t % m.c.s ∧ Its A i (j + 1) Slot.isZ (.z m.c.nd.toNat) m
 | .wh a => ∃ j, Its A i j Slot.isP (.z m.c.nd.toNat) m ∧ a = (b + ln (A.take j) % s : Nat)
 | .wb a p l => ∃ j, Its A i j Slot.isP (.b m.c.typ m.c.d m.c.nd.toNat (m.c.d.length - l.length)) m ∧ a = (b + ln (A.take j) % s : Nat) ∧ p = a + 8 + (m.c.d.length - l.length : Nat) ∧ l = m.c.d.drop (m.c.d.length - l.length) ∧ l.length ≠ 0
 | .fi a => ∃ j, Its A i j Slot.isP (.b m.c.typ m.c.d m.c.nd.toNat m.c.d.length) m ∧ a = (b + ln (A.take j) % s : Nat)
structure PRel (b s H : Nat) (A : List (Slot × Nat)) (i : Nat) (m : PutM) : Prop where
 cb : m.c.b = b
 cs : m.c.s = s
 db : IsB m.c.d
 ty : m.c.typ ≤ 2147483647
 lv : m.live = true → m.c.ok = true ∧ m.e = 10
 hd : ∃ h : Nat, m.hd = h ∧ h ≤ H
 pc : PcRel b s A i m
variable {i : Nat}
theorem Uncl.grow {A M : List (Slot × Nat)} (h : Uncl A i) (hM : ∀ x ∈ M, x.2 ≠ i) : Uncl (A ++ M) i := by
 intro x hx
 rcases List.mem_append.1 hx with hx | hx
 ·exact h x hx
 ·exact hM x hx
theorem Uncl.set {i j0 i0 : Nat} {y : Slot} (h : Uncl A i) (hi : i0 ≠ i) : Uncl (A.set j0 (y, i0)) i := by
 intro x hx
 rcases List.mem_or_eq_of_mem_set hx with hx | rfl
 ·exact h x hx
 ·exact hi
variable {pad : Slot → Bool} {m : PutM}
theorem Its.grow {A M : List (Slot × Nat)} {i j : Nat} {x : Slot} (h : Its A i j pad x m) (hM : ∀ x ∈ M, x.2 ≠ i) : Its (A ++ M) i j pad x m := by
 have hj : j < A.length := (List.getElem?_eq_some_iff.1 h.at_).1
 refine ⟨by rw [List.getElem?_append_left hj]; exact h.at_, h.cl, by rw [List.take_append_of_le_length (by omega)]; exact h.pos, ?_⟩
 intro j' y hy
 by_cases hj' : j' < A.length
 ·rw [List.getElem?_append_left hj'] at hy
  exact h.uq j' y hy
 ·rw [List.getElem?_append_right (by omega)] at hy
  exact absurd rfl (hM _ (List.mem_of_getElem? hy))
theorem Its.set {i j j0 i0 : Nat} {x x0 y : Slot} (h : Its A i j pad x m) (hi : i0 ≠ i) (hj : A[j0]? = some (x0, i0)) (hn : y.n = x0.n) : Its (A.set j0 (y, i0)) i j pad x m := by
 have hne : j0 ≠ j := by
  rintro rfl
  rw [h.at_] at hj
  cases hj
  exact hi rfl
 refine ⟨by rw [List.getElem?_set_ne hne]; exact h.at_, h.cl, by rw [ln_take_set A j0 (x0, i0) (y, i0) hj hn]; exact h.pos, ?_⟩
 intro j' y' hy
 by_cases e : j0 = j'
 ·subst e
  have hl : j0 < A.length := (List.getElem?_eq_some_iff.1 hj).1
  rw [List.getElem?_set_self hl] at hy
  cases hy
  exact absurd rfl hi
 ·rw [List.getElem?_set_ne e] at hy
  exact h.uq j' y' hy
theorem Tl.grow {A M : List (Slot × Nat)} {t : Int} (h : Tl A t) : Tl (A ++ M) t := by
 obtain ⟨t', e, h⟩ := h
 exact ⟨t', e, by rw [ln_app]; omega⟩
theorem Tl.set {j0 : Nat} {x y : Slot × Nat} {t : Int} (h : Tl A t) (hj : A[j0]? = some x) (hn : y.1.n = x.1.n) : Tl (A.set j0 y) t := by
 obtain ⟨t', e, h⟩ := h
 exact ⟨t', e, by rw [ln_set A j0 x y hj hn]; exact h⟩
theorem getElem?_grow {A M : List (Slot × Nat)} {j : Nat} (h : A[j]? = some x) : (A ++ M)[j]? = some x ∧ (A ++ M).take j = A.take j := by
 have hj : j < A.length := (List.getElem?_eq_some_iff.1 h).1
 exact ⟨by rw [List.getElem?_append_left hj]; exact h, by rw [List.take_append_of_le_length (by omega)]⟩
theorem PRel.grow {b s H : Nat} {A M : List (Slot × Nat)} (h : PRel b s H A i m) (hM : ∀ x ∈ M, x.2 ≠ i) : PRel b s H (A ++ M) i m := by
 obtain ⟨h1, h2, h3, h4, h5, h6, h7⟩ := h
 refine ⟨h1, h2, h3, h4, h5, h6, ?_⟩
 have tk : ∀ j x, A[j]? = some x → ln ((A ++ M).take j) = ln (A.take j) := fun j x e => by rw [(getElem?_grow e).2]
 unfold PcRel at h7 ⊢
 split at h7
 ·rcases h7 with ⟨a, b, j, c⟩ | ⟨a, b, c⟩
  ·exact .inl ⟨a, b, j, c.grow hM⟩
  ·exact .inr ⟨a, b, c.grow hM⟩
 ·exact h7.grow hM
 ·exact h7.grow hM
 ·exact ⟨h7.1.grow, h7.2.grow hM⟩
 ·exact ⟨h7.1.grow, h7.2.1, h7.2.2.1, h7.2.2.2.grow hM⟩
 ·exact ⟨h7.1.grow, h7.2.1, h7.2.2.1, h7.2.2.2.grow hM⟩
 ·exact ⟨h7.1.grow, h7.2.1, h7.2.2.1, h7.2.2.2.1, h7.2.2.2.2.1, h7.2.2.2.2.2.grow hM⟩
 ·exact ⟨h7.1.grow, h7.2.1, h7.2.2.1, h7.2.2.2.grow hM⟩
 ·obtain ⟨j, g, a, b, c, d⟩ := h7
  exact ⟨j, g, (getElem?_grow a).1, by rw [tk _ _ a]; exact b, c, d.grow hM⟩
 ·obtain ⟨j, a, b⟩ := h7
  exact ⟨j, a.grow hM, by rw [tk _ _ a.at_]; exact b⟩
 ·obtain ⟨j, a, b, c, d⟩ := h7
  exact ⟨j, a.grow hM, by rw [tk _ _ a.at_]; exact b, c, d⟩
 ·obtain ⟨j, a, b⟩ := h7
  exact ⟨j, a.grow hM, by rw [tk _ _ a.at_]; exact b⟩
theorem PRel.set {b s H : Nat} {i j0 i0 : Nat} {x0 y : Slot} (h : PRel b s H A i m) (hi : i0 ≠ i) (hj : A[j0]? = some (x0, i0)) (hn : y.n = x0.n) : PRel b s H (A.set j0 (y, i0)) i m := by
 obtain ⟨h1, h2, h3, h4, h5, h6, h7⟩ := h
 refine ⟨h1, h2, h3, h4, h5, h6, ?_⟩
 have tk : ∀ j, ln ((A.set j0 (y, i0)).take j) = ln (A.take j) := fun j => ln_take_set A j0 (x0, i0) (y, i0) hj hn j
 have tl : ∀ {t}, Tl A t → Tl (A.set j0 (y, i0)) t := fun h => h.set hj hn
 unfold PcRel at h7 ⊢
 split at h7
 ·rcases h7 with ⟨a, b, j, c⟩ | ⟨a, b, c⟩
  ·exact .inl ⟨a, b, j, c.set hi hj hn⟩
  ·exact .inr ⟨a, b, c.set hi⟩
 ·exact h7.set hi
 ·exact h7.set hi
 ·exact ⟨tl h7.1, h7.2.set hi⟩
 ·exact ⟨tl h7.1, h7.2.1, h7.2.2.1, h7.2.2.2.set hi⟩
 ·exact ⟨tl h7.1, h7.2.1, h7.2.2.1, h7.2.2.2.set hi⟩
 ·exact ⟨tl h7.1, h7.2.1, h7.2.2.1, h7.2.2.2.1, h7.2.2.2.2.1, h7.2.2.2.2.2.set hi⟩
 ·exact ⟨tl h7.1, h7.2.1, h7.2.2.1, h7.2.2.2.set hi⟩
 ·obtain ⟨j, g, a, b, c, d⟩ := h7
  refine ⟨j, g, ?_, by rw [tk]; exact b, c, d.set hi hj hn⟩
  rw [List.getElem?_set_ne (by rintro rfl; rw [a] at hj; cases hj; exact hi rfl)]
  exact a
 ·obtain ⟨j, a, b⟩ := h7
  exact ⟨j, a.set hi hj hn, by rw [tk]; exact b⟩
 ·obtain ⟨j, a, b, c, d⟩ := h7
  exact ⟨j, a.set hi hj hn, by rw [tk]; exact b, c, d⟩
 ·obtain ⟨j, a, b⟩ := h7
  exact ⟨j, a.set hi hj hn, by rw [tk]; exact b⟩
structure InvX (D : Prop) (b s : Nat) (bs : List Int) (P : List PutM) (A : List (Slot × Nat)) (k H : Nat) (F : List (List Int)) : Prop where
 so : s = 64 ∨ s = 128 ∨ s = 256 ∨ s = 512 ∨ s = 1024 ∨ s = 2048 ∨ s = 4096 ∨ s = 8192
 b8 : b % 8 = 0
 rg : Rg bs b s H (F ++ rows (A.drop k))
 kl : k ≤ A.length
 fk : H + tot F = ln (A.take k)
 h8 : H % 8 = 0
 ok : ∀ x ∈ A, x.1.ok
 fn : ∀ x ∈ A.take k, x.1.fin = true
 ow : ¬ D → ∀ x ∈ A, x.2 < P.length
 cp : ∃ h : Nat, rdN bs (b + s + 8) 8 = h ∧ h ≤ H
 pt : ∀ i m, P[i]? = some m → PRel b s H A i m
abbrev Inv (b s : Nat) (bs : List Int) (P : List PutM) (A : List (Slot × Nat)) (k H : Nat) (F : List (List Int)) : Prop := InvX False b s bs P A k H F
variable {D : Prop} {b s : Nat} {bs : List Int} {P : List PutM} {k H : Nat} {F : List (List Int)}
theorem InvX.okd (h : InvX D b s bs P A k H F) : ∀ x ∈ A.drop k, x.1.ok := fun x hx => h.ok x (List.mem_of_mem_drop hx)
theorem InvX.all (h : InvX D b s bs P A k H F) : H + tot (F ++ rows (A.drop k)) = ln A := by
 have h1 := ln_app (A.take k) (A.drop k)
 rw [List.take_append_drop] at h1
 rw [tot_app, tot_rows h.okd]
 have := h.fk
 omega
theorem InvX.tail (h : InvX D b s bs P A k H F) : rdN bs (b + s) 8 = (ln A : Nat) := by
 rw [h.rg.tail]
 have := h.all
 omega
theorem InvX.fit (h : InvX D b s bs P A k H F) : H ≤ ln A ∧ ln A ≤ H + s := by
 have h1 := h.all
 have h2 := h.rg.fit
 omega
theorem InvX.turn (h : InvX D b s bs P A k H F) {i : Nat} {m' : PutM} (hm : PRel b s H A i m') : InvX D b s bs (P.set i m') A k H F := by
 refine ⟨h.so, h.b8, h.rg, h.kl, h.fk, h.h8, h.ok, h.fn, fun hd => by rw [List.length_set]; exact h.ow hd, h.cp, ?_⟩
 intro i' m hi
 by_cases e : i = i'
 ·subst e
  by_cases hl : i < P.length
  ·rw [List.getElem?_set_self hl] at hi
   cases hi
   exact hm
  ·rw [List.getElem?_eq_none (by simp; omega)] at hi
   cases hi
 ·rw [List.getElem?_set_ne e] at hi
  exact h.pt i' m hi
theorem InvX.copy (h : InvX D b s bs P A k H F) {v : Nat} (hv : v ≤ H) (hH : H < 18446744073709551616) : InvX D b s (spl bs (b + s + 8) (leB v 8)) P A k H F := by
 have hl := h.rg.len
 refine ⟨h.so, h.b8, h.rg.copy v, h.kl, h.fk, h.h8, h.ok, h.fn, h.ow, ⟨v, ?_, hv⟩, h.pt⟩
 exact rdN_num (by omega) (by omega) (by omega)
theorem Inv.late (h : Inv b s bs P A k H F) {j : Nat} {x : Slot × Nat} (hj : A[j]? = some x) (hx : x.1.fin = false) : k ≤ j := by
 rcases Nat.lt_or_ge j k with hlt | hge
 ·have := h.fn x (List.mem_of_getElem? (i := j) (by rw [List.getElem?_take_of_lt hlt]; exact hj))
  rw [hx] at this
  cases this
 ·exact hge
variable {α : Type}
theorem take_set_ge (l : List α) {k j : Nat} (h : k ≤ j) (y : α) : (l.set j y).take k = l.take k := by
 rw [List.take_set]
 exact List.set_eq_of_length_le (by simp; omega)
theorem Inv.write (h : Inv b s bs P A k H F) {i j : Nat} {x y : Slot} {m' : PutM} (hj : A[j]? = some (x, i)) (hx : x.fin = false) (o : Nat) (ms : List Int)
  (ho : o + ms.length ≤ x.n) (ho0 : o < x.n) (hms : IsB ms) (hy : spl x.row o ms = y.row) (hyo : y.ok) (hyn : y.n = x.n) (hm : PRel b s H (A.set j (y, i)) i m') :
  Inv b s (spl bs (b + ln (A.take j) % s + o) ms) (P.set i m') (A.set j (y, i)) k H F ∧ (A.set j (y, i)).take k = A.take k ∧ ln (A.set j (y, i)) = ln A := by
 have hkj := h.late hj hx
 have hjl : j < A.length := (List.getElem?_eq_some_iff.1 hj).1
 have hln := ln_set A j (x, i) (y, i) hj hyn
 have htk := take_set_ge A hkj (y, i)
 have hxo := h.ok _ (List.mem_of_getElem? hj)
 have hxl := Slot.len hxo
 refine ⟨⟨h.so, h.b8, ?_, by simpa using h.kl, by rw [htk]; exact h.fk, h.h8, ?_, by rw [htk]; exact h.fn, ?_, ?_, ?_⟩, htk, hln⟩
 ·have hdl : (A.drop k)[j - k]? = some (x, i) := by rw [List.getElem?_drop, show k + (j - k) = j by omega]; exact hj
  have hlt : F.length + (j - k) < (F ++ rows (A.drop k)).length := by simp [rows]; omega
  have hel : (F ++ rows (A.drop k))[F.length + (j - k)] = x.row := by
   rw [List.getElem_append_right (by omega)]
   have : (rows (A.drop k))[j - k]? = some x.row := by unfold rows; rw [List.getElem?_map, hdl]; rfl
   have := (List.getElem?_eq_some_iff.1 this).2
   simpa using this
  have hw := h.rg.write (F.length + (j - k)) hlt o ms (by rw [hel, hxl]; exact ho) (by rw [hel, hxl]; exact ho0) hms
  rw [hel, hy] at hw
  have ht : H + tot ((F ++ rows (A.drop k)).take (F.length + (j - k))) = ln (A.take j) := by
   rw [List.take_append, List.take_of_length_le (by omega), show F.length + (j - k) - F.length = j - k by omega, tot_app]
   have e1 : (rows (A.drop k)).take (j - k) = rows ((A.drop k).take (j - k)) := by unfold rows; rw [List.map_take]
   rw [e1, tot_rows (fun z hz => h.okd z (List.mem_of_mem_take hz)), ← Nat.add_assoc, h.fk, ln_take_add A hkj]
  rw [ht] at hw
  have e2 : (F ++ rows (A.drop k)).set (F.length + (j - k)) y.row = F ++ rows ((A.set j (y, i)).drop k) := by
   rw [List.set_append_right _ _ (by omega), show F.length + (j - k) - F.length = j - k by omega, List.drop_set, if_neg (by omega)]
   unfold rows
   rw [List.map_set]
  rw [e2] at hw
  rw [Nat.add_assoc]
  exact hw
 ·intro z hz
  rcases List.mem_or_eq_of_mem_set hz with hz | rfl
  ·exact h.ok z hz
  ·exact hyo
 ·intro _ z hz
  rw [List.length_set]
  rcases List.mem_or_eq_of_mem_set hz with hz | rfl
  ·exact h.ow id z hz
  ·exact h.ow id (x, i) (List.mem_of_getElem? hj)
 ·obtain ⟨c, hc, hcl⟩ := h.cp
  refine ⟨c, ?_, hcl⟩
  have hcr : ln (A.take j) % s + x.n ≤ s := by
   have hdl : (A.drop k)[j - k]? = some (x, i) := by rw [List.getElem?_drop, show k + (j - k) = j by omega]; exact hj
   have hlt : F.length + (j - k) < (F ++ rows (A.drop k)).length := by simp [rows]; omega
   have hel : (F ++ rows (A.drop k))[F.length + (j - k)] = x.row := by
    rw [List.getElem_append_right (by omega)]
    have : (rows (A.drop k))[j - k]? = some x.row := by unfold rows; rw [List.getElem?_map, hdl]; rfl
    have := (List.getElem?_eq_some_iff.1 this).2
    simpa using this
   have ht : H + tot ((F ++ rows (A.drop k)).take (F.length + (j - k))) = ln (A.take j) := by
    rw [List.take_append, List.take_of_length_le (by omega), show F.length + (j - k) - F.length = j - k by omega, tot_app]
    have e1 : (rows (A.drop k)).take (j - k) = rows ((A.drop k).take (j - k)) := by unfold rows; rw [List.map_take]
    rw [e1, tot_rows (fun z hz => h.okd z (List.mem_of_mem_take hz)), ← Nat.add_assoc, h.fk, ln_take_add A hkj]
   have := h.rg.cross _ hlt
   rw [ht, hel, hxl] at this
   exact this
  have hl := h.rg.len
  rw [rdN_far (by omega) (.inr (by omega))]
  exact hc
 ·intro i' m hi
  by_cases e : i = i'
  ·subst e
   by_cases hl : i < P.length
   ·rw [List.getElem?_set_self hl] at hi
    cases hi
    exact hm
   ·rw [List.getElem?_eq_none (by simp; omega)] at hi
    cases hi
  ·rw [List.getElem?_set_ne e] at hi
   exact (h.pt i' m hi).set e hj hyn
theorem u64_sub (x y : Int) : u64 (x - u64 y) = u64 (x - y) := by
 unfold u64
 rw [Int.sub_emod, Int.emod_emod, ← Int.sub_emod]
theorem s64_u64 (z : Int) (h0 : -9223372036854775808 ≤ z) (h1 : z < 9223372036854775808) : s64 (u64 z) = z := by unfold s64 u64; omega
theorem fit_fits {T : Int} (h0 : 0 ≤ m.hd) (h1 : m.hd ≤ 4611686018427387904) (t0 : 0 ≤ T) (t1 : T ≤ 4611686018427387904) (s0 : 0 ≤ m.c.s) (s1 : m.c.s ≤ 8192) (n1 : m.c.nd ≤ m.c.s) : m.fit T = true ↔ Fits m T := by
 unfold PutM.fit Fits
 rw [u64_sub, s64_u64 _ (by omega) (by omega)]
 constructor
 ·intro h _
  exact of_decide_eq_true h
 ·intro h
  refine decide_eq_true ?_
  by_cases c : m.hd ≤ T
  ·exact h c
  ·omega
theorem ld_err {N : Nat} {a : Int} (h0 : 0 ≤ a) (h8 : a % 8 = 0) (h1 : a + 8 ≤ N) : acE N 1 a 8 0 = 0 := acE_at (.inl ⟨.inl rfl, .inr rfl⟩) h0 h1 (by omega) (fun _ => h8)
theorem sto_err {N : Nat} {a : Int} (h0 : 0 ≤ a) (h8 : a % 8 = 0) (h1 : a + 8 ≤ N) : acE N 2 a 8 0 = 0 := acE_at (.inl ⟨.inr (.inl rfl), .inr rfl⟩) h0 h1 (by omega) (fun _ => h8)
theorem rows_zs {M : List (Slot × Nat)} (h : ∀ x ∈ M, x.1.isZ = true) (ho : ∀ x ∈ M, x.1.ok) : (rows M).flatten = zs (ln M) := by
 induction M with
 | nil => rfl
 | cons x r ih =>
  obtain ⟨x, i⟩ := x
  have hx := h (x, i) (List.mem_cons_self ..)
  cases x with
  | z n =>
   show zs n ++ (rows r).flatten = zs (n + ln r)
   rw [ih (fun y hy => h y (List.mem_cons_of_mem _ hy)) (fun y hy => ho y (List.mem_cons_of_mem _ hy)), zs_app]
  | p n l r => cases hx
  | b t d n k => cases hx
  | w t d n => cases hx
theorem Inv.claim (h : Inv b s bs P A k H F) {i : Nat} {m m' : PutM} (hi : P[i]? = some m) (M : List (Slot × Nat)) (hz : ∀ x ∈ M, x.1.isZ = true) (ho : ∀ x ∈ M, x.1.ok) (hw : ∀ x ∈ M, x.2 = i)
  (hfit : ln A + ln M ≤ H + s) (hcross : ∀ q (hq : q < M.length), (ln A + ln (M.take q)) % s + (M[q]).1.n ≤ s) (hb : ln A + ln M < 18446744073709551616) (hm : PRel b s H (A ++ M) i m') :
  Inv b s (spl bs (b + s) (leB ((ln A + ln M : Nat)) 8)) (P.set i m') (A ++ M) k H F ∧ (A ++ M).take k = A.take k := by
 have hal := h.all
 have htm := tot_rows ho
 have htk : (A ++ M).take k = A.take k := List.take_append_of_le_length h.kl
 have hl := h.rg.len
 have hg := h.rg.grow (rows M) (by rw [htm]; exact rows_zs hz ho) (by rw [htm]; omega) (fun q hq => by
   have hq' : q < M.length := by simpa [rows] using hq
   have e1 : (rows M).take q = rows (M.take q) := by unfold rows; rw [List.map_take]
   have e2 : (rows M)[q] = (M[q]).1.row := by simp [rows]
   rw [hal, e1, tot_rows (fun z hz => ho z (List.mem_of_mem_take hz)), e2, Slot.len (ho _ (List.getElem_mem hq'))]
   exact hcross q hq') (fun q hq => by
   have hq' : q < M.length := by simpa [rows] using hq
   have e2 : (rows M)[q] = (M[q]).1.row := by simp [rows]
   have := ho _ (List.getElem_mem hq')
   rw [e2, Slot.len this]
   exact this.n0) (by rw [hal, htm]; exact hb)
 have e3 : (H : Int) + tot (F ++ rows (A.drop k)) + tot (rows M) = (ln A + ln M : Nat) := by rw [htm]; omega
 have e4 : F ++ rows (A.drop k) ++ rows M = F ++ rows ((A ++ M).drop k) := by
  rw [List.drop_append_of_le_length h.kl, List.append_assoc]
  unfold rows
  rw [List.map_append]
 rw [e3, e4] at hg
 refine ⟨⟨h.so, h.b8, hg, by rw [List.length_append]; have := h.kl; omega, by rw [htk]; exact h.fk, h.h8, ?_, by rw [htk]; exact h.fn, ?_, ?_, ?_⟩, htk⟩
 ·intro x hx
  rcases List.mem_append.1 hx with hx | hx
  ·exact h.ok x hx
  ·exact ho x hx
 ·intro _ x hx
  rw [List.length_set]
  rcases List.mem_append.1 hx with hx | hx
  ·exact h.ow id x hx
  ·rw [hw x hx]
   exact (List.getElem?_eq_some_iff.1 hi).1
 ·obtain ⟨c, hc, hcl⟩ := h.cp
  refine ⟨c, ?_, hcl⟩
  have l8 := leB_length ((ln A + ln M : Nat) : Int) 8
  rw [rdN_far (by omega) (.inr (by omega))]
  exact hc
 ·intro i' m1 hi'
  by_cases e : i = i'
  ·subst e
   have hl : i < P.length := (List.getElem?_eq_some_iff.1 hi).1
   rw [List.getElem?_set_self hl] at hi'
   cases hi'
   exact hm
  ·rw [List.getElem?_set_ne e] at hi'
   exact (h.pt i' m1 hi').grow (fun x hx => by rw [hw x hx]; exact e)
structure Bas (b s H : Nat) (c : PutC) (hd e : Int) : Prop where
 cb : c.b = b
 cs : c.s = s
 db : IsB c.d
 ty : c.typ ≤ 2147483647
 ok : c.ok = true
 e : e = 10
 hd : ∃ h : Nat, hd = h ∧ h ≤ H
variable {c : PutC}
theorem Bas.rel {b s H : Nat} {pc : PPc} {hd pos e : Int} {cl : Bool} (h : Bas b s H c hd e) (hp : PcRel b s A i ⟨c, pc, hd, pos, cl, e⟩) : PRel b s H A i ⟨c, pc, hd, pos, cl, e⟩ :=
 ⟨h.cb, h.cs, h.db, h.ty, fun _ => ⟨h.ok, h.e⟩, h.hd, hp⟩
theorem Bas.put {b s H : Nat} {hd e hd' : Int} (h : Bas b s H c hd e) (h' : ∃ h : Nat, hd' = h ∧ h ≤ H) : Bas b s H c hd' e := ⟨h.cb, h.cs, h.db, h.ty, h.ok, h.e, h'⟩
theorem Bas.bd {b s H : Nat} {hd e : Int} (h : Bas b s H c hd e) : c.b = b ∧ c.s = s ∧ 64 ≤ c.s ∧ c.s ≤ 8192 ∧ c.s % 8 = 0 ∧ c.b % 8 = 0 ∧ c.nd = ((c.d.length : Int) + 15) / 8 * 8 ∧ 8 + (c.d.length : Int) ≤ c.nd ∧ c.nd < 16 + (c.d.length : Int) ∧ (c.d.length : Int) ≤ c.s / 8 ∧ 1 ≤ c.typ ∧ c.nd % 8 = 0 ∧ c.n = 8 + (c.d.length : Int) := by
 obtain ⟨o1, o2, o3⟩ := PutC.ok_bd h.ok
 obtain ⟨g1, g2, g3, g4, g5, g6⟩ := rgOk_bd o1
 obtain ⟨q1, q2, q3⟩ := PutC.nd_bd h.ok
 have := rg_pow g1 g2 g3
 refine ⟨h.cb, h.cs, g2, g3, by omega, g5, q1, q2, q3, o3, o2, by omega, rfl⟩
theorem Bas.slot {b s H : Nat} {hd e : Int} (h : Bas b s H c hd e) : 8 ≤ c.nd.toNat ∧ c.nd.toNat % 8 = 0 ∧ c.nd.toNat ≤ 8192 ∧ c.nd.toNat = (c.d.length + 15) / 8 * 8 ∧ 8 + c.d.length ≤ c.nd.toNat := by
 obtain ⟨-, -, h1, h2, h3, h4, h5, h6, h7, h8, h9, h10, h11⟩ := h.bd
 refine ⟨?_, ?_, ?_, ?_, ?_⟩ <;> omega
theorem PRel.gapped {b s H : Nat} {pc : PPc} {hd pos e : Int} {cl : Bool} (h : Bas b s H c hd e) {t : Int} (h1 : Tl A t) (h2 : Fits ⟨c, pc, hd, pos, cl, e⟩ t) (h3 : Uncl A i) : PRel b s H A i ((PutM.mk c pc hd pos cl e).gapped t) := by
 unfold PutM.gapped
 dsimp only
 split
 ·rename_i h4
  exact h.rel ⟨h1, h2, .inl ⟨rfl, h4⟩, h3⟩
 split
 ·rename_i h4 h5
  exact h.rel ⟨h1, h2, .inr ⟨rfl, by show c.s - t % c.s < c.nd; omega, h5⟩, h3⟩
 ·rename_i h4 h5
  exact h.rel ⟨h1, h2, by show c.s - t % c.s < c.nd; omega, h3⟩
def PutGo (b s : Nat) (bs : List Int) (P : List PutM) (A : List (Slot × Nat)) (k H : Nat) (F : List (List Int)) (i : Nat) (m : PutM) : Prop :=
 m.want.err bs.length = 0 ∧ ∃ A', Inv b s (m.want.out bs) (P.set i (m.step (m.want.ans bs))) A' k H F ∧ A'.take k = A.take k ∧ (ln A' = ln A ∨ ∃ t pad, m.pc = .cs t pad ∧ (m.want.ans bs).d = true)
theorem put_cs (h : Inv b s bs P A k H F) {i : Nat} {c : PutC} {t pad hd pos e : Int} {cl : Bool} (hi : P[i]? = some ⟨c, .cs t pad, hd, pos, cl, e⟩) (hT : ln A ≤ 4611686018427387000) : PutGo b s bs P A k H F i ⟨c, .cs t pad, hd, pos, cl, e⟩ := by
 obtain ⟨r1, r2, r3, r4, r5, r6, ⟨t', rfl, ht'⟩, r8, r9, r10⟩ := h.pt i _ hi
 have hB : Bas b s H c hd e := ⟨r1, r2, r3, r4, (r5 rfl).1, (r5 rfl).2, r6⟩
 obtain ⟨c1, c2, c3, c4, c5, c6, c7, c8, c9, c10, c11, c12, c13⟩ := hB.bd
 obtain ⟨n1, n2, n3, n4, n5⟩ := hB.slot
 obtain ⟨hh, rfl, hhH⟩ := r6
 dsimp only at r8 r9
 unfold Fits at r8
 dsimp only at r8
 have htl := h.tail
 have hft := h.fit
 have hln := h.rg.len
 have hs0 := h.rg.s0
 have ea : (c.b + c.s).toNat = b + s := by omega
 have e9 : (256 : Int) ^ 8 = 18446744073709551616 := by decide
 refine ⟨acE_at (.inl ⟨.inr (.inr rfl), .inr rfl⟩) (by show (0 : Int) ≤ c.b + c.s; omega) (by show c.b + c.s + 8 ≤ (bs.length : Int); omega) (by show (0 : Int) ≤ 8; omega) (fun _ => by show (c.b + c.s) % 8 = 0; omega), ?_⟩
 have hout : (PutM.mk c (.cs t' pad) hh pos cl e).want.out bs = if (ln A : Int) = (t' : Int) % 256 ^ 8 then spl bs (b + s) (leB (u64 ((t' : Int) + (c.nd + pad))) 8) else bs := by
  show (if rdN bs (c.b + c.s).toNat 8 = (t' : Int) % 256 ^ 8 then spl bs (c.b + c.s).toNat (leB (u64 ((t' : Int) + (c.nd + pad))) 8) else bs) = _
  rw [ea, htl]
 have hstep : (PutM.mk c (.cs t' pad) hh pos cl e).step ((PutM.mk c (.cs t' pad) hh pos cl e).want.ans bs) = if ((ln A : Int) == (t' : Int) % 256 ^ 8) = true then ⟨c, if pad = 0 then .wh (c.b + (t' : Int) % c.s) else .pd t', hh, s64 (s64 t' + pad), true, e⟩ else ⟨c, .tl, hh, pos, cl, e⟩ := by
  show (if (rdN bs (c.b + c.s).toNat 8 == (t' : Int) % 256 ^ 8) = true then PutM.mk c (if pad = 0 then .wh (c.b + (t' : Int) % c.s) else .pd t') hh (s64 (s64 t' + pad)) true e else ⟨c, .tl, hh, pos, cl, e⟩) = _
  rw [ea, htl]
 rw [hout, hstep, e9]
 by_cases ht : t' = ln A
 ·subst ht
  have e10 : (ln A : Int) = (ln A : Int) % 18446744073709551616 := by omega
  have hdn : ((PutM.mk c (.cs (ln A : Int) pad) hh pos cl e).want.ans bs).d = true := by
   show (rdN bs (c.b + c.s).toNat 8 == (ln A : Int) % 256 ^ 8) = true
   rw [ea, htl, e9]
   simpa using e10
  rw [if_pos e10, if_pos (by simpa using e10)]
  have hm : (ln A : Int) % c.s = (ln A % s : Nat) := by rw [c2]; omega
  have hml : ln A % s < s := Nat.mod_lt _ hs0
  rw [hm] at r9 ⊢
  have r8' := r8 (by omega)
  have hz : ∀ n : Nat, 8 ≤ n → n % 8 = 0 → n ≤ 8192 → (Slot.z n).ok := fun n a b c => ⟨a, b, c, trivial⟩
  have h8 : ln A % 8 = 0 := by
   have hh8 := h.h8
   have : ∀ L : List (Slot × Nat), (∀ x ∈ L, x.1.ok) → ln L % 8 = 0 := by
    intro L hL
    induction L with
    | nil => rfl
    | cons x r ih =>
     have h1 := (hL x (List.mem_cons_self ..)).n8
     have h2 := ih (fun y hy => hL y (List.mem_cons_of_mem _ hy))
     show (x.1.n + ln r) % 8 = 0
     omega
   exact this A h.ok
  have hs8 : s % 8 = 0 := by omega
  have hm8 : ln A % s % 8 = 0 := by rw [Nat.mod_mod_of_dvd _ (Nat.dvd_of_mod_eq_zero hs8)]; exact h8
  by_cases hp : pad = 0
  ·subst hp
   rcases r9 with ⟨_, r9⟩ | ⟨r9, _, _⟩
   ·obtain ⟨N, hN⟩ : ∃ N, N = c.nd.toNat := ⟨_, rfl⟩
    have hpos : s64 (s64 (ln A : Int) + 0) = ln A := by
     have e1 : s64 (ln A : Int) = ln A := by unfold s64; omega
     rw [e1, Int.add_zero, e1]
    have hu : u64 ((ln A : Int) + (c.nd + 0)) = (ln A + ln [(Slot.z N, i)] : Nat) := by
     show u64 _ = ((ln A + (N + 0) : Nat) : Int)
     unfold u64
     omega
    have uq : ∀ j' y, (A ++ [(Slot.z N, i)])[j']? = some (y, i) → j' = A.length ∨ (j' + 1 = A.length ∧ Slot.isP y = true) := by
     intro j' y hy
     by_cases hj : j' < A.length
     ·rw [List.getElem?_append_left hj] at hy
      exact absurd rfl (r10 _ (List.mem_of_getElem? hy))
     ·have := (List.getElem?_eq_some_iff.1 hy).1
      simp at this
      left
      omega
    obtain ⟨hI, hk⟩ := h.claim hi (m' := ⟨c, .wh (c.b + (ln A % s : Nat)), hh, ln A, true, e⟩) [(.z N, i)] (by simp [Slot.isZ]) (by intro x hx; obtain rfl := List.mem_singleton.1 hx; exact hz N (by omega) (by omega) (by omega)) (by simp) (by show ln A + (N + 0) ≤ H + s; omega) (by
      intro q hq
      have : q = 0 := by simp at hq; omega
      subst this
      show (ln A + 0) % s + N ≤ s
      rw [Nat.add_zero]
      omega) (by show ln A + (N + 0) < _; omega) (hB.rel ⟨A.length, ⟨by rw [List.getElem?_append_right (Nat.le_refl _), Nat.sub_self, ← hN]; rfl, rfl, by rw [List.take_left], uq⟩, by rw [List.take_left]; omega⟩)
    refine ⟨_, ?_, hk, .inr ⟨_, _, rfl, hdn⟩⟩
    rw [hu, if_pos rfl, hpos]
    exact hI
   ·omega
  ·rcases r9 with ⟨r9, _⟩ | ⟨r9, r9b, r9c⟩
   ·exact absurd r9 hp
   ·rw [if_neg hp]
    obtain ⟨N, hN⟩ : ∃ N, N = c.nd.toNat := ⟨_, rfl⟩
    obtain ⟨g, hg⟩ : ∃ g : Nat, pad = g := ⟨pad.toNat, by omega⟩
    subst hg
    have hgs : g = s - ln A % s := by omega
    -- the place of the head that is known
    have hx : (hh : Int) % c.s = (hh % s : Nat) := by rw [c2]; omega
    rw [hx] at r9c
    have hdm : ln A % s = if ln A - hh ≤ ln A % s then hh % s + (ln A - hh) else hh % s + (ln A - hh) - s := by
     have hlt : ln A - hh < s := by omega
     have e1 : ln A = hh + (ln A - hh) := by omega
     have e2 : ln A % s = (hh % s + (ln A - hh)) % s := by
      conv => lhs; rw [e1]
      rw [Nat.mod_add_mod]
     have hhs : hh % s < s := Nat.mod_lt _ hs0
     by_cases hc : hh % s + (ln A - hh) < s
     ·rw [Nat.mod_eq_of_lt hc] at e2
      rw [if_pos (by omega)]
      exact e2
     ·have e3 : (hh % s + (ln A - hh)) % s = hh % s + (ln A - hh) - s := by rw [Nat.mod_eq_sub_mod (by omega), Nat.mod_eq_of_lt (by omega)]
      rw [e3] at e2
      rw [if_neg (by omega)]
      exact e2
    have hcl : ln A - hh ≤ ln A % s := by
     by_cases hc : ln A - hh ≤ ln A % s
     ·exact hc
     ·omega
    rw [if_pos hcl] at hdm
    have hpos : s64 (s64 (ln A : Int) + g) = (ln A + g : Nat) := by
     have e1 : s64 (ln A : Int) = ln A := by unfold s64; omega
     rw [e1]
     unfold s64
     omega
    have hu : u64 ((ln A : Int) + (c.nd + g)) = (ln A + ln [(Slot.z g, i), (Slot.z N, i)] : Nat) := by
     show u64 _ = ((ln A + (g + (N + 0)) : Nat) : Int)
     unfold u64
     omega
    have hgm : (ln A + g) % s = 0 := by
     have : ln A + g = s * (ln A / s + 1) := by
      have := Nat.div_add_mod (ln A) s
      rw [Nat.mul_add, Nat.mul_one]
      omega
     rw [this, Nat.mul_mod_right]
    have hta : ∀ q, q ≤ A.length → (A ++ [(Slot.z g, i), (Slot.z N, i)]).take q = A.take q := fun q hq => List.take_append_of_le_length hq
    have ht1 : ln ((A ++ [(Slot.z g, i), (Slot.z N, i)]).take (A.length + 1)) = ln A + g := by
     rw [List.take_append, List.take_of_length_le (by omega), show A.length + 1 - A.length = 1 by omega, ln_app]
     rfl
    have uq : ∀ j' y, (A ++ [(Slot.z g, i), (Slot.z N, i)])[j']? = some (y, i) → j' = A.length + 1 ∨ (j' + 1 = A.length + 1 ∧ Slot.isZ y = true) := by
     intro j' y hy
     by_cases hj : j' < A.length
     ·rw [List.getElem?_append_left hj] at hy
      exact absurd rfl (r10 _ (List.mem_of_getElem? hy))
     ·have hj2 := (List.getElem?_eq_some_iff.1 hy).1
      simp at hj2
      have : j' = A.length ∨ j' = A.length + 1 := by omega
      rcases this with rfl | rfl
      ·right
       rw [List.getElem?_append_right (Nat.le_refl _), Nat.sub_self] at hy
       cases hy
       exact ⟨rfl, rfl⟩
      ·left
       rfl
    obtain ⟨hI, hk⟩ := h.claim hi (m' := ⟨c, .pd (ln A : Int), hh, (ln A + g : Nat), true, e⟩) [(.z g, i), (.z N, i)] (by simp [Slot.isZ]) (by
      intro x hx
      rcases List.mem_cons.1 hx with rfl | hx
      ·exact hz g (by omega) (by omega) (by omega)
      ·obtain rfl := List.mem_singleton.1 hx
       exact hz N (by omega) (by omega) (by omega)) (by simp) (by show ln A + (g + (N + 0)) ≤ H + s; omega) (by
      intro q hq
      have : q = 0 ∨ q = 1 := by simp at hq; omega
      rcases this with rfl | rfl
      ·show (ln A + 0) % s + g ≤ s
       rw [Nat.add_zero]
       omega
      ·show (ln A + (g + 0)) % s + N ≤ s
       rw [Nat.add_zero, hgm]
       omega) (by show ln A + (g + (N + 0)) < _; omega) (hB.rel ⟨A.length, g, by rw [List.getElem?_append_right (Nat.le_refl _), Nat.sub_self]; rfl, by rw [List.take_left], by dsimp only; omega, ⟨by rw [List.getElem?_append_right (by omega), show A.length + 1 - A.length = 1 by omega, ← hN]; rfl, rfl, by rw [ht1], uq⟩⟩)
    refine ⟨_, ?_, hk, .inr ⟨_, _, rfl, hdn⟩⟩
    rw [hu, hpos]
    exact hI
 ·rw [if_neg (by omega), if_neg (by simp; omega)]
  exact ⟨A, h.turn (hB.rel r10), rfl, .inl rfl⟩
theorem Its.own {i j : Nat} {x y : Slot} {m m' : PutM} (h : Its A i j pad x m) (hn : y.n = x.n) (hc : m'.cl = m.cl) (hp : m'.pos = m.pos) : Its (A.set j (y, i)) i j pad y m' := by
 have hl : j < A.length := (List.getElem?_eq_some_iff.1 h.at_).1
 refine ⟨List.getElem?_set_self hl, by rw [hc]; exact h.cl, by rw [hp, ln_take_set A j (x, i) (y, i) h.at_ hn]; exact h.pos, ?_⟩
 intro j' z hz
 by_cases e : j = j'
 ·exact .inl e.symm
 ·rw [List.getElem?_set_ne e] at hz
  exact h.uq j' z hz
theorem InvX.inside (h : InvX D b s bs P A k H F) {j : Nat} {x : Slot × Nat} (hj : A[j]? = some x) (hx : k ≤ j) : ln (A.take j) % s + x.1.n ≤ s := by
 have hxl := Slot.len (h.ok _ (List.mem_of_getElem? hj))
 have hjl : j < A.length := (List.getElem?_eq_some_iff.1 hj).1
 have hdl : (A.drop k)[j - k]? = some x := by rw [List.getElem?_drop, show k + (j - k) = j by omega]; exact hj
 have hlt : F.length + (j - k) < (F ++ rows (A.drop k)).length := by simp [rows]; omega
 have hel : (F ++ rows (A.drop k))[F.length + (j - k)] = x.1.row := by
  rw [List.getElem_append_right (by omega)]
  have : (rows (A.drop k))[j - k]? = some x.1.row := by unfold rows; rw [List.getElem?_map, hdl]; rfl
  have := (List.getElem?_eq_some_iff.1 this).2
  simpa using this
 have ht : H + tot ((F ++ rows (A.drop k)).take (F.length + (j - k))) = ln (A.take j) := by
  rw [List.take_append, List.take_of_length_le (by omega), show F.length + (j - k) - F.length = j - k by omega, tot_app]
  have e1 : (rows (A.drop k)).take (j - k) = rows ((A.drop k).take (j - k)) := by unfold rows; rw [List.map_take]
  rw [e1, tot_rows (fun z hz => h.okd z (List.mem_of_mem_take hz)), ← Nat.add_assoc, h.fk, ln_take_add A hx]
 have := h.rg.cross _ hlt
 rw [ht, hel, hxl] at this
 exact this
theorem ln_mod8 : ∀ {L : List (Slot × Nat)}, (∀ x ∈ L, x.1.ok) → ln L % 8 = 0 := by
 intro L hL
 induction L with
 | nil => rfl
 | cons x r ih =>
  have h1 := (hL x (List.mem_cons_self ..)).n8
  have h2 := ih (fun y hy => hL y (List.mem_cons_of_mem _ hy))
  show (x.1.n + ln r) % 8 = 0
  omega
theorem InvX.pos8 (h : InvX D b s bs P A k H F) (j : Nat) : ln (A.take j) % s % 8 = 0 := by
 have hs8 : s % 8 = 0 := by have := h.so; omega
 rw [Nat.mod_mod_of_dvd _ (Nat.dvd_of_mod_eq_zero hs8)]
 exact ln_mod8 (fun x hx => h.ok x (List.mem_of_mem_take hx))
theorem put_pd (h : Inv b s bs P A k H F) {i : Nat} {c : PutC} {t hd pos e : Int} {cl : Bool} (hi : P[i]? = some ⟨c, .pd t, hd, pos, cl, e⟩) : PutGo b s bs P A k H F i ⟨c, .pd t, hd, pos, cl, e⟩ := by
 obtain ⟨r1, r2, r3, r4, r5, r6, j, g, a1, a2, a3, hI⟩ := h.pt i _ hi
 have hB : Bas b s H c hd e := ⟨r1, r2, r3, r4, (r5 rfl).1, (r5 rfl).2, r6⟩
 obtain ⟨c1, c2, c3, c4, c5, c6, c7, c8, c9, c10, c11, c12, c13⟩ := hB.bd
 have hs0 := h.rg.s0
 have hln := h.rg.len
 dsimp only at a3
 have hm : t % c.s = (ln (A.take j) % s : Nat) := by rw [a2, c2]; omega
 have hml : ln (A.take j) % s < s := Nat.mod_lt _ hs0
 have h8 := h.pos8 j
 rw [hm] at a3
 have hgo := h.ok _ (List.mem_of_getElem? a1)
 obtain ⟨g1, g2, g3, _⟩ := hgo
 have g1 : 8 ≤ g := g1
 have g2 : g % 8 = 0 := g2
 have g3 : g ≤ 8192 := g3
 have hk := h.late a1 rfl
 have hins := h.inside a1 hk
 have hins : ln (A.take j) % s + g ≤ s := hins
 have hw : (PutM.mk c (.pd t) hd pos cl e).want = ⟨2, c.b + t % c.s, 8, recS (c.s - t % c.s) (-1), 0, []⟩ := rfl
 have herr : (PutM.mk c (.pd t) hd pos cl e).want.err bs.length = 0 := by
  rw [hw]
  show acE bs.length 2 (c.b + t % c.s) 8 0 = 0
  rw [hm]
  exact sto_err (by omega) (by omega) (by omega)
 have l8 := leB_length (recS (g : Int) (-1)) 8
 have hout : (PutM.mk c (.pd t) hd pos cl e).want.out bs = spl bs (b + ln (A.take j) % s + 0) (leB (recS (g : Int) (-1)) 8) := by
  show spl bs (c.b + t % c.s).toNat (leB (recS (c.s - t % c.s) (-1)) 8) = _
  rw [hm, ← a3]
  congr 1
  omega
 have hrow : spl (Slot.z g).row 0 (leB (recS (g : Int) (-1)) 8) = (Slot.p g g (zs (g - 8))).row := by
  show spl (zs g) 0 (leB (recS (g : Int) (-1)) 8) = leB (recS (g : Int) (-1)) 8 ++ zs (g - 8)
  rw [spl_head _ g1]
  unfold rcB
  simp
 have hyo : (Slot.p g g (zs (g - 8))).ok := by
  refine ⟨g1, g2, g3, ?_, zs_len _, by omega, by omega⟩
  intro x hx
  simp [zs] at hx
  omega
 have hne : j + 1 ≠ j := by omega
 have hIt : Its (A.set j (.p g g (zs (g - 8)), i)) i (j + 1) Slot.isP (.z c.nd.toNat) ⟨c, .wh c.b, hd, pos, cl, e⟩ := by
  have hl : j < A.length := (List.getElem?_eq_some_iff.1 a1).1
  refine ⟨by rw [List.getElem?_set_ne (Ne.symm hne)]; exact hI.at_, hI.cl, by rw [ln_take_set A j (.z g, i) (.p g g _, i) a1 rfl]; exact hI.pos, ?_⟩
  intro j' y hy
  by_cases e : j = j'
  ·subst e
   rw [List.getElem?_set_self hl] at hy
   cases hy
   exact .inr ⟨rfl, rfl⟩
  ·rw [List.getElem?_set_ne e] at hy
   rcases hI.uq j' y hy with h1 | ⟨h1, _⟩
   ·exact .inl h1
   ·exact absurd (show j = j' by omega) e
 have hpos : ln ((A.set j (.p g g (zs (g - 8)), i)).take (j + 1)) % s = 0 := by
  rw [ln_take_set A j (.z g, i) (.p g g _, i) a1 rfl, ln_take_succ a1]
  show (ln (A.take j) + g) % s = 0
  have : ln (A.take j) + g = s * (ln (A.take j) / s + 1) := by
   have := Nat.div_add_mod (ln (A.take j)) s
   rw [Nat.mul_add, Nat.mul_one]
   omega
  rw [this, Nat.mul_mod_right]
 obtain ⟨hJ, hk', hln'⟩ := h.write a1 rfl 0 (leB (recS (g : Int) (-1)) 8) (by rw [l8]; show 0 + 8 ≤ g; omega) (by show 0 < g; omega) (leB_is _ _) hrow hyo rfl (m' := ⟨c, .wh c.b, hd, pos, cl, e⟩) (hB.rel ⟨j + 1, hIt, by rw [hpos]; omega⟩)
 refine ⟨herr, _, ?_, hk', .inl hln'⟩
 rw [hout]
 exact hJ
theorem put_wh (h : Inv b s bs P A k H F) {i : Nat} {c : PutC} {a hd pos e : Int} {cl : Bool} (hi : P[i]? = some ⟨c, .wh a, hd, pos, cl, e⟩) : PutGo b s bs P A k H F i ⟨c, .wh a, hd, pos, cl, e⟩ := by
 obtain ⟨r1, r2, r3, r4, r5, r6, j, hI, ha⟩ := h.pt i _ hi
 have hB : Bas b s H c hd e := ⟨r1, r2, r3, r4, (r5 rfl).1, (r5 rfl).2, r6⟩
 obtain ⟨c1, c2, c3, c4, c5, c6, c7, c8, c9, c10, c11, c12, c13⟩ := hB.bd
 obtain ⟨n1, n2, n3, n4, n5⟩ := hB.slot
 have hln := h.rg.len
 have hk := h.late hI.at_ rfl
 have hins := h.inside hI.at_ hk
 have hins : ln (A.take j) % s + c.nd.toNat ≤ s := hins
 have h8 := h.pos8 j
 have hw : (PutM.mk c (.wh a) hd pos cl e).want = ⟨2, a, 8, recS (-c.n) c.typ, 0, []⟩ := rfl
 have herr : (PutM.mk c (.wh a) hd pos cl e).want.err bs.length = 0 := by
  rw [hw]
  exact sto_err (a := a) (by omega) (by omega) (by omega)
 have l8 := leB_length (recS (-c.n) c.typ) 8
 have hout : (PutM.mk c (.wh a) hd pos cl e).want.out bs = spl bs (b + ln (A.take j) % s + 0) (leB (recS (-c.n) c.typ) 8) := by
  show spl bs a.toNat (leB (recS (-c.n) c.typ) 8) = _
  congr 1
  omega
 have hrow : spl (Slot.z c.nd.toNat).row 0 (leB (recS (-c.n) c.typ) 8) = (Slot.b c.typ c.d c.nd.toNat 0).row := by
  show spl (zs c.nd.toNat) 0 (leB (recS (-c.n) c.typ) 8) = rcB (recS (-(8 + (c.d.length : Int))) c.typ) (c.d.take 0) c.nd.toNat
  rw [spl_head _ n1, c13, List.take_zero]
 have hyo : (Slot.b c.typ c.d c.nd.toNat 0).ok := ⟨n1, n2, n3, r3, c11, r4, n4, Nat.zero_le _⟩
 have hstep : (PutM.mk c (.wh a) hd pos cl e).step ((PutM.mk c (.wh a) hd pos cl e).want.ans bs) = if c.d.length = 0 then ⟨c, .fi a, hd, pos, cl, e⟩ else ⟨c, .wb a (a + 8) c.d, hd, pos, cl, e⟩ := rfl
 have htk := fun q => ln_take_set A j (.z c.nd.toNat, i) (.b c.typ c.d c.nd.toNat 0, i) hI.at_ rfl q
 refine ⟨herr, A.set j (.b c.typ c.d c.nd.toNat 0, i), ?_⟩
 rw [hout, hstep]
 have hrel : PRel b s H (A.set j (.b c.typ c.d c.nd.toNat 0, i)) i (if c.d.length = 0 then ⟨c, .fi a, hd, pos, cl, e⟩ else ⟨c, .wb a (a + 8) c.d, hd, pos, cl, e⟩) := by
  by_cases h0 : c.d.length = 0
  ·rw [if_pos h0]
   refine hB.rel ⟨j, ?_, by rw [htk]; exact ha⟩
   have := hI.own (y := .b c.typ c.d c.nd.toNat 0) (m' := ⟨c, .fi a, hd, pos, cl, e⟩) rfl rfl rfl
   dsimp only
   rw [h0]
   exact this
  ·rw [if_neg h0]
   refine hB.rel ⟨j, ?_, by rw [htk]; exact ha, by dsimp only; omega, by dsimp only; simp, h0⟩
   have := hI.own (y := .b c.typ c.d c.nd.toNat 0) (m' := ⟨c, .wb a (a + 8) c.d, hd, pos, cl, e⟩) rfl rfl rfl
   dsimp only
   rw [Nat.sub_self]
   exact this
 obtain ⟨hJ, hk', hln'⟩ := h.write hI.at_ rfl 0 (leB (recS (-c.n) c.typ) 8) (by rw [l8]; show 0 + 8 ≤ c.nd.toNat; omega) (by show 0 < c.nd.toNat; omega) (leB_is _ _) hrow hyo rfl hrel
 exact ⟨hJ, hk', .inl hln'⟩
theorem put_wb (h : Inv b s bs P A k H F) {i : Nat} {c : PutC} {a p hd pos e : Int} {l : List Int} {cl : Bool} (hi : P[i]? = some ⟨c, .wb a p l, hd, pos, cl, e⟩) : PutGo b s bs P A k H F i ⟨c, .wb a p l, hd, pos, cl, e⟩ := by
 obtain ⟨r1, r2, r3, r4, r5, r6, j, hI, ha, hp, hl, hl0⟩ := h.pt i _ hi
 have hB : Bas b s H c hd e := ⟨r1, r2, r3, r4, (r5 rfl).1, (r5 rfl).2, r6⟩
 obtain ⟨c1, c2, c3, c4, c5, c6, c7, c8, c9, c10, c11, c12, c13⟩ := hB.bd
 obtain ⟨n1, n2, n3, n4, n5⟩ := hB.slot
 dsimp only at hI hp hl
 have hln := h.rg.len
 have hk := h.late hI.at_ rfl
 have hins := h.inside hI.at_ hk
 have hins : ln (A.take j) % s + c.nd.toNat ≤ s := hins
 have hll : l.length ≤ c.d.length := by
  have := congrArg List.length hl
  simp at this
  omega
 obtain ⟨q, hq⟩ : ∃ q, q = c.d.length - l.length := ⟨_, rfl⟩
 rw [← hq] at hI hp hl
 have hw : (PutM.mk c (.wb a p l) hd pos cl e).want = ⟨6, p, min l.length 8, 0, 0, l.take 8⟩ := rfl
 have herr : (PutM.mk c (.wb a p l) hd pos cl e).want.err bs.length = 0 := by
  rw [hw]
  show acE bs.length 6 p (min (l.length : Int) 8) ((l.take 8).length : Nat) = 0
  refine acE_at (.inr (.inr ⟨rfl, ?_, by omega⟩)) (by omega) (by omega) (by omega) (by omega)
  simp
  omega
 have hout : (PutM.mk c (.wb a p l) hd pos cl e).want.out bs = spl bs (b + ln (A.take j) % s + (8 + q)) ((c.d.drop q).take 8) := by
  rw [hw, ← hl]
  show spl bs p.toNat (l.take 8) = _
  congr 1
  omega
 have lms : ((c.d.drop q).take 8).length = min 8 (c.d.length - q) := by simp
 have hstep : (PutM.mk c (.wb a p l) hd pos cl e).step ((PutM.mk c (.wb a p l) hd pos cl e).want.ans bs) = if l.length ≤ 8 then ⟨c, .fi a, hd, pos, cl, e⟩ else ⟨c, .wb a (p + 8) (l.drop 8), hd, pos, cl, e⟩ := rfl
 have hbody := spl_body (recS (-(8 + (c.d.length : Int))) c.typ) c.d c.nd.toNat q (by omega) (by omega)
 by_cases h8 : l.length ≤ 8
 ·rw [if_pos h8] at hstep
  have hrow : spl (Slot.b c.typ c.d c.nd.toNat q).row (8 + q) ((c.d.drop q).take 8) = (Slot.b c.typ c.d c.nd.toNat c.d.length).row := by
   show spl (rcB _ (c.d.take q) c.nd.toNat) (8 + q) _ = rcB _ (c.d.take c.d.length) c.nd.toNat
   rw [hbody, List.take_of_length_le (show c.d.length ≤ q + 8 by omega), List.take_of_length_le (Nat.le_refl _)]
  have hyo : (Slot.b c.typ c.d c.nd.toNat c.d.length).ok := ⟨n1, n2, n3, r3, c11, r4, n4, Nat.le_refl _⟩
  have htk := fun z => ln_take_set A j (.b c.typ c.d c.nd.toNat q, i) (.b c.typ c.d c.nd.toNat c.d.length, i) hI.at_ rfl z
  obtain ⟨hJ, hk', hln'⟩ := h.write hI.at_ rfl (8 + q) ((c.d.drop q).take 8) (by rw [lms]; show 8 + q + _ ≤ c.nd.toNat; omega) (by show 8 + q < c.nd.toNat; omega) ((r3.drop _).take _) hrow hyo rfl (m' := ⟨c, .fi a, hd, pos, cl, e⟩) (hB.rel ⟨j, hI.own rfl rfl rfl, by rw [htk]; exact ha⟩)
  refine ⟨herr, _, ?_, hk', .inl hln'⟩
  rw [hout, hstep]
  exact hJ
 ·rw [if_neg h8] at hstep
  have hrow : spl (Slot.b c.typ c.d c.nd.toNat q).row (8 + q) ((c.d.drop q).take 8) = (Slot.b c.typ c.d c.nd.toNat (q + 8)).row := hbody
  have hyo : (Slot.b c.typ c.d c.nd.toNat (q + 8)).ok := ⟨n1, n2, n3, r3, c11, r4, n4, by omega⟩
  have htk := fun z => ln_take_set A j (.b c.typ c.d c.nd.toNat q, i) (.b c.typ c.d c.nd.toNat (q + 8), i) hI.at_ rfl z
  have hd8 : (l.drop 8).length = l.length - 8 := by simp
  have e9 : c.d.length - (l.drop 8).length = q + 8 := by omega
  obtain ⟨hJ, hk', hln'⟩ := h.write hI.at_ rfl (8 + q) ((c.d.drop q).take 8) (by rw [lms]; show 8 + q + _ ≤ c.nd.toNat; omega) (by show 8 + q < c.nd.toNat; omega) ((r3.drop _).take _) hrow hyo rfl (m' := ⟨c, .wb a (p + 8) (l.drop 8), hd, pos, cl, e⟩) (hB.rel ⟨j, by
    dsimp only
    rw [e9]
    exact hI.own rfl rfl rfl, by rw [htk]; exact ha, by rw [e9]; omega, by rw [e9, hl, List.drop_drop], by rw [hd8]; omega⟩)
  refine ⟨herr, _, ?_, hk', .inl hln'⟩
  rw [hout, hstep]
  exact hJ
theorem put_fi (h : Inv b s bs P A k H F) {i : Nat} {c : PutC} {a hd pos e : Int} {cl : Bool} (hi : P[i]? = some ⟨c, .fi a, hd, pos, cl, e⟩) : PutGo b s bs P A k H F i ⟨c, .fi a, hd, pos, cl, e⟩ := by
 obtain ⟨r1, r2, r3, r4, r5, r6, j, hI, ha⟩ := h.pt i _ hi
 have hB : Bas b s H c hd e := ⟨r1, r2, r3, r4, (r5 rfl).1, (r5 rfl).2, r6⟩
 obtain ⟨c1, c2, c3, c4, c5, c6, c7, c8, c9, c10, c11, c12, c13⟩ := hB.bd
 obtain ⟨n1, n2, n3, n4, n5⟩ := hB.slot
 dsimp only at hI
 have hln := h.rg.len
 have hk := h.late hI.at_ rfl
 have hins := h.inside hI.at_ hk
 have hins : ln (A.take j) % s + c.nd.toNat ≤ s := hins
 have h8 := h.pos8 j
 have hw : (PutM.mk c (.fi a) hd pos cl e).want = ⟨2, a, 4, c.n, 0, []⟩ := rfl
 have herr : (PutM.mk c (.fi a) hd pos cl e).want.err bs.length = 0 := by
  rw [hw]
  show acE bs.length 2 a 4 0 = 0
  exact acE_at (.inl ⟨.inr (.inl rfl), .inl rfl⟩) (by omega) (by omega) (by omega) (fun _ => by omega)
 have l4 := leB_length c.n 4
 have hout : (PutM.mk c (.fi a) hd pos cl e).want.out bs = spl bs (b + ln (A.take j) % s + 0) (leB c.n 4) := by
  show spl bs a.toNat (leB c.n 4) = _
  congr 1
  omega
 have hrow : spl (Slot.b c.typ c.d c.nd.toNat c.d.length).row 0 (leB c.n 4) = (Slot.w c.typ c.d c.nd.toNat).row := by
  show spl (rcB (recS (-(8 + (c.d.length : Int))) c.typ) (c.d.take c.d.length) c.nd.toNat) 0 (leB c.n 4) = rcB (recS (8 + (c.d.length : Int)) c.typ) c.d c.nd.toNat
  rw [List.take_of_length_le (Nat.le_refl _), spl_whole _ _ _ _ _ (by omega) (by omega) (by omega), c13]
 have hyo : (Slot.w c.typ c.d c.nd.toNat).ok := ⟨n1, n2, n3, r3, c11, r4, n4⟩
 obtain ⟨hJ, hk', hln'⟩ := h.write hI.at_ rfl 0 (leB c.n 4) (by rw [l4]; show 0 + 4 ≤ c.nd.toNat; omega) (by show 0 < c.nd.toNat; omega) (leB_is _ _) hrow hyo rfl (m' := ⟨c, .done, hd, pos, cl, 0⟩) ⟨r1, r2, r3, r4, nofun, r6, .inl ⟨rfl, hB.ok, j, hI.own rfl rfl rfl⟩⟩
 refine ⟨herr, _, ?_, hk', .inl hln'⟩
 rw [hout]
 exact hJ
theorem put_go (h : Inv b s bs P A k H F) {i : Nat} {m : PutM} (hi : P[i]? = some m) (hl : m.live = true) (hT : ln A ≤ 4611686018427387000) : PutGo b s bs P A k H F i m := by
 obtain ⟨c, pc, hd, pos, cl, e⟩ := m
 have hR := h.pt i _ hi
 have hft := h.fit
 have hln := h.rg.len
 have hhd := h.rg.head
 have htl := h.tail
 obtain ⟨cp, hcp, hcpH⟩ := h.cp
 cases pc with
 | done => cases hl
 | pd t => exact put_pd h hi
 | wh a => exact put_wh h hi
 | wb a p l => exact put_wb h hi
 | fi a => exact put_fi h hi
 | cs t pad => exact put_cs h hi hT
 | hd0 =>
  obtain ⟨r1, r2, r3, r4, r5, r6, r7⟩ := hR
  have hB : Bas b s H c hd e := ⟨r1, r2, r3, r4, (r5 rfl).1, (r5 rfl).2, r6⟩
  obtain ⟨c1, c2, c3, c4, c5, c6, c7, c8, c9, c10, c11, c12, c13⟩ := hB.bd
  refine ⟨ld_err (a := c.b + c.s + 8) (by omega) (by omega) (by omega), A, ?_, rfl, .inl rfl⟩
  show Inv b s bs (P.set i ⟨c, .tl, rdN bs (c.b + c.s + 8).toNat 8, pos, cl, e⟩) A k H F
  rw [show (c.b + c.s + 8).toNat = b + s + 8 by omega, hcp]
  exact h.turn ((hB.put ⟨cp, rfl, hcpH⟩).rel r7)
 | tl =>
  obtain ⟨r1, r2, r3, r4, r5, r6, r7⟩ := hR
  have hB : Bas b s H c hd e := ⟨r1, r2, r3, r4, (r5 rfl).1, (r5 rfl).2, r6⟩
  obtain ⟨c1, c2, c3, c4, c5, c6, c7, c8, c9, c10, c11, c12, c13⟩ := hB.bd
  obtain ⟨hh, rfl, hhH⟩ := r6
  refine ⟨ld_err (a := c.b + c.s) (by omega) (by omega) (by omega), A, ?_, rfl, .inl rfl⟩
  show Inv b s bs (P.set i (if (PutM.mk c .tl hh pos cl e).fit (rdN bs (c.b + c.s).toNat 8) then (PutM.mk c .tl hh pos cl e).gapped (rdN bs (c.b + c.s).toNat 8) else ⟨c, .rm (rdN bs (c.b + c.s).toNat 8), hh, pos, cl, e⟩)) A k H F
  rw [show (c.b + c.s).toNat = b + s by omega, htl]
  have hfi := fit_fits (m := PutM.mk c .tl hh pos cl e) (T := (ln A : Nat)) (by dsimp only; omega) (by dsimp only; omega) (by omega) (by omega) (by dsimp only; omega) (by dsimp only; omega) (by dsimp only; omega)
  by_cases hf : (PutM.mk c .tl hh pos cl e).fit (ln A : Nat) = true
  ·rw [if_pos hf]
   exact h.turn (PRel.gapped hB ⟨ln A, rfl, Nat.le_refl _⟩ (hfi.1 hf) r7)
  ·rw [if_neg hf]
   exact h.turn (hB.rel ⟨⟨ln A, rfl, Nat.le_refl _⟩, r7⟩)
 | rm t =>
  obtain ⟨r1, r2, r3, r4, r5, r6, ⟨t', rfl, ht'⟩, r7⟩ := hR
  have hB : Bas b s H c hd e := ⟨r1, r2, r3, r4, (r5 rfl).1, (r5 rfl).2, r6⟩
  obtain ⟨c1, c2, c3, c4, c5, c6, c7, c8, c9, c10, c11, c12, c13⟩ := hB.bd
  refine ⟨ld_err (a := c.b + c.s + 16) (by omega) (by omega) (by omega), A, ?_, rfl, .inl rfl⟩
  show Inv b s bs (P.set i (if (PutM.mk c (.rm t') (rdN bs (c.b + c.s + 16).toNat 8) pos cl e).fit t' then ⟨c, .rs t' (rdN bs (c.b + c.s + 16).toNat 8), (rdN bs (c.b + c.s + 16).toNat 8), pos, cl, e⟩ else ⟨c, .done, (rdN bs (c.b + c.s + 16).toNat 8), pos, cl, 5⟩)) A k H F
  rw [show (c.b + c.s + 16).toNat = b + s + 16 by omega, hhd]
  have hfi := fit_fits (m := PutM.mk c (.rm t') (H : Int) pos cl e) (T := (t' : Nat)) (by dsimp only; omega) (by dsimp only; omega) (by omega) (by omega) (by dsimp only; omega) (by dsimp only; omega) (by dsimp only; omega)
  by_cases hf : (PutM.mk c (.rm t') (H : Int) pos cl e).fit (t' : Nat) = true
  ·rw [if_pos hf]
   exact h.turn ((hB.put ⟨H, rfl, Nat.le_refl _⟩).rel ⟨⟨t', rfl, ht'⟩, rfl, hfi.1 hf, r7⟩)
  ·rw [if_neg hf]
   exact h.turn ⟨r1, r2, r3, r4, nofun, ⟨H, rfl, Nat.le_refl _⟩, .inr ⟨by dsimp only; omega, by dsimp only; omega, r7⟩⟩
 | rs t v =>
  obtain ⟨r1, r2, r3, r4, r5, r6, ht, hv, hF, r7⟩ := hR
  have hB : Bas b s H c hd e := ⟨r1, r2, r3, r4, (r5 rfl).1, (r5 rfl).2, r6⟩
  obtain ⟨c1, c2, c3, c4, c5, c6, c7, c8, c9, c10, c11, c12, c13⟩ := hB.bd
  obtain ⟨hh, rfl, hhH⟩ := r6
  obtain rfl : v = (hh : Int) := hv
  refine ⟨sto_err (a := c.b + c.s + 8) (by omega) (by omega) (by omega), A, ?_, rfl, .inl rfl⟩
  show Inv b s (spl bs (c.b + c.s + 8).toNat (leB hh 8)) (P.set i ((PutM.mk c (.rs t hh) hh pos cl e).gapped t)) A k H F
  rw [show (c.b + c.s + 8).toNat = b + s + 8 by omega]
  exact (h.copy hhH (by omega)).turn (PRel.gapped hB ht hF r7)
 | ph t =>
  obtain ⟨r1, r2, r3, r4, r5, r6, ht, hF, hg, r7⟩ := hR
  have hB : Bas b s H c hd e := ⟨r1, r2, r3, r4, (r5 rfl).1, (r5 rfl).2, r6⟩
  obtain ⟨c1, c2, c3, c4, c5, c6, c7, c8, c9, c10, c11, c12, c13⟩ := hB.bd
  obtain ⟨hh, rfl, hhH⟩ := r6
  refine ⟨ld_err (a := c.b + c.s + 16) (by omega) (by omega) (by omega), A, ?_, rfl, .inl rfl⟩
  show Inv b s bs (P.set i (if c.nd ≤ (rdN bs (c.b + c.s + 16).toNat 8) % c.s then ⟨c, .ps t (rdN bs (c.b + c.s + 16).toNat 8), (rdN bs (c.b + c.s + 16).toNat 8), pos, cl, e⟩ else ⟨c, .done, (rdN bs (c.b + c.s + 16).toNat 8), pos, cl, 5⟩)) A k H F
  rw [show (c.b + c.s + 16).toNat = b + s + 16 by omega, hhd]
  unfold Fits at hF
  dsimp only at hF hg
  by_cases hf : c.nd ≤ (H : Int) % c.s
  ·rw [if_pos hf]
   refine h.turn ((hB.put ⟨H, rfl, Nat.le_refl _⟩).rel ⟨ht, rfl, ?_, hg, hf, r7⟩)
   unfold Fits
   dsimp only
   intro h1
   have := hF (by omega)
   omega
  ·rw [if_neg hf]
   exact h.turn ⟨r1, r2, r3, r4, nofun, ⟨H, rfl, Nat.le_refl _⟩, .inr ⟨by dsimp only; omega, by dsimp only; omega, r7⟩⟩
 | ps t v =>
  obtain ⟨r1, r2, r3, r4, r5, r6, ht, hv, hF, hg, hp, r7⟩ := hR
  have hB : Bas b s H c hd e := ⟨r1, r2, r3, r4, (r5 rfl).1, (r5 rfl).2, r6⟩
  obtain ⟨c1, c2, c3, c4, c5, c6, c7, c8, c9, c10, c11, c12, c13⟩ := hB.bd
  obtain ⟨hh, rfl, hhH⟩ := r6
  obtain rfl : v = (hh : Int) := hv
  refine ⟨sto_err (a := c.b + c.s + 8) (by omega) (by omega) (by omega), A, ?_, rfl, .inl rfl⟩
  show Inv b s (spl bs (c.b + c.s + 8).toNat (leB hh 8)) (P.set i ⟨c, .cs t (c.s - t % c.s), hh, pos, cl, e⟩) A k H F
  rw [show (c.b + c.s + 8).toNat = b + s + 8 by omega]
  exact (h.copy hhH (by omega)).turn (hB.rel ⟨ht, hF, .inr ⟨rfl, hg, hp⟩, r7⟩)
theorem Rg.merge {b s H : Nat} {F L : List (List Int)} (h : Rg bs b s H (F ++ L)) (hF : F ≠ []) (hle : H % s + tot F ≤ s) : Rg bs b s H ([F.flatten] ++ L) := by
 obtain ⟨h0, h1, h2, h3, h4, h5, h6, h7, h8⟩ := h
 have e1 : ([F.flatten] ++ L).flatten = (F ++ L).flatten := by simp
 have e2 : tot ([F.flatten] ++ L) = tot (F ++ L) := by unfold tot; rw [e1]
 have e3 : F.flatten.length = tot F := rfl
 refine ⟨h0, h1, h2, by rw [e1, e2]; exact h3, by rw [e2]; exact h4, ?_, ?_, by rw [e2]; exact h7, h8⟩
 ·intro k hk
  cases k with
  | zero =>
   show (H + tot []) % s + F.flatten.length ≤ s
   rw [tot_nil, e3, Nat.add_zero]
   exact hle
  | succ k =>
   have hk' : k < L.length := by simp at hk; omega
   have := h5 (F.length + k) (by simp; omega)
   rw [List.getElem_append_right (by omega), List.take_append, List.take_of_length_le (show F.length ≤ F.length + k by omega), tot_app] at this
   simp only [show F.length + k - F.length = k by omega] at this
   show (H + tot (F.flatten :: L.take k)) % s + (L[k]).length ≤ s
   rw [tot_cons, e3]
   exact this
 ·intro k hk
  cases k with
  | zero =>
   show 8 ≤ F.flatten.length
   cases F with
   | nil => exact absurd rfl hF
   | cons c F =>
    have := h6 0 (by simp)
    simp at this
    simp
    omega
  | succ k =>
   have hk' : k < L.length := by simp at hk; omega
   have := h6 (F.length + k) (by simp; omega)
   rw [List.getElem_append_right (by omega)] at this
   simp only [show F.length + k - F.length = k by omega] at this
   exact this
structure GCom (b s : Nat) (A : List (Slot × Nat)) (k H : Nat) (F : List (List Int)) (k0 : Nat) (g : GetM) : Prop where
 cb : g.c.b = b
 cs : g.c.s = s
 ok : g.c.ok = true
 hd : g.hd = (H : Nat)
 fi : g.first = (H % s : Nat)
 dn : g.dn = (tot F : Nat)
 odd : g.odd = false
 kk : k0 ≤ k
 out : g.out = msgs ((A.take k).drop k0)
 le : H % s + tot F ≤ s
def GRel (b s : Nat) (A : List (Slot × Nat)) (k H : Nat) (F : List (List Int)) (k0 : Nat) (g : GetM) : Prop :=
 match g.pc with
 | .done => g.e = 0 ∧ F = [] ∧ k0 ≤ k ∧ g.out = msgs ((A.take k).drop k0)
 | .hd0 => g.c.b = b ∧ g.c.s = s ∧ g.c.ok = true ∧ g.out = [] ∧ g.dn = 0 ∧ g.odd = false ∧ F = [] ∧ k0 = k ∧ g.first = 0
 | .rc => GCom b s A k H F k0 g ∧ F = rows ((A.take k).drop k0) ∧ 0 < g.left
 | .rd sz typ p n hv => GCom b s A k H F k0 g ∧ F = rows ((A.take k).drop k0) ∧ H % s + tot F < s ∧ ∃ (d : List Int) (N i q : Nat), A[k]? = some (.w typ d N, i) ∧ sz = (N : Nat) ∧ n = (d.length - q : Nat) ∧ q < d.length ∧ hv = d.take q ∧ p = (b + (H % s + tot F) + 8 + q : Nat)
 | .zr p n => GCom b s A k H F k0 g ∧ ∃ (c : List Int) (z : Nat), F = [c] ∧ z < c.length ∧ n = (c.length - z : Nat) ∧ p = (b + (H % s + z) : Nat) ∧ c.take z = zs z
 | .st => GCom b s A k H F k0 g ∧ ∃ c : List Int, F = [c] ∧ c = zs c.length
def GetM.wiped (g : GetM) : Bool := match g.pc with
 | .done => true
 | .zr _ _ => true
 | .st => true
 | _ => false
def Stop (s : Nat) (A : List (Slot × Nat)) (k H : Nat) (F : List (List Int)) (g : GetM) : Prop :=
 (∃ x, A[k]? = some x ∧ x.1.fin = false) ∨ k = A.length ∨ ((H + tot F) % s = 0 ∧ 0 < tot F) ∨ g.c.most ≤ (g.out.length : Int)
def GWhy (s : Nat) (A : List (Slot × Nat)) (k H : Nat) (F : List (List Int)) (g : GetM) (k' H' : Nat) (F' : List (List Int)) (g' : GetM) : Prop :=
 g'.wiped = true → (g.wiped = true ∧ k' = k ∧ H' + tot F' = H + tot F) ∨ (g.wiped = false ∧ Stop s A k' H' F' g')
theorem GetM.zero_out (g : GetM) : g.zero.out = g.out ∧ g.zero.c = g.c := by
 unfold GetM.zero
 split <;> exact ⟨rfl, rfl⟩
theorem take_drop_succ {l : List α} {k k0 : Nat} {x : α} (h : l[k]? = some x) (hk : k0 ≤ k) : (l.take (k + 1)).drop k0 = (l.take k).drop k0 ++ [x] := by
 have hl : k < l.length := (List.getElem?_eq_some_iff.1 h).1
 rw [List.take_add_one, h, List.drop_append_of_le_length (by simp; omega)]
 rfl
theorem GetC.ok_bd {c : GetC} (h : c.ok = true) : rgOk c.b c.s = true ∧ 1 ≤ c.most := by
 unfold GetC.ok at h
 simpa using h
theorem rows_pos (h : ∀ x ∈ A, x.1.ok) (h0 : tot (rows A) = 0) : rows A = [] := by
 cases A with
 | nil => rfl
 | cons x r =>
  have := (h x (List.mem_cons_self ..)).n0
  rw [tot_rows h] at h0
  simp [ln] at h0
  omega
variable {g : GetM}
theorem GetM.zero_rel {k H k0 : Nat} (h : InvX D b s bs P A k H F) (hg : GCom b s A k H F k0 g) (hF : F = rows ((A.take k).drop k0)) : ∃ F', InvX D b s bs P A k H F' ∧ GRel b s A k H F' k0 g.zero ∧ tot F' = tot F := by
 obtain ⟨h1, h2, h3, h4, h5, h6, h7, h8, h9, h10⟩ := hg
 have hok : ∀ x ∈ (A.take k).drop k0, x.1.ok := fun x hx => h.ok x (List.mem_of_mem_take (List.mem_of_mem_drop hx))
 unfold GetM.zero
 by_cases hd : g.dn = 0
 ·rw [if_pos hd]
  have h0 : F = [] := by rw [hF] at h6 ⊢; exact rows_pos hok (by omega)
  refine ⟨F, h, ⟨?_, h0, h8, h9⟩, rfl⟩
  unfold GetM.stop
  dsimp only
  rw [h7]
  rfl
 ·rw [if_neg hd]
  have hne : F ≠ [] := by rintro rfl; exact hd h6
  have hm := h.rg.merge hne h10
  have ht : tot [F.flatten] = tot F := by rw [tot_one]; rfl
  refine ⟨[F.flatten], ⟨h.so, h.b8, hm, h.kl, by rw [ht]; exact h.fk, h.h8, h.ok, h.fn, h.ow, h.cp, h.pt⟩, ⟨⟨h1, h2, h3, h4, h5, by rw [ht]; exact h6, h7, h8, h9, by rw [ht]; exact h10⟩, F.flatten, 0, rfl, ?_, ?_, ?_, rfl⟩, ht⟩
  ·have : F.flatten.length = tot F := rfl
   omega
  ·have : F.flatten.length = tot F := rfl
   rw [Nat.sub_zero, this]
   exact h6
  ·rw [h1, h5]
   omega
theorem GetM.record_rel {k H k0 : Nat} (h : InvX D b s bs P A k H F) (hg : GCom b s A k H F k0 g) (hF : F = rows ((A.take k).drop k0)) : ∃ F', InvX D b s bs P A k H F' ∧ GRel b s A k H F' k0 g.record ∧ (g.record.wiped = true → Stop s A k H F' g.record) := by
 unfold GetM.record
 split
 ·rename_i hc
  obtain ⟨F', hI, hG, hT⟩ := GetM.zero_rel h hg hF
  refine ⟨F', hI, hG, fun _ => .inr (.inr ?_)⟩
  rcases hc with hc | hc
  ·right
   rw [g.zero_out.1, g.zero_out.2]
   exact hc
  ·left
   obtain ⟨h1, h2, h3, h4, h5, h6, h7, h8, h9, h10⟩ := hg
   unfold GetM.left at hc
   rw [hT]
   have e : H % s + tot F = s := by omega
   have e2 : H + tot F = s + s * (H / s) := by
    have := Nat.div_add_mod H s
    omega
   have hml : H % s < s := Nat.mod_lt _ h.rg.s0
   refine ⟨?_, by omega⟩
   rw [e2, Nat.add_mul_mod_self_left, Nat.mod_self]
 ·rename_i hc
  obtain ⟨h1, h2, h3, h4, h5, h6, h7, h8, h9, h10⟩ := hg
  have hl : 0 < g.left := by omega
  exact ⟨F, h, ⟨⟨h1, h2, h3, h4, h5, h6, h7, h8, h9, h10⟩, hF, hl⟩, nofun⟩
theorem InvX.next {k H k0 : Nat} (h : InvX D b s bs P A k H F) {x : Slot × Nat} (hx : A[k]? = some x) (hf : x.1.fin = true) (hk0 : k0 ≤ k) (hF : F = rows ((A.take k).drop k0)) :
  InvX D b s bs P A (k + 1) H (F ++ [x.1.row]) ∧ F ++ [x.1.row] = rows ((A.take (k + 1)).drop k0) ∧ tot (F ++ [x.1.row]) = tot F + x.1.n := by
 have hkl : k < A.length := (List.getElem?_eq_some_iff.1 hx).1
 have hxo := h.ok x (List.mem_of_getElem? hx)
 have ht : tot (F ++ [x.1.row]) = tot F + x.1.n := by rw [tot_app, tot_one, Slot.len hxo]
 have hd : A.drop k = x :: A.drop (k + 1) := by
  rw [List.drop_eq_getElem_cons hkl]
  have := (List.getElem?_eq_some_iff.1 hx).2
  rw [this]
 refine ⟨⟨h.so, h.b8, ?_, hkl, ?_, h.h8, h.ok, ?_, h.ow, h.cp, h.pt⟩, ?_, ht⟩
 ·have hr := h.rg
  rw [hd] at hr
  have e : F ++ [x.1.row] ++ rows (A.drop (k + 1)) = F ++ rows (x :: A.drop (k + 1)) := by
   rw [List.append_assoc]
   rfl
  rw [e]
  exact hr
 ·rw [ht, ln_take_succ hx, ← Nat.add_assoc, h.fk]
 ·intro y hy
  rw [List.take_add_one, hx] at hy
  rcases List.mem_append.1 hy with hy | hy
  ·exact h.fn y hy
  ·obtain rfl := List.mem_singleton.1 hy
   exact hf
 ·rw [take_drop_succ hx hk0, hF]
  unfold rows
  rw [List.map_append]
  rfl
theorem PRel.later {b s H H' : Nat} (h : PRel b s H A i m) (hH : H ≤ H') : PRel b s H' A i m := by
 obtain ⟨h1, h2, h3, h4, h5, ⟨x, h6, h6'⟩, h7⟩ := h
 exact ⟨h1, h2, h3, h4, h5, ⟨x, h6, by omega⟩, h7⟩
def GetGo (D : Prop) (b s : Nat) (bs : List Int) (P : List PutM) (A : List (Slot × Nat)) (k H : Nat) (F : List (List Int)) (k0 : Nat) (g : GetM) : Prop :=
 g.want.err bs.length = 0 ∧ ∃ k' H' F', InvX D b s (g.want.out bs) P A k' H' F' ∧ GRel b s A k' H' F' k0 (g.step (g.want.ans bs)) ∧ (k ≤ k' ∧ H ≤ H') ∧ GWhy s A k H F g k' H' F' (g.step (g.want.ans bs))
theorem loS0 : loS 0 < 1 := by unfold loS wrap32; omega
theorem rsz_w (l : Nat) : rsz (8 + (l : Int)) = ((l + 15) / 8 * 8 : Nat) := by unfold rsz; omega
variable {odd : Bool}
theorem get_rc {k H k0 : Nat} {c : GetC} {hd first dn e : Int} {out : List (Int × List Int)} (h : InvX D b s bs P A k H F) (hg : GRel b s A k H F k0 ⟨c, .rc, hd, first, dn, out, odd, e⟩) : GetGo D b s bs P A k H F k0 ⟨c, .rc, hd, first, dn, out, odd, e⟩ := by
 obtain ⟨hC, hF, hL⟩ := hg
 have hC0 := hC
 obtain ⟨h1, h2, h3, h4, h5, h6, h7, h8, h9, h10⟩ := hC
 dsimp only at h1 h2 h3 h4 h5 h6 h7 h8 h9
 obtain ⟨o1, o2⟩ := GetC.ok_bd h3
 obtain ⟨-, g2, g3, g4, g5, g6⟩ := rgOk_bd o1
 have hln := h.rg.len
 have hs0 := h.rg.s0
 have hso := h.so
 have hL' : 0 < c.s - first - dn := hL
 have hlt : H % s + tot F < s := by omega
 have hmod : (H + tot F) % s = H % s + tot F := mod_add_lt hlt
 have hH8 := h.h8
 have htF8 : (H % s + tot F) % 8 = 0 := by
  have e1 := h.fk
  have e2 := ln_mod8 (L := A.take k) (fun x hx => h.ok x (List.mem_of_mem_take hx))
  have hs8 : s % 8 = 0 := by omega
  rw [← hmod, Nat.mod_mod_of_dvd _ (Nat.dvd_of_mod_eq_zero hs8)]
  omega
 have hs8 : s % 8 = 0 := by omega
 have hb8 := h.b8
 have hat : (GetM.mk c .rc hd first dn out odd e).at = (b + (H % s + tot F) : Nat) := by
  show c.b + first + dn = _
  omega
 have hw : (GetM.mk c .rc hd first dn out odd e).want = ⟨1, (b + (H % s + tot F) : Nat), 8, 0, 0, []⟩ := by
  show AA.mk 1 ((GetM.mk c .rc hd first dn out odd e).at) 8 0 0 [] = _
  rw [hat]
 have herr : (GetM.mk c .rc hd first dn out odd e).want.err bs.length = 0 := by
  rw [hw]
  exact ld_err (a := (b + (H % s + tot F) : Nat)) (by omega) (by omega) (by omega)
 have hout : (GetM.mk c .rc hd first dn out odd e).want.out bs = bs := by rw [hw]; rfl
 have hans : ((GetM.mk c .rc hd first dn out odd e).want.ans bs).v = leN ((bs.drop (b + (H % s + tot F))).take 8) := by
  rw [hw]
  show rdN bs ((b + (H % s + tot F) : Nat) : Int).toNat 8 = _
  rw [Int.toNat_natCast]
  rfl
 refine ⟨herr, ?_⟩
 rw [hout]
 -- what is read
 have hstep : ∀ v, ((GetM.mk c .rc hd first dn out odd e).want.ans bs).v = v → (GetM.mk c .rc hd first dn out odd e).step ((GetM.mk c .rc hd first dn out odd e).want.ans bs) =
   if loS v < 1 then (GetM.mk c .rc hd first dn out odd e).zero
   else if loS v < 8 ∨ c.s - first - dn < rsz (loS v) then (GetM.mk c .rc hd first dn out true e).zero
   else if hiS v = -1 then (GetM.mk c .rc hd first (dn + rsz (loS v)) out odd e).record
   else if loS v - 8 < 1 then (GetM.mk c .rc hd first dn out odd e).got (rsz (loS v)) (hiS v) []
   else ⟨c, .rd (rsz (loS v)) (hiS v) ((GetM.mk c .rc hd first dn out odd e).at + 8) (loS v - 8) [], hd, first, dn, out, odd, e⟩ := by
  intro v hv
  subst hv
  rfl
 have zero : ∀ v, ((GetM.mk c .rc hd first dn out odd e).want.ans bs).v = v → loS v < 1 → ((∃ x, A[k]? = some x ∧ x.1.fin = false) ∨ k = A.length) → ∃ k' H' F', InvX D b s bs P A k' H' F' ∧ GRel b s A k' H' F' k0 ((GetM.mk c .rc hd first dn out odd e).step ((GetM.mk c .rc hd first dn out odd e).want.ans bs)) ∧ (k ≤ k' ∧ H ≤ H') ∧ GWhy s A k H F (GetM.mk c .rc hd first dn out odd e) k' H' F' ((GetM.mk c .rc hd first dn out odd e).step ((GetM.mk c .rc hd first dn out odd e).want.ans bs)) := by
  intro v hv hlo hy
  rw [hstep v hv, if_pos hlo]
  obtain ⟨F', hI, hG, hT⟩ := GetM.zero_rel h hC0 hF
  exact ⟨k, H, F', hI, hG, ⟨Nat.le_refl _, Nat.le_refl _⟩, fun _ => .inr ⟨rfl, hy.elim .inl fun h => .inr (.inl h)⟩⟩
 rcases Nat.lt_or_ge k A.length with hk | hk
 ·obtain ⟨x, hx⟩ : ∃ x, A[k]? = some x := ⟨_, List.getElem?_eq_getElem hk⟩
  have hxo := h.ok x (List.mem_of_getElem? hx)
  have hxl := Slot.len hxo
  obtain ⟨x0, x1, x2, x3⟩ := hxo
  have hd0 : A.drop k = x :: A.drop (k + 1) := by
   rw [List.drop_eq_getElem_cons hk]
   have := (List.getElem?_eq_some_iff.1 hx).2
   rw [this]
  have hkF : F.length < (F ++ rows (A.drop k)).length := by rw [hd0]; simp [rows]
  have hel : (F ++ rows (A.drop k))[F.length] = x.1.row := by
   rw [List.getElem_append_right (Nat.le_refl _)]
   simp only [hd0, rows, List.map_cons, Nat.sub_self, List.getElem_cons_zero]
  have htk : (F ++ rows (A.drop k)).take F.length = F := List.take_left
  have hcr := h.rg.cross _ hkF
  rw [htk, hel, hxl, hmod] at hcr
  have hrd := h.rg.read _ hkF 0 8 (by rw [hel, hxl]; omega) (by rw [hel, hxl]; omega)
  rw [htk, hel, hmod, Nat.add_zero, List.drop_zero] at hrd
  have hv : ((GetM.mk c .rc hd first dn out odd e).want.ans bs).v = x.1.hdr := by
   rw [hans, hrd]
   rfl
  obtain ⟨x, i⟩ := x
  cases x with
  | z n => exact zero 0 (by rw [hv]; exact Slot.hdr_z n) loS0 (.inl ⟨_, hx, rfl⟩)
  | b t d n kk =>
   obtain ⟨q1, q2, q3, q4, q5⟩ := x3
   have x2 : n ≤ 8192 := x2
   refine zero _ (hv.trans (Slot.hdr_b t d n kk)) ?_ (.inl ⟨_, hx, rfl⟩)
   rw [recS_lo _ _ (by omega) (by omega)]
   omega
  | p n l r =>
   obtain ⟨q1, q2, q3, q4⟩ := x3
   have x2 : n ≤ 8192 := x2
   have hcr : H % s + tot F + n ≤ s := hcr
   have hv := hv.trans (Slot.hdr_p n l r)
   have e1 : loS (recS l (-1)) = l := recS_lo _ _ (by omega) (by omega)
   have e2 : hiS (recS l (-1)) = -1 := recS_hi _ _ (by omega) (by omega)
   have e3 : rsz l = (n : Nat) := by unfold rsz; omega
   rw [hstep _ hv, e1, e2, e3, if_neg (by omega), if_neg (by omega), if_pos rfl]
   obtain ⟨hI, hF', ht⟩ := h.next hx rfl h8 hF
   have ht : tot (F ++ [(Slot.p n l r).row]) = tot F + n := ht
   have hC' : GCom b s A (k + 1) H (F ++ [(Slot.p n l r).row]) k0 ⟨c, .rc, hd, first, dn + (n : Nat), out, odd, e⟩ := ⟨h1, h2, h3, h4, h5, by dsimp only; omega, h7, by omega, by dsimp only; rw [take_drop_succ hx h8, msgs_app, h9]; simp [msgs], by omega⟩
   obtain ⟨F', hI', hG, hy⟩ := GetM.record_rel hI hC' hF'
   exact ⟨k + 1, H, F', hI', hG, ⟨by omega, Nat.le_refl _⟩, fun h => .inr ⟨rfl, hy h⟩⟩
  | w t d n =>
   obtain ⟨q1, q2, q3, q4⟩ := x3
   have x2 : n ≤ 8192 := x2
   have hcr : H % s + tot F + n ≤ s := hcr
   have hv := hv.trans (Slot.hdr_w t d n)
   have e1 : loS (recS (8 + (d.length : Int)) t) = 8 + (d.length : Int) := recS_lo _ _ (by omega) (by omega)
   have e2 : hiS (recS (8 + (d.length : Int)) t) = t := recS_hi _ _ (by omega) (by omega)
   have e3 : rsz (8 + (d.length : Int)) = (n : Nat) := by rw [rsz_w, q4]
   rw [hstep _ hv, e1, e2, e3, if_neg (by omega), if_neg (by omega), if_neg (by omega)]
   by_cases hd1 : 8 + (d.length : Int) - 8 < 1
   ·rw [if_pos hd1]
    have hdn : d = [] := List.eq_nil_of_length_eq_zero (by omega)
    obtain ⟨hI, hF', ht⟩ := h.next hx rfl h8 hF
    have ht : tot (F ++ [(Slot.w t d n).row]) = tot F + n := ht
    have hC' : GCom b s A (k + 1) H (F ++ [(Slot.w t d n).row]) k0 ⟨c, .rc, hd, first, dn + (n : Nat), out ++ [(t, [])], odd, e⟩ := ⟨h1, h2, h3, h4, h5, by dsimp only; omega, h7, by omega, by dsimp only; rw [take_drop_succ hx h8, msgs_app, h9, hdn]; simp [msgs], by omega⟩
    obtain ⟨F', hI', hG, hy⟩ := GetM.record_rel hI hC' hF'
    exact ⟨k + 1, H, F', hI', hG, ⟨by omega, Nat.le_refl _⟩, fun h => .inr ⟨rfl, hy h⟩⟩
   ·rw [if_neg hd1]
    refine ⟨k, H, F, h, ⟨⟨h1, h2, h3, h4, h5, h6, h7, h8, h9, h10⟩, hF, hlt, d, n, i, 0, hx, rfl, by omega, by omega, rfl, ?_⟩, ⟨Nat.le_refl _, Nat.le_refl _⟩, nofun⟩
    rw [hat]
    omega
 ·have hkA : k = A.length := by have := h.kl; omega
  have hdk : rows (A.drop k) = [] := by rw [hkA, List.drop_length]; rfl
  have hr := h.rg
  rw [hdk, List.append_nil] at hr
  have := hr.rest 0 8 (by omega) (by omega) (by rw [hmod]; omega) (by rw [hmod]; omega)
  rw [hmod, Nat.add_zero] at this
  exact zero 0 (by rw [hans, this]; rfl) loS0 (.inr hkA)
theorem rcB_mid (hd : Int) (d : List Int) (N q m : Nat) (hq : q + m ≤ d.length) : ((rcB hd d N).drop (8 + q)).take m = (d.drop q).take m := by
 unfold rcB
 rw [List.drop_append, leB_length, List.drop_eq_nil_of_le (by rw [leB_length]; omega), List.nil_append, show 8 + q - 8 = q by omega, List.drop_append_of_le_length (by omega), List.take_append_of_le_length (by simp; omega)]
theorem get_rd {k H k0 : Nat} {c : GetC} {sz typ p n hd first dn e : Int} {hv : List Int} {out : List (Int × List Int)} (h : InvX D b s bs P A k H F) (hg : GRel b s A k H F k0 ⟨c, .rd sz typ p n hv, hd, first, dn, out, odd, e⟩) : GetGo D b s bs P A k H F k0 ⟨c, .rd sz typ p n hv, hd, first, dn, out, odd, e⟩ := by
 obtain ⟨hC, hF, hlt, d, N, i, q, hx, rfl, rfl, hq, rfl, rfl⟩ := hg
 obtain ⟨h1, h2, h3, h4, h5, h6, h7, h8, h9, h10⟩ := hC
 dsimp only at h1 h2 h3 h4 h5 h6 h7 h8 h9
 have hln := h.rg.len
 have hs0 := h.rg.s0
 have hxo := h.ok _ (List.mem_of_getElem? hx)
 have hxl := Slot.len hxo
 obtain ⟨x0, x1, x2, q1, q2, q3, q4⟩ := hxo
 have x0 : 8 ≤ N := x0
 have x2 : N ≤ 8192 := x2
 have hxl : (Slot.w typ d N).row.length = N := hxl
 have hk : k < A.length := (List.getElem?_eq_some_iff.1 hx).1
 have hd0 : A.drop k = (.w typ d N, i) :: A.drop (k + 1) := by
  rw [List.drop_eq_getElem_cons hk]
  have := (List.getElem?_eq_some_iff.1 hx).2
  rw [this]
 have hkF : F.length < (F ++ rows (A.drop k)).length := by rw [hd0]; simp [rows]
 have hel : (F ++ rows (A.drop k))[F.length] = (Slot.w typ d N).row := by
  rw [List.getElem_append_right (Nat.le_refl _)]
  simp only [hd0, rows, List.map_cons, Nat.sub_self, List.getElem_cons_zero]
 have htk : (F ++ rows (A.drop k)).take F.length = F := List.take_left
 have hcr := h.rg.cross _ hkF
 rw [htk, hel, hxl] at hcr
 have hmod : (H + tot F) % s = H % s + tot F := mod_add_lt hlt
 rw [hmod] at hcr
 obtain ⟨m, hm⟩ : ∃ m, m = min (d.length - q) 8 := ⟨_, rfl⟩
 have hw : (GetM.mk c (.rd (N : Nat) typ (b + (H % s + tot F) + 8 + q : Nat) (d.length - q : Nat) (d.take q)) hd first dn out odd e).want = ⟨5, (b + (H % s + tot F) + 8 + q : Nat), (m : Nat), 0, 0, []⟩ := by
  show AA.mk 5 _ (min ((d.length - q : Nat) : Int) 8) 0 0 [] = _
  rw [hm, show min ((d.length - q : Nat) : Int) 8 = ((min (d.length - q) 8 : Nat) : Int) by omega]
 have hrd := h.rg.read _ hkF (8 + q) m (by rw [hel, hxl]; omega) (by rw [hel, hxl]; omega)
 rw [htk, hel, hmod] at hrd
 have hmid : ((Slot.w typ d N).row.drop (8 + q)).take m = (d.drop q).take m := rcB_mid _ d N q m (by omega)
 rw [hmid] at hrd
 have hb : ((GetM.mk c (.rd (N : Nat) typ (b + (H % s + tot F) + 8 + q : Nat) (d.length - q : Nat) (d.take q)) hd first dn out odd e).want.ans bs).b = (d.drop q).take m := by
  rw [hw]
  show (bs.drop ((b + (H % s + tot F) + 8 + q : Nat) : Int).toNat).take ((m : Nat) : Int).toNat = _
  rw [Int.toNat_natCast, Int.toNat_natCast, ← hrd]
  congr 2
  omega
 refine ⟨?_, ?_⟩
 ·rw [hw]
  show acE bs.length 5 ((b + (H % s + tot F) + 8 + q : Nat) : Int) (m : Nat) 0 = 0
  exact acE_at (a := ((b + (H % s + tot F) + 8 + q : Nat) : Int)) (.inr (.inl ⟨rfl, by omega, by omega⟩)) (by omega) (by omega) (by omega) (by omega)
 have hout : (GetM.mk c (.rd (N : Nat) typ (b + (H % s + tot F) + 8 + q : Nat) (d.length - q : Nat) (d.take q)) hd first dn out odd e).want.out bs = bs := by rw [hw]; rfl
 rw [hout]
 have hstep : (GetM.mk c (.rd (N : Nat) typ (b + (H % s + tot F) + 8 + q : Nat) (d.length - q : Nat) (d.take q)) hd first dn out odd e).step ((GetM.mk c (.rd (N : Nat) typ (b + (H % s + tot F) + 8 + q : Nat) (d.length - q : Nat) (d.take q)) hd first dn out odd e).want.ans bs) =
   if ((d.length - q : Nat) : Int) ≤ 8 then (GetM.mk c (.rd (N : Nat) typ (b + (H % s + tot F) + 8 + q : Nat) (d.length - q : Nat) (d.take q)) hd first dn out odd e).got (N : Nat) typ (d.take q ++ (d.drop q).take m)
   else ⟨c, .rd (N : Nat) typ ((b + (H % s + tot F) + 8 + q : Nat) + 8) ((d.length - q : Nat) - 8) (d.take q ++ (d.drop q).take m), hd, first, dn, out, odd, e⟩ := by
  rw [← hb]
  rfl
 have hcat : d.take q ++ (d.drop q).take m = d.take (q + m) := by rw [List.take_add]
 rw [hstep, hcat]
 by_cases h8' : ((d.length - q : Nat) : Int) ≤ 8
 ·rw [if_pos h8', List.take_of_length_le (show d.length ≤ q + m by omega)]
  obtain ⟨hI, hF', ht⟩ := h.next hx rfl h8 hF
  have ht : tot (F ++ [(Slot.w typ d N).row]) = tot F + N := ht
  have hC' : GCom b s A (k + 1) H (F ++ [(Slot.w typ d N).row]) k0 ⟨c, (GetM.mk c (.rd (N : Nat) typ (b + (H % s + tot F) + 8 + q : Nat) (d.length - q : Nat) (d.take q)) hd first dn out odd e).pc, hd, first, dn + (N : Nat), out ++ [(typ, d)], odd, e⟩ := ⟨h1, h2, h3, h4, h5, by dsimp only; omega, h7, by omega, by dsimp only; rw [take_drop_succ hx h8, msgs_app, h9]; simp [msgs], by omega⟩
  obtain ⟨F', hI', hG, hy⟩ := GetM.record_rel hI hC' hF'
  exact ⟨k + 1, H, F', hI', hG, ⟨by omega, Nat.le_refl _⟩, fun h => .inr ⟨rfl, hy h⟩⟩
 ·rw [if_neg h8']
  exact ⟨k, H, F, h, ⟨⟨h1, h2, h3, h4, h5, h6, h7, h8, h9, h10⟩, hF, hlt, d, N, i, q + 8, hx, rfl, by omega, by omega, by rw [show q + m = q + 8 by omega], by omega⟩, ⟨Nat.le_refl _, Nat.le_refl _⟩, nofun⟩
theorem zs_is (n : Nat) : IsB (zs n) := by
 intro x hx
 simp [zs] at hx
 omega
theorem get_zr {k H k0 : Nat} {c : GetC} {p n hd first dn e : Int} {out : List (Int × List Int)} (h : InvX D b s bs P A k H F) (hg : GRel b s A k H F k0 ⟨c, .zr p n, hd, first, dn, out, odd, e⟩) : GetGo D b s bs P A k H F k0 ⟨c, .zr p n, hd, first, dn, out, odd, e⟩ := by
 obtain ⟨hC, C, z, rfl, hz, rfl, rfl, htz⟩ := hg
 obtain ⟨h1, h2, h3, h4, h5, h6, h7, h8, h9, h10⟩ := hC
 dsimp only at h1 h2 h3 h4 h5 h6 h7 h8 h9
 rw [tot_one] at h6 h10
 have hln := h.rg.len
 have hs0 := h.rg.s0
 have hml : H % s < s := Nat.mod_lt _ hs0
 obtain ⟨m, hm⟩ : ∃ m, m = min (C.length - z) 8 := ⟨_, rfl⟩
 have hw : (GetM.mk c (.zr (b + (H % s + z) : Nat) (C.length - z : Nat)) hd first dn out odd e).want = ⟨6, (b + (H % s + z) : Nat), (m : Nat), 0, 0, zs m⟩ := by
  show AA.mk 6 _ (min ((C.length - z : Nat) : Int) 8) 0 0 (List.replicate (min ((C.length - z : Nat) : Int) 8).toNat 0) = _
  rw [show min ((C.length - z : Nat) : Int) 8 = ((min (C.length - z) 8 : Nat) : Int) by omega, ← hm, Int.toNat_natCast]
  rfl
 refine ⟨?_, ?_⟩
 ·rw [hw]
  show acE bs.length 6 ((b + (H % s + z) : Nat) : Int) (m : Nat) ((zs m).length : Nat) = 0
  exact acE_at (a := ((b + (H % s + z) : Nat) : Int)) (.inr (.inr ⟨rfl, by rw [zs_len], by omega⟩)) (by omega) (by omega) (by omega) (by omega)
 have hout : (GetM.mk c (.zr (b + (H % s + z) : Nat) (C.length - z : Nat)) hd first dn out odd e).want.out bs = spl bs (b + (H % s + z)) (zs m) := by
  rw [hw]
  show spl bs ((b + (H % s + z) : Nat) : Int).toNat (zs m) = _
  rw [Int.toNat_natCast]
 have hwr := h.rg.write 0 (by simp) z (zs m) (by show z + (zs m).length ≤ C.length; rw [zs_len]; omega) (by show z < C.length; exact hz) (zs_is m)
 have hwr : Rg (spl bs (b + ((H + tot []) % s + z)) (zs m)) b s H (([C] ++ rows (A.drop k)).set 0 (spl C z (zs m))) := hwr
 rw [tot_nil, Nat.add_zero] at hwr
 have hwr : Rg (spl bs (b + (H % s + z)) (zs m)) b s H ([spl C z (zs m)] ++ rows (A.drop k)) := hwr
 have hlC : (spl C z (zs m)).length = C.length := spl_len _ _ _ (by rw [zs_len]; omega)
 have htake : (spl C z (zs m)).take (z + m) = zs (z + m) := by
  unfold spl
  rw [List.take_append, List.length_take, show min z C.length = z by omega, List.take_of_length_le (by simp; omega), htz, show z + m - z = m by omega, List.take_append_of_le_length (by rw [zs_len]; omega), List.take_of_length_le (by rw [zs_len]; omega), zs_app]
 rw [hout]
 have hI : InvX D b s (spl bs (b + (H % s + z)) (zs m)) P A k H [spl C z (zs m)] := by
  refine ⟨h.so, h.b8, hwr, h.kl, ?_, h.h8, h.ok, h.fn, h.ow, ?_, h.pt⟩
  ·have := h.fk
   rw [tot_one] at this ⊢
   rw [hlC]
   exact this
  ·obtain ⟨cc, hcc, hcl⟩ := h.cp
   refine ⟨cc, ?_, hcl⟩
   rw [rdN_far (by rw [zs_len]; omega) (.inr (by rw [zs_len]; omega))]
   exact hcc
 have hstep : (GetM.mk c (.zr (b + (H % s + z) : Nat) (C.length - z : Nat)) hd first dn out odd e).step ((GetM.mk c (.zr (b + (H % s + z) : Nat) (C.length - z : Nat)) hd first dn out odd e).want.ans bs) =
   if ((C.length - z : Nat) : Int) ≤ 8 then ⟨c, .st, hd, first, dn, out, odd, e⟩ else ⟨c, .zr ((b + (H % s + z) : Nat) + 8) ((C.length - z : Nat) - 8), hd, first, dn, out, odd, e⟩ := rfl
 rw [hstep]
 have hC' : ∀ pc, GCom b s A k H [spl C z (zs m)] k0 ⟨c, pc, hd, first, dn, out, odd, e⟩ := fun pc => ⟨h1, h2, h3, h4, h5, by rw [tot_one, hlC]; exact h6, h7, h8, h9, by rw [tot_one, hlC]; exact h10⟩
 by_cases h8' : ((C.length - z : Nat) : Int) ≤ 8
 ·rw [if_pos h8']
  refine ⟨k, H, _, hI, ⟨hC' _, _, rfl, ?_⟩, ⟨Nat.le_refl _, Nat.le_refl _⟩, fun _ => .inl ⟨rfl, rfl, by rw [tot_one, tot_one, hlC]⟩⟩
  rw [hlC]
  rw [show z + m = C.length by omega, List.take_of_length_le (by omega)] at htake
  exact htake
 ·rw [if_neg h8']
  refine ⟨k, H, _, hI, ⟨hC' _, _, z + m, rfl, by omega, by omega, by omega, htake⟩, ⟨Nat.le_refl _, Nat.le_refl _⟩, fun _ => .inl ⟨rfl, rfl, by rw [tot_one, tot_one, hlC]⟩⟩
theorem get_st {k H k0 : Nat} {c : GetC} {hd first dn e : Int} {out : List (Int × List Int)} (h : InvX D b s bs P A k H F) (hT : ln A ≤ 4611686018427387000) (hg : GRel b s A k H F k0 ⟨c, .st, hd, first, dn, out, odd, e⟩) : GetGo D b s bs P A k H F k0 ⟨c, .st, hd, first, dn, out, odd, e⟩ := by
 obtain ⟨hC, C, rfl, hCz⟩ := hg
 obtain ⟨h1, h2, h3, h4, h5, h6, h7, h8, h9, h10⟩ := hC
 dsimp only at h1 h2 h3 h4 h5 h6 h7 h8 h9
 rw [tot_one] at h6 h10
 have hln := h.rg.len
 have hb8 := h.b8
 have hso := h.so
 have hft := h.fit
 have hal := h.all
 have hfk := h.fk
 rw [tot_one] at hfk
 have hkle := ln_take_le A k
 have hmv := h.rg.move 1 (by simp) (by show [C].flatten = zs (tot [C]); rw [tot_one]; simpa using hCz) (by omega)
 have hmv : Rg (spl bs (b + s + 16) (leB ((H : Int) + tot [C]) 8)) b s (H + tot [C]) (rows (A.drop k)) := hmv
 rw [tot_one] at hmv
 have ha : (c.b + c.s + 16).toNat = b + s + 16 := by omega
 have hu : u64 (hd + dn) = (H : Int) + C.length := by unfold u64; omega
 refine ⟨?_, k, H + C.length, [], ?_, ⟨?_, rfl, h8, h9⟩, ⟨Nat.le_refl _, Nat.le_add_right _ _⟩, fun _ => .inl ⟨rfl, rfl, by rw [tot_one, tot_nil]; rfl⟩⟩
 ·show acE bs.length 2 (c.b + c.s + 16) 8 0 = 0
  exact sto_err (by omega) (by omega) (by omega)
 ·show InvX D b s (spl bs (c.b + c.s + 16).toNat (leB (u64 (hd + dn)) 8)) P A k (H + C.length) []
  rw [ha, hu]
  refine ⟨h.so, h.b8, hmv, h.kl, by rw [tot_nil]; omega, ?_, h.ok, h.fn, h.ow, ?_, fun i m hi => (h.pt i m hi).later (by omega)⟩
  ·have := ln_mod8 (L := A.take k) (fun x hx => h.ok x (List.mem_of_mem_take hx))
   omega
  ·obtain ⟨cc, hcc, hcl⟩ := h.cp
   have l8 := leB_length ((H : Int) + C.length) 8
   refine ⟨cc, ?_, by omega⟩
   rw [rdN_far (by omega) (.inl (by omega))]
   exact hcc
 ·show (if odd = true then (13 : Int) else 0) = 0
  rw [h7]
  rfl
theorem get_go {k H k0 : Nat} (h : InvX D b s bs P A k H F) (hg : GRel b s A k H F k0 g) (hl : g.live = true) (hT : ln A ≤ 4611686018427387000) : GetGo D b s bs P A k H F k0 g := by
 obtain ⟨c, pc, hd, first, dn, out, odd, e⟩ := g
 cases pc with
 | done => cases hl
 | rc => exact get_rc h hg
 | rd sz typ p n hv => exact get_rd h hg
 | zr p n => exact get_zr h hg
 | st => exact get_st h hT hg
 | hd0 =>
  obtain ⟨h1, h2, h3, h4, h5, h6, h7, h8, h9⟩ := hg
  dsimp only at h1 h2 h3 h4 h5 h6
  subst h4 h5 h6 h7 h8
  have hln := h.rg.len
  have hb8 := h.b8
  have hso := h.so
  have hhd := h.rg.head
  have ha : (c.b + c.s + 16).toNat = b + s + 16 := by omega
  refine ⟨ld_err (a := c.b + c.s + 16) (by omega) (by omega) (by omega), ?_⟩
  have hml : H % s < s := Nat.mod_lt _ h.rg.s0
  have hC' : GCom b s A k0 H [] k0 ⟨c, .hd0, (H : Nat), (H % s : Nat), 0, [], false, e⟩ := ⟨h1, h2, h3, rfl, rfl, rfl, rfl, Nat.le_refl _, by dsimp only; rw [List.drop_eq_nil_of_le (by simp; omega)]; rfl, by rw [tot_nil]; omega⟩
  obtain ⟨F', hI, hG, hy⟩ := GetM.record_rel h hC' (by rw [List.drop_eq_nil_of_le (by simp; omega)]; rfl)
  refine ⟨k0, H, F', hI, ?_⟩
  show GRel b s A k0 H F' k0 (GetM.record ⟨c, .hd0, rdN bs (c.b + c.s + 16).toNat 8, (rdN bs (c.b + c.s + 16).toNat 8) % c.s, 0, [], false, e⟩) ∧ _ ∧ GWhy s A k0 H [] ⟨c, .hd0, hd, first, 0, [], false, e⟩ k0 H F' (GetM.record ⟨c, .hd0, rdN bs (c.b + c.s + 16).toNat 8, (rdN bs (c.b + c.s + 16).toNat 8) % c.s, 0, [], false, e⟩)
  rw [ha, hhd, h2, show (H : Int) % (s : Int) = ((H % s : Nat) : Int) by omega]
  exact ⟨hG, ⟨Nat.le_refl _, Nat.le_refl _⟩, fun h => .inr ⟨rfl, hy h⟩⟩
theorem PutC.nok_e0 (h : c.ok = false) : c.e0 ≠ 0 ∧ c.e0 ≠ 10 := by
 unfold PutC.e0
 unfold PutC.ok at h
 split
 ·rename_i h1
  rw [h1] at h
  simp only [Bool.true_and, decide_eq_false_iff_not] at h
  rw [if_neg h]
  exact ⟨by decide, by decide⟩
 ·exact ⟨by decide, by decide⟩
theorem PutC.ok_e0 (h : c.ok = true) : c.e0 = 10 := by
 unfold PutC.ok at h
 unfold PutC.e0
 simp only [Bool.and_eq_true, decide_eq_true_eq] at h
 rw [if_pos (by simp [h.1.1, h.1.2]), if_pos h.2]
theorem PRel.init {b s H : Nat} (hb : c.b = b) (hs : c.s = s) (hd : IsB c.d) (ht : c.typ ≤ 2147483647) (hA : Uncl A i) : PRel b s H A i (PutC.init c) := by
 by_cases h : c.ok = true
 ·have e : PutC.init c = ⟨c, .hd0, 0, 0, false, 10⟩ := by unfold PutC.init; rw [PutC.ok_e0 h, if_pos h]
  rw [e]
  exact ⟨hb, hs, hd, ht, fun _ => ⟨h, rfl⟩, ⟨0, rfl, Nat.zero_le _⟩, hA⟩
 ·have h' : c.ok = false := by simpa using h
  have e : PutC.init c = ⟨c, .done, 0, 0, false, c.e0⟩ := by unfold PutC.init; rw [h']; rfl
  rw [e]
  exact ⟨hb, hs, hd, ht, nofun, ⟨0, rfl, Nat.zero_le _⟩, .inr ⟨(PutC.nok_e0 h').1, (PutC.nok_e0 h').2, hA⟩⟩
theorem Inv.whole (h : Inv b s bs P A k H F) (he : ∀ m ∈ P, m.live = false) : ∀ x ∈ A, x.1.fin = true := by
 intro x hx
 obtain ⟨j', hj'⟩ := List.getElem?_of_mem hx
 obtain ⟨y, i⟩ := x
 have hi : i < P.length := h.ow id _ hx
 obtain ⟨m, hm⟩ : ∃ m, P[i]? = some m := ⟨_, List.getElem?_eq_getElem hi⟩
 have hl := he m (List.mem_of_getElem? hm)
 have hr := (h.pt i m hm).pc
 obtain ⟨c, pc, hd, pos, cl, e⟩ := m
 cases pc with
 | done =>
  rcases hr with ⟨_, _, j, hI⟩ | ⟨_, _, hU⟩
  ·rcases hI.uq j' y hj' with rfl | ⟨_, hp⟩
   ·have := hI.at_
    rw [hj'] at this
    cases this
    rfl
   ·cases y with
    | p n l r => rfl
    | _ => cases hp
  ·exact absurd rfl (hU _ hx)
 | _ => cases hl
theorem Inv.whose0 (h : Inv b s bs P A k H F) {j i : Nat} {t : Int} {d : List Int} {n : Nat} (hj : A[j]? = some (.w t d n, i)) :
  ∃ m, P[i]? = some m ∧ m.e = 0 ∧ t = m.c.typ ∧ d = m.c.d ∧ m.pos = (ln (A.take j) : Nat) := by
 have hx := List.mem_of_getElem? hj
 have hi : i < P.length := h.ow id _ hx
 obtain ⟨m, hm⟩ : ∃ m, P[i]? = some m := ⟨_, List.getElem?_eq_getElem hi⟩
 have hr := (h.pt i m hm).pc
 refine ⟨m, hm, ?_⟩
 obtain ⟨c, pc, hd, pos, cl, e⟩ := m
 cases pc with
 | done =>
  rcases hr with ⟨he0, _, j0, hI⟩ | ⟨_, _, hU⟩
  ·rcases hI.uq j _ hj with rfl | ⟨_, hp⟩
   ·have h1 := hI.at_
    rw [hj] at h1
    simp only [Option.some.injEq, Prod.mk.injEq, Slot.w.injEq] at h1
    exact ⟨he0, h1.1.1, h1.1.2.1, hI.pos⟩
   ·cases hp
  ·exact absurd rfl (hU _ hx)
 | hd0 => exact absurd rfl (hr _ hx)
 | tl => exact absurd rfl (hr _ hx)
 | rm t => exact absurd rfl (hr.2 _ hx)
 | rs t v => exact absurd rfl (hr.2.2.2 _ hx)
 | ph t => exact absurd rfl (hr.2.2.2 _ hx)
 | ps t v => exact absurd rfl (hr.2.2.2.2.2 _ hx)
 | cs t pad => exact absurd rfl (hr.2.2.2 _ hx)
 | pd t =>
  obtain ⟨j0, g, _, _, _, hI⟩ := hr
  rcases hI.uq j _ hj with rfl | ⟨_, hp⟩
  ·have h1 := hI.at_
   rw [hj] at h1
   cases h1
  ·cases hp
 | wh a =>
  obtain ⟨j0, hI, _⟩ := hr
  rcases hI.uq j _ hj with rfl | ⟨_, hp⟩
  ·have h1 := hI.at_
   rw [hj] at h1
   cases h1
  ·cases hp
 | wb a p l =>
  obtain ⟨j0, hI, _⟩ := hr
  rcases hI.uq j _ hj with rfl | ⟨_, hp⟩
  ·have h1 := hI.at_
   rw [hj] at h1
   cases h1
  ·cases hp
 | fi a =>
  obtain ⟨j0, hI, _⟩ := hr
  rcases hI.uq j _ hj with rfl | ⟨_, hp⟩
  ·have h1 := hI.at_
   rw [hj] at h1
   cases h1
  ·cases hp
theorem Inv.has (h : Inv b s bs P A k H F) {i : Nat} {m : PutM} (hm : P[i]? = some m) (hl : m.live = false) (he : m.e = 0) : ∃ j : Nat, A[j]? = some (Slot.w m.c.typ m.c.d m.c.nd.toNat, i) := by
 have hr := (h.pt i m hm).pc
 obtain ⟨c, pc, hd, pos, cl, e⟩ := m
 cases pc with
 | done =>
  rcases hr with ⟨_, _, j, hI⟩ | ⟨h1, _, _⟩
  ·exact ⟨j, hI.at_⟩
  ·exact absurd he h1
 | _ => cases hl
theorem leN_zs0 : ∀ k, leN (zs k) = 0
 | 0 => rfl
 | k + 1 => by
  have e : zs (k + 1) = 0 :: zs k := rfl
  rw [e]
  show (0 : Int) + 256 * leN (zs k) = 0
  rw [leN_zs0 k]
  rfl
theorem rdN_zs0 (N a n : Nat) : rdN (zs N) a n = 0 := by
 unfold rdN
 rw [zs_drop, zs_take, leN_zs0]
theorem Rg.zero0 {N b s : Nat} (hs : 0 < s) (h : b + s + 24 ≤ N) : Rg (zs N) b s 0 [] := by
 refine ⟨hs, by rw [zs_len]; exact h, zs_is N, ?_, Nat.zero_le _, fun k hk => absurd hk (Nat.not_lt_zero _), fun k hk => absurd hk (Nat.not_lt_zero _), ?_, ?_⟩
 ·unfold un
  rw [zs_drop, zs_drop, zs_take, zs_take, zs_app]
  show zs _ = [] ++ zs _
  rw [List.nil_append, Nat.zero_mod]
  congr 1
  show _ = s - 0
  omega
 ·rw [rdN_zs0]
  rfl
 ·rw [rdN_zs0]
  rfl
theorem Inv.start {N b s : Nat} (hs : s = 64 ∨ s = 128 ∨ s = 256 ∨ s = 512 ∨ s = 1024 ∨ s = 2048 ∨ s = 4096 ∨ s = 8192) (h8 : b % 8 = 0) (h : b + s + 24 ≤ N) (hP : ∀ (i : Nat) (m : PutM), P[i]? = some m → ∃ c : PutC, m = PutC.init c ∧ c.b = b ∧ c.s = s ∧ IsB c.d ∧ c.typ ≤ 2147483647) : Inv b s (zs N) P [] 0 0 [] := by
 refine ⟨hs, h8, Rg.zero0 (by omega) h, Nat.le_refl _, rfl, rfl, fun x hx => (List.not_mem_nil hx).elim, fun x hx => (List.not_mem_nil hx).elim, fun _ x hx => (List.not_mem_nil hx).elim, ⟨0, by rw [rdN_zs0]; rfl, Nat.le_refl _⟩, fun i m hm => ?_⟩
 obtain ⟨c, rfl, h1, h2, h3, h4⟩ := hP i m hm
 exact PRel.init h1 h2 h3 h4 (fun x hx => (List.not_mem_nil hx).elim)
def PutM.pre (m : PutM) : Bool := match m.pc with
 | .hd0 => true
 | .tl => true
 | .rm _ => true
 | .rs _ _ => true
 | .ph _ => true
 | .ps _ _ => true
 | .cs _ _ => true
 | _ => false
def stale (t T : Int) : Nat := if t = T then 0 else 6
theorem stale_self (T : Int) : stale T T = 0 := if_pos rfl
theorem stale_le (t T : Int) : stale t T ≤ 6 := by unfold stale; split <;> omega
def PutM.rem (T : Int) (m : PutM) : Nat := match m.pc with
 | .done => 0
 | .fi _ => 1
 | .wb _ _ l => 2 + l.length / 8
 | .wh _ => 3 + m.c.d.length / 8
 | .pd _ => 4 + m.c.d.length / 8
 | .cs t _ => 5 + m.c.d.length / 8 + stale t T
 | .ps t _ => 6 + m.c.d.length / 8 + stale t T
 | .ph t => 7 + m.c.d.length / 8 + stale t T
 | .rs t _ => 8 + m.c.d.length / 8 + stale t T
 | .rm t => 9 + m.c.d.length / 8 + stale t T
 | .tl => 10 + m.c.d.length / 8
 | .hd0 => 11 + m.c.d.length / 8
theorem PutM.rem_gapped (m : PutM) (t T : Int) : (m.gapped t).rem T ≤ 7 + m.c.d.length / 8 + stale t T ∧ (m.gapped t).pre = true := by
 unfold PutM.gapped
 split
 ·exact ⟨by show 5 + m.c.d.length / 8 + stale t T ≤ _; omega, rfl⟩
 ·split
  ·exact ⟨by show 5 + m.c.d.length / 8 + stale t T ≤ _; omega, rfl⟩
  ·exact ⟨by show 7 + m.c.d.length / 8 + stale t T ≤ _; omega, rfl⟩
theorem PutM.rem_step {x : AN} {T : Int} (hl : m.live = true) (htl : m.pc = .tl → x.v = T) (hcs : ∀ t pad, m.pc = .cs t pad → x.d = false → t ≠ T) : (m.step x).rem T < m.rem T := by
 obtain ⟨c, pc, hd, pos, cl, e⟩ := m
 cases pc with
 | done => cases hl
 | hd0 => show 10 + c.d.length / 8 < 11 + c.d.length / 8; omega
 | tl =>
  have hx := htl rfl
  show PutM.rem T (if PutM.fit _ x.v then PutM.gapped _ x.v else _) < 10 + c.d.length / 8
  rw [hx]
  split
  ·have h1 := (PutM.rem_gapped ⟨c, .tl, hd, pos, cl, e⟩ T T).1
   rw [stale_self] at h1
   have h2 : (PutM.mk c .tl hd pos cl e).c = c := rfl
   rw [h2] at h1
   omega
  ·show 9 + c.d.length / 8 + stale T T < _
   rw [stale_self]
   omega
 | rm t =>
  show PutM.rem T (if PutM.fit _ t then _ else _) < 9 + c.d.length / 8 + stale t T
  split
  ·show 8 + c.d.length / 8 + stale t T < _
   omega
  ·show 0 < _
   omega
 | rs t v =>
  have h1 := (PutM.rem_gapped ⟨c, .rs t v, hd, pos, cl, e⟩ t T).1
  have h2 : (PutM.mk c (.rs t v) hd pos cl e).c = c := rfl
  rw [h2] at h1
  show PutM.rem T (PutM.gapped _ t) < 8 + c.d.length / 8 + stale t T
  omega
 | ph t =>
  show PutM.rem T (if c.nd ≤ x.v % c.s then _ else _) < 7 + c.d.length / 8 + stale t T
  split
  ·show 6 + c.d.length / 8 + stale t T < _
   omega
  ·show 0 < _
   omega
 | ps t v => show 5 + c.d.length / 8 + stale t T < 6 + c.d.length / 8 + stale t T; omega
 | cs t pad =>
  show PutM.rem T (if x.d = true then _ else _) < 5 + c.d.length / 8 + stale t T
  by_cases hd' : x.d = true
  ·rw [if_pos hd']
   by_cases hp : pad = 0
   ·rw [if_pos hp]
    show 3 + c.d.length / 8 < _
    omega
   ·rw [if_neg hp]
    show 4 + c.d.length / 8 < _
    omega
  ·rw [if_neg hd']
   have h1 := hcs t pad rfl (by simpa using hd')
   show 10 + c.d.length / 8 < _
   unfold stale
   rw [if_neg h1]
   omega
 | pd t => show 3 + c.d.length / 8 < 4 + c.d.length / 8; omega
 | wh a =>
  show PutM.rem T (if c.d.length = 0 then _ else _) < 3 + c.d.length / 8
  split
  ·show 1 < _
   omega
  ·show 2 + c.d.length / 8 < _
   omega
 | wb a p l =>
  show PutM.rem T (if l.length ≤ 8 then _ else _) < 2 + l.length / 8
  split
  ·show 1 < _
   omega
  ·show 2 + (l.drop 8).length / 8 < _
   rw [List.length_drop]
   omega
 | fi a => show 0 < 1; omega
theorem PutM.rem_turn (m : PutM) (T T' : Int) : m.rem T' ≤ m.rem T + (if m.pre = true then 6 else 0) := by
 obtain ⟨c, pc, hd, pos, cl, e⟩ := m
 have h1 := fun t => stale_le t T'
 cases pc with
 | rm t => have := h1 t; show 9 + c.d.length / 8 + stale t T' ≤ 9 + c.d.length / 8 + stale t T + 6; omega
 | rs t v => have := h1 t; show 8 + c.d.length / 8 + stale t T' ≤ 8 + c.d.length / 8 + stale t T + 6; omega
 | ph t => have := h1 t; show 7 + c.d.length / 8 + stale t T' ≤ 7 + c.d.length / 8 + stale t T + 6; omega
 | ps t v => have := h1 t; show 6 + c.d.length / 8 + stale t T' ≤ 6 + c.d.length / 8 + stale t T + 6; omega
 | cs t pad => have := h1 t; show 5 + c.d.length / 8 + stale t T' ≤ 5 + c.d.length / 8 + stale t T + 6; omega
 | _ => exact Nat.le_add_right _ _
def GetM.rem (g : GetM) : Nat := match g.pc with
 | .done => 0
 | .st => 1
 | .zr _ n => 2 + (n / 8).toNat
 | .rc => (g.left + g.c.s / 8).toNat + 5
 | .rd sz _ _ n _ => (g.left - sz + g.c.s / 8).toNat + 6 + (n / 8).toNat
 | .hd0 => (g.c.s + g.c.s / 8).toNat + 6
theorem GetM.rem_zero (g : GetM) (h0 : 0 ≤ g.dn) (h1 : g.dn ≤ g.c.s) : g.zero.rem ≤ (g.c.s / 8).toNat + 2 := by
 unfold GetM.zero
 split
 ·exact Nat.zero_le _
 ·show 2 + (g.dn / 8).toNat ≤ _
  omega
theorem GetM.rem_record (g : GetM) (h0 : 0 ≤ g.dn) (h1 : g.dn ≤ g.c.s) (h2 : 0 ≤ g.left) : g.record.rem ≤ (g.left + g.c.s / 8).toNat + 5 := by
 unfold GetM.record
 split
 ·have := g.rem_zero h0 h1
  omega
 ·exact Nat.le_refl _
structure GetM.okay (g : GetM) : Prop where
 s0 : 64 ≤ g.c.s
 f0 : 0 ≤ g.first
 f1 : g.first < g.c.s
 d0 : 0 ≤ g.dn
 d1 : g.first + g.dn ≤ g.c.s
 rd : ∀ sz typ p n hv, g.pc = .rd sz typ p n hv → n + 8 ≤ sz ∧ 1 ≤ n ∧ sz ≤ g.left
 zr : ∀ p n, g.pc = .zr p n → 1 ≤ n
 h0 : g.pc = .hd0 → g.dn = 0
 rc : g.pc = .rc → 0 < g.left
theorem GetM.rem_step {x : AN} (h : g.okay) (hl : g.live = true) (hx : 0 ≤ x.v) : (g.step x).rem < g.rem := by
 obtain ⟨s0, f0, f1, d0, d1, hrd, hzr, hh0, hrc⟩ := h
 obtain ⟨c, pc, hd, first, dn, out, odd, e⟩ := g
 have hs8 : 0 ≤ c.s / 8 := Int.ediv_nonneg (by show 0 ≤ c.s; have : 64 ≤ c.s := s0; omega) (by decide)
 simp only [GetM.left] at *
 cases pc with
 | done => cases hl
 | st => show 0 < 1; omega
 | zr p n =>
  have := hzr p n rfl
  show GetM.rem (if n ≤ 8 then _ else _) < 2 + (n / 8).toNat
  split
  ·show 1 < _
   omega
  ·show 2 + ((n - 8) / 8).toNat < _
   omega
 | hd0 =>
  have h1 := hh0 rfl
  have h2 := Int.emod_nonneg x.v (show c.s ≠ 0 by omega)
  have h3 := Int.emod_lt_of_pos x.v (show 0 < c.s by omega)
  have h4 := GetM.rem_record ⟨c, .hd0, x.v, x.v % c.s, dn, out, odd, e⟩ d0 (by show dn ≤ c.s; omega) (by show 0 ≤ c.s - x.v % c.s - dn; omega)
  have h5 : (GetM.mk c .hd0 x.v (x.v % c.s) dn out odd e).left = c.s - x.v % c.s - dn := rfl
  rw [h5] at h4
  show GetM.rem (GetM.record ⟨c, .hd0, x.v, x.v % c.s, dn, out, odd, e⟩) < (c.s + c.s / 8).toNat + 6
  have h6 : (GetM.mk c .hd0 x.v (x.v % c.s) dn out odd e).c = c := rfl
  rw [h6] at h4
  omega
 | rc =>
  have h1 := hrc rfl
  show GetM.rem (GetM.step ⟨c, .rc, hd, first, dn, out, odd, e⟩ x) < (c.s - first - dn + c.s / 8).toNat + 5
  unfold GetM.step
  dsimp only
  split
  ·have h2 := GetM.rem_zero ⟨c, .rc, hd, first, dn, out, odd, e⟩ d0 (by show dn ≤ c.s; omega)
   have h3 : (GetM.mk c .rc hd first dn out odd e).c = c := rfl
   rw [h3] at h2
   omega
  ·rename_i hL1
   split
   ·have h2 := GetM.rem_zero ⟨c, .rc, hd, first, dn, out, true, e⟩ d0 (by show dn ≤ c.s; omega)
    have h3 : (GetM.mk c .rc hd first dn out true e).c = c := rfl
    rw [h3] at h2
    omega
   ·rename_i hL2
    have h4 : ¬ loS x.v < 8 ∧ ¬ c.s - first - dn < rsz (loS x.v) := by
     refine ⟨fun h => hL2 (.inl h), fun h => hL2 (.inr h)⟩
    have h5 : loS x.v ≤ rsz (loS x.v) := by unfold rsz; omega
    have h6 := h4.1
    have h7 := h4.2
    generalize rsz (loS x.v) = Z at *
    generalize loS x.v = L at *
    split
    ·have h2 := GetM.rem_record ⟨c, .rc, hd, first, dn + Z, out, odd, e⟩ (by show 0 ≤ dn + Z; omega) (by show dn + Z ≤ c.s; omega) (by show 0 ≤ c.s - first - (dn + Z); omega)
     have h3 : (GetM.mk c .rc hd first (dn + Z) out odd e).c = c := rfl
     have h8 : (GetM.mk c .rc hd first (dn + Z) out odd e).left = c.s - first - (dn + Z) := rfl
     rw [h3, h8] at h2
     omega
    ·split
     ·have h2 := GetM.rem_record ⟨c, .rc, hd, first, dn + Z, out ++ [(hiS x.v, [])], odd, e⟩ (by show 0 ≤ dn + Z; omega) (by show dn + Z ≤ c.s; omega) (by show 0 ≤ c.s - first - (dn + Z); omega)
      have h3 : (GetM.mk c .rc hd first (dn + Z) (out ++ [(hiS x.v, [])]) odd e).c = c := rfl
      have h8 : (GetM.mk c .rc hd first (dn + Z) (out ++ [(hiS x.v, [])]) odd e).left = c.s - first - (dn + Z) := rfl
      rw [h3, h8] at h2
      exact Nat.lt_of_le_of_lt h2 (by omega)
     ·show (c.s - first - dn - Z + c.s / 8).toNat + 6 + ((L - 8) / 8).toNat < _
      omega
 | rd sz typ p n hv =>
  obtain ⟨r1, r2, r3⟩ := hrd sz typ p n hv rfl
  show GetM.rem (if n ≤ 8 then _ else _) < (c.s - first - dn - sz + c.s / 8).toNat + 6 + (n / 8).toNat
  split
  ·have h2 := GetM.rem_record ⟨c, .rd sz typ p n hv, hd, first, dn + sz, out ++ [(typ, hv ++ x.b)], odd, e⟩ (by show 0 ≤ dn + sz; omega) (by show dn + sz ≤ c.s; omega) (by show 0 ≤ c.s - first - (dn + sz); omega)
   have h3 : (GetM.mk c (.rd sz typ p n hv) hd first (dn + sz) (out ++ [(typ, hv ++ x.b)]) odd e).c = c := rfl
   have h8 : (GetM.mk c (.rd sz typ p n hv) hd first (dn + sz) (out ++ [(typ, hv ++ x.b)]) odd e).left = c.s - first - (dn + sz) := rfl
   rw [h3, h8] at h2
   exact Nat.lt_of_le_of_lt h2 (by omega)
  ·show (c.s - first - dn - sz + c.s / 8).toNat + 6 + ((n - 8) / 8).toNat < _
   omega
variable {M : Mac}
theorem row_ends (most : Int) (I : SW M.σ → Prop) (μ : SW M.σ → Nat) (hI : ∀ S i, I S → M.goesAt S i = true → I (M.pick S 0 i 0).1 ∧ μ (M.pick S 0 i 0).1 < μ S) : ∀ (L : List Nat) (S : SW M.σ) (n : Int) (g : Bool), I S → n + μ S ≤ most →
  I (M.row most L S n g).1 ∧ (M.row most L S n g).2.1 + μ (M.row most L S n g).1 ≤ most ∧ (M.row most L S n g).2.2.2 = false ∧
  ((M.row most L S n g).2.2.1 = false → (M.row most L S n g).1 = S ∧ ∀ i ∈ L, M.goesAt S i = false) ∧ (g = false → (M.row most L S n g).2.2.1 = true → μ (M.row most L S n g).1 < μ S) ∧ μ (M.row most L S n g).1 ≤ μ S ∧ (g = true → (M.row most L S n g).2.2.1 = true)
 | [], S, n, g, h, hn => ⟨h, hn, rfl, fun _ => ⟨rfl, fun i hi => (List.not_mem_nil hi).elim⟩, (fun h1 h2 => (Bool.noConfusion (h1.symm.trans h2))), Nat.le_refl _, fun h => h⟩
 | i :: L, S, n, g, h, hn => by
  by_cases hg : M.goesAt S i = true
  ·obtain ⟨h1, h2⟩ := hI S i h hg
   have hr : M.row most (i :: L) S n g = M.row most L (M.pick S 0 i 0).1 (n + 1) true := by
    conv => lhs; unfold Mac.row
    rw [if_neg (by rw [hg]; nofun), if_neg (by omega)]
   rw [hr]
   obtain ⟨a1, a2, a3, a4, a5, a6, a7⟩ := row_ends most I μ hI L (M.pick S 0 i 0).1 (n + 1) true h1 (by omega)
   refine ⟨a1, a2, a3, fun h => ?_, fun _ _ => by omega, by omega, fun _ => a7 rfl⟩
   rw [a7 rfl] at h
   cases h
  ·have hg' : M.goesAt S i = false := by simpa using hg
   have hr : M.row most (i :: L) S n g = M.row most L S n g := by
    conv => lhs; unfold Mac.row
    rw [if_pos hg']
   rw [hr]
   obtain ⟨a1, a2, a3, a4, a5, a6, a7⟩ := row_ends most I μ hI L S n g h hn
   refine ⟨a1, a2, a3, fun h => ⟨(a4 h).1, fun j hj => ?_⟩, a5, a6, a7⟩
   rcases List.mem_cons.1 hj with rfl | hj
   ·exact hg'
   ·exact (a4 h).2 j hj
theorem rob_ends (most : Int) (I : SW M.σ → Prop) (μ : SW M.σ → Nat) (hI : ∀ S i, I S → M.goesAt S i = true → I (M.pick S 0 i 0).1 ∧ μ (M.pick S 0 i 0).1 < μ S) : ∀ (f : Nat) (S : SW M.σ) (n : Int), I S → n + μ S ≤ most → μ S < f →
  I (M.rob most f S n).1 ∧ ∀ i, i < (M.rob most f S n).1.acts.length → M.goesAt (M.rob most f S n).1 i = false
 | 0, S, n, h, hn, hf => absurd hf (Nat.not_lt_zero _)
 | f + 1, S, n, h, hn, hf => by
  obtain ⟨a1, a2, a3, a4, a5, a6, a7⟩ := row_ends most I μ hI (List.range S.acts.length) S n false h hn
  unfold Mac.rob
  by_cases hg : (M.row most (List.range S.acts.length) S n false).2.2.1 = true
  ·rw [if_pos ⟨hg, a3⟩]
   exact rob_ends most I μ hI f _ _ a1 a2 (by have := a5 rfl hg; omega)
  ·rw [if_neg (fun h => hg h.1)]
   obtain ⟨b1, b2⟩ := a4 (by simpa using hg)
   refine ⟨a1, fun i hi => ?_⟩
   dsimp only at hi ⊢
   rw [b1] at hi ⊢
   exact b2 i (List.mem_range.2 hi)
theorem robin_ends (most : Int) (I : SW M.σ → Prop) (μ : SW M.σ → Nat) (hI : ∀ S i, I S → M.goesAt S i = true → I (M.pick S 0 i 0).1 ∧ μ (M.pick S 0 i 0).1 < μ S) (S : SW M.σ) (h : I S) (hn : (μ S : Int) ≤ most) :
  I (M.robin most S).1 ∧ ∀ i, i < (M.robin most S).1.acts.length → M.goesAt (M.robin most S).1 i = false :=
 rob_ends most I μ hI (most.toNat + 2) S 0 h (by omega) (by omega)
theorem pick_at {S : SW M.σ} {s : M.σ} (h : S.acts[i]? = some ⟨some s, false⟩) (hl : M.live s = true) (he : (M.want s).err S.bs.length = 0) :
  (M.pick S 0 i 0).1.acts = S.acts.set i ⟨some (M.step s ((M.want s).ans S.bs)), false⟩ ∧ (M.pick S 0 i 0).1.bs = (M.want s).out S.bs ∧ (M.pick S 0 i 0).1.cnt = S.cnt + 1 := by
 have ha : M.act S 0 i = ({ S with bs := (M.want s).out S.bs, cnt := S.cnt + 1, acts := S.acts.set i ⟨some (M.step s ((M.want s).ans S.bs)), false⟩ }, (M.want s, (M.want s).ans S.bs), 0) := by
  unfold Mac.act
  rw [if_neg (by omega)]
  rw [show ((i : Int).toNat) = i by omega, h]
  dsimp only
  rw [if_neg (by nofun), if_neg (by omega)]
  unfold Mac.stepA
  dsimp only
  rw [if_neg (by rw [hl]; nofun), if_pos he]
 unfold Mac.pick
 rw [if_neg (by omega), if_pos (.inl rfl), ha]
 exact ⟨rfl, rfl, rfl⟩
theorem pick_idle {S : SW M.σ} {s : M.σ} (h : S.acts[i]? = some ⟨some s, false⟩) (hl : M.live s = false) :
  (M.pick S 0 i 0).1.acts = S.acts ∧ (M.pick S 0 i 0).1.bs = S.bs ∧ (M.pick S 0 i 0).1.cnt = S.cnt := by
 have ha : M.act S 0 i = (S, (aaZ, anZ), 0) := by
  unfold Mac.act
  rw [if_neg (by omega)]
  rw [show ((i : Int).toNat) = i by omega, h]
  dsimp only
  rw [if_neg (by nofun), if_neg (by omega)]
  unfold Mac.stepA
  dsimp only
  rw [if_pos hl]
 unfold Mac.pick
 rw [if_neg (by omega), if_pos (.inl rfl), ha]
 exact ⟨rfl, rfl, rfl⟩
def actsQ {σ : Type} (L : List σ) : List (Ac σ) := L.map fun x => ⟨some x, false⟩
variable {σ : Type}
theorem actsQ_at {L : List σ} {x : σ} (h : L[i]? = some x) : (actsQ L)[i]? = some ⟨some x, false⟩ := by
 unfold actsQ
 rw [List.getElem?_map, h]
 rfl
theorem actsQ_set (L : List σ) (i : Nat) (x : σ) : (actsQ L).set i ⟨some x, false⟩ = actsQ (L.set i x) := by
 unfold actsQ
 rw [List.map_set]
theorem drop_at {l : List α} {k : Nat} {x : α} (h : l[k]? = some x) : l.drop k = x :: l.drop (k + 1) := by
 rw [List.drop_eq_getElem_cons (List.getElem?_eq_some_iff.1 h).1, (List.getElem?_eq_some_iff.1 h).2]
theorem Inv.back (h : Inv b s bs P A (k + 1) H (F ++ [x.1.row])) (hx : A[k]? = some x) : Inv b s bs P A k H F := by
 have hxo := h.ok x (List.mem_of_getElem? hx)
 have hf := h.fk
 rw [tot_app, tot_one, Slot.len hxo, ln_take_succ hx] at hf
 refine ⟨h.so, h.b8, ?_, by have := h.kl; omega, by omega, h.h8, h.ok, fun y hy => h.fn y ?_, h.ow, h.cp, h.pt⟩
 ·have hr := h.rg
  rw [drop_at hx]
  rw [List.append_assoc] at hr
  exact hr
 ·rw [List.take_add_one]
  exact List.mem_append_left _ hy
theorem GRel.le {k H k0 : Nat} (h : GRel b s A k H F k0 g) : k0 ≤ k := by
 obtain ⟨c, pc, hd, first, dn, out, odd, e⟩ := g
 cases pc with
 | done => exact h.2.2.1
 | hd0 => exact Nat.le_of_eq h.2.2.2.2.2.2.2.1
 | rc => exact h.1.kk
 | rd sz typ p n hv => exact h.1.kk
 | zr p n => exact h.1.kk
 | st => exact h.1.kk
theorem GRel.same {A A' : List (Slot × Nat)} {k H k0 : Nat} (h : GRel b s A k H F k0 g) (hk : A'.take k = A.take k) (hx : (∃ sz typ p n hv, g.pc = .rd sz typ p n hv) → A'[k]? = A[k]?) : GRel b s A' k H F k0 g := by
 have hc : ∀ {g}, GCom b s A k H F k0 g → GCom b s A' k H F k0 g := fun ⟨h1, h2, h3, h4, h5, h6, h7, h8, h9, h10⟩ => ⟨h1, h2, h3, h4, h5, h6, h7, h8, by rw [hk]; exact h9, h10⟩
 obtain ⟨c, pc, hd, first, dn, out, odd, e⟩ := g
 cases pc with
 | done => exact ⟨h.1, h.2.1, h.2.2.1, by rw [hk]; exact h.2.2.2⟩
 | hd0 => exact h
 | rc => exact ⟨hc h.1, by rw [hk]; exact h.2.1, h.2.2⟩
 | rd sz typ p n hv =>
  obtain ⟨a1, a2, a3, d, N, i, q, a4, a5⟩ := h
  exact ⟨hc a1, by rw [hk]; exact a2, a3, d, N, i, q, (hx ⟨sz, typ, p, n, hv, rfl⟩).trans a4, a5⟩
 | zr p n => exact ⟨hc h.1, h.2⟩
 | st => exact ⟨hc h.1, h.2⟩
theorem put_get {k H k0 : Nat} (h : Inv b s bs P A k H F) (hg : GRel b s A k H F k0 g) {i : Nat} {m : PutM} (hi : P[i]? = some m) (hl : m.live = true) (hT : ln A ≤ 4611686018427387000) :
  m.want.err bs.length = 0 ∧ ∃ A', Inv b s (m.want.out bs) (P.set i (m.step (m.want.ans bs))) A' k H F ∧ GRel b s A' k H F k0 g ∧ A'.take k = A.take k ∧ (ln A' = ln A ∨ ∃ t pad, m.pc = .cs t pad ∧ (m.want.ans bs).d = true) := by
 by_cases hr : ∃ sz typ p n hv, g.pc = .rd sz typ p n hv
 ·have h0 := hg
  obtain ⟨c, pc, hd, first, dn, out, odd, e⟩ := g
  obtain ⟨sz, typ, p, n, hv, rfl⟩ := hr
  obtain ⟨a1, a2, a3, d, N, j, q, a4, a5⟩ := hg
  obtain ⟨hI, _, _⟩ := h.next a4 rfl a1.kk a2
  obtain ⟨herr, A', hI', htk, hln⟩ := put_go hI hi hl hT
  have htk' : A'.take k = A.take k := by
   have := congrArg (List.take k) htk
   rwa [List.take_take, List.take_take, Nat.min_eq_left (Nat.le_succ k)] at this
  have hx : A'[k]? = A[k]? := by
   have := congrArg (fun l => l[k]?) htk
   simp only [List.getElem?_take_of_lt (Nat.lt_succ_self k)] at this
   exact this
  exact ⟨herr, A', hI'.back (hx.trans a4), h0.same htk' (fun _ => hx), htk', hln⟩
 ·obtain ⟨herr, A', hI', htk, hln⟩ := put_go h hi hl hT
  exact ⟨herr, A', hI', hg.same htk (fun hc => absurd hc hr), htk, hln⟩
theorem put_same (m : PutM) (x : AN) : (m.step x).c = m.c := by
 obtain ⟨c, pc, hd, pos, cl, e⟩ := m
 have hg : ∀ (m : PutM) t, (m.gapped t).c = m.c := by
  intro m t
  unfold PutM.gapped
  split
  ·rfl
  split <;> rfl
 cases pc with
 | tl => show (if PutM.fit _ x.v then PutM.gapped _ x.v else _ : PutM).c = _; split; exact hg _ _; rfl
 | rm t => show (if PutM.fit _ t then _ else _ : PutM).c = _; split <;> rfl
 | rs t v => exact hg _ _
 | ph t => show (if _ then _ else _ : PutM).c = _; split <;> rfl
 | cs t pad => show (if _ then _ else _ : PutM).c = _; split <;> rfl
 | wh a => show (if _ then _ else _ : PutM).c = _; split <;> rfl
 | wb a p l => show (if _ then _ else _ : PutM).c = _; split <;> rfl
 | _ => rfl
theorem get_same (g : GetM) (x : AN) : (g.step x).c = g.c := by
 have hz : ∀ g : GetM, g.zero.c = g.c := fun g => g.zero_out.2
 have hr : ∀ g : GetM, g.record.c = g.c := by
  intro g
  unfold GetM.record
  split
  ·exact hz g
  ·rfl
 obtain ⟨c, pc, hd, first, dn, out, odd, e⟩ := g
 cases pc with
 | done => rfl
 | st => rfl
 | zr p n => show (if _ then _ else _ : GetM).c = _; split <;> rfl
 | hd0 => exact hr _
 | rc =>
  unfold GetM.step
  dsimp only
  split
  ·exact hz _
  split
  ·exact hz _
  split
  ·exact hr _
  split
  ·exact hr _
  ·rfl
 | rd sz typ p n hv =>
  show (if _ then GetM.got _ _ _ _ else _ : GetM).c = _
  split
  ·exact hr _
  ·rfl
theorem GRel.okay {k H k0 : Nat} (h : InvX D b s bs P A k H F) (hg : GRel b s A k H F k0 g) (hl : g.live = true) : g.okay := by
 have hso := h.so
 have hml : H % s < s := Nat.mod_lt _ h.rg.s0
 obtain ⟨c, pc, hd, first, dn, out, odd, e⟩ := g
 have com : ∀ {pc}, GCom b s A k H F k0 ⟨c, pc, hd, first, dn, out, odd, e⟩ → 64 ≤ c.s ∧ 0 ≤ first ∧ first < c.s ∧ 0 ≤ dn ∧ first + dn ≤ c.s ∧ c.s = s ∧ first = (H % s : Nat) ∧ dn = (tot F : Nat) := by
  rintro pc ⟨h1, h2, h3, h4, h5, h6, h7, h8, h9, h10⟩
  dsimp only at h1 h2 h3 h4 h5 h6
  exact ⟨by omega, by omega, by omega, by omega, by omega, h2, h5, h6⟩
 cases pc with
 | done => cases hl
 | hd0 =>
  obtain ⟨h1, h2, h3, h4, h5, h6, h7, h8, h9⟩ := hg
  dsimp only at h1 h2 h3 h4 h5 h6 h9
  exact ⟨by dsimp only; omega, by dsimp only; omega, by dsimp only; omega, by dsimp only; omega, by dsimp only; omega, nofun, nofun, fun _ => h5, nofun⟩
 | rc =>
  obtain ⟨c1, c2, c3, c4, c5, _⟩ := com hg.1
  exact ⟨c1, c2, c3, c4, c5, nofun, nofun, nofun, fun _ => hg.2.2⟩
 | rd sz typ p n hv =>
  obtain ⟨c1, c2, c3, c4, c5, c6, c7, c8⟩ := com hg.1
  refine ⟨c1, c2, c3, c4, c5, ?_, nofun, nofun, nofun⟩
  rintro _ _ _ _ _ ⟨⟩
  obtain ⟨hC, hF, hlt, d, N, i, q, hx, rfl, rfl, hq, rfl, rfl⟩ := hg
  obtain ⟨x0, x1, x2, q1, q2, q3, q4⟩ := h.ok _ (List.mem_of_getElem? hx)
  obtain ⟨hI, _, ht⟩ := h.next hx rfl hC.kk hF
  have hdl := drop_at hx
  have hkF : F.length < (F ++ rows (A.drop k)).length := by rw [hdl]; simp [rows]
  have hel : (F ++ rows (A.drop k))[F.length] = (Slot.w typ d N).row := by
   rw [List.getElem_append_right (Nat.le_refl _)]
   simp only [hdl, rows, List.map_cons, Nat.sub_self, List.getElem_cons_zero]
  have hcr := h.rg.cross _ hkF
  rw [List.take_left, hel, Slot.len (h.ok _ (List.mem_of_getElem? hx)), mod_add_lt hlt] at hcr
  have hcr : H % s + tot F + N ≤ s := hcr
  refine ⟨by omega, by omega, ?_⟩
  show (N : Int) ≤ c.s - first - dn
  omega
 | zr p n =>
  obtain ⟨c1, c2, c3, c4, c5, _⟩ := com hg.1
  refine ⟨c1, c2, c3, c4, c5, nofun, ?_, nofun, nofun⟩
  rintro _ _ ⟨⟩
  obtain ⟨_, c, z, _, hz, rfl, _⟩ := hg
  omega
 | st =>
  obtain ⟨c1, c2, c3, c4, c5, _⟩ := com hg.1
  exact ⟨c1, c2, c3, c4, c5, nofun, nofun, nofun, nofun⟩
theorem InvX.isb (h : InvX D b s bs P A k H F) : IsB bs := h.rg.is
theorem GRel.done {k H k0 : Nat} (h : GRel b s A k H F k0 g) (hl : g.live = false) : g.e = 0 ∧ F = [] ∧ k0 ≤ k ∧ g.out = msgs ((A.take k).drop k0) := by
 obtain ⟨c, pc, hd, first, dn, out, odd, e⟩ := g
 cases pc with
 | done => exact h
 | _ => cases hl
theorem GRel.out {k H k0 : Nat} (h : GRel b s A k H F k0 g) (hw : g.wiped = true) : g.out = msgs ((A.take k).drop k0) := by
 obtain ⟨c, pc, hd, first, dn, out, odd, e⟩ := g
 cases pc with
 | done => exact h.2.2.2
 | st => exact h.1.out
 | zr p n => exact h.1.out
 | _ => cases hw
structure GEnded (D : Prop) (b s : Nat) (bs : List Int) (P : List PutM) (A : List (Slot × Nat)) (k H : Nat) (F : List (List Int)) (k0 : Nat) (g : GetM) (n : Nat) (bs' : List Int) (k' H' : Nat) (g' : GetM) : Prop where
 runs : Runs ⟨GetM, GetM.live, GetM.want, GetM.step⟩ g bs n g' bs'
 fin : g'.live = false
 few : n ≤ g.rem
 inv : InvX D b s bs' P A k' H' []
 rel : GRel b s A k' H' [] k0 g'
 kk : k ≤ k'
 c : g'.c = g.c
 wiped : g.wiped = true → k' = k ∧ H' = H + tot F
 why : g.wiped = false → (∃ x, A[k']? = some x ∧ x.1.fin = false) ∨ k' = A.length ∨ (H' % s = 0 ∧ H < H') ∨ g.c.most ≤ (g'.out.length : Int)
theorem get_ends {k0 : Nat} (hT : ln A ≤ 4611686018427387000) : ∀ (f : Nat) {bs : List Int} {k H : Nat} {F : List (List Int)} {g : GetM}, InvX D b s bs P A k H F → GRel b s A k H F k0 g → g.rem ≤ f →
  ∃ n bs' k' H' g', GEnded D b s bs P A k H F k0 g n bs' k' H' g' := by
 intro f
 induction f with
 | zero =>
  intro bs k H F g h hg hf
  by_cases hl : g.live = true
  ·have hs := h.so
   obtain ⟨c, pc, hd, first, dn, out, odd, e⟩ := g
   cases pc with
   | done => cases hl
   | _ => simp [GetM.rem] at hf
  ·have hl' : g.live = false := by simpa using hl
   obtain ⟨_, rfl, _, _⟩ := hg.done hl'
   refine ⟨0, bs, k, H, g, .refl _ _, hl', Nat.zero_le _, h, hg, Nat.le_refl _, rfl, fun _ => ⟨rfl, by rw [tot_nil]; rfl⟩, fun hw => ?_⟩
   obtain ⟨c, pc, hd, first, dn, out, odd, e⟩ := g
   cases pc with
   | done => cases hw
   | _ => cases hl'
 | succ f ih =>
  intro bs k H F g h hg hf
  by_cases hl : g.live = true
  ·obtain ⟨herr, k1, H1, F1, hI, hG, ⟨hkk, hHH⟩, hwhy⟩ := get_go h hg hl hT
   have hx0 : 0 ≤ (g.want.ans bs).v := (AA.ans_ok h.isb herr).v0
   have hrem := GetM.rem_step (x := g.want.ans bs) (GRel.okay h hg hl) hl hx0
   obtain ⟨n, bs', k', H', g', e⟩ := ih hI hG (by omega)
   have hc := get_same g (g.want.ans bs)
   refine ⟨n + 1, bs', k', H', g', .step hl herr e.runs, e.fin, by have := e.few; omega, e.inv, e.rel, by have := e.kk; omega, e.c.trans hc, ?_, ?_⟩
   ·intro hw
    have hw1 : (g.step (g.want.ans bs)).wiped = true := by
     obtain ⟨c, pc, hd, first, dn, out, odd, e⟩ := g
     cases pc with
     | done => rfl
     | st => rfl
     | zr p n => show GetM.wiped (if _ then _ else _) = true; split <;> rfl
     | _ => cases hw
    obtain ⟨q1, q2⟩ := e.wiped hw1
    rcases hwhy hw1 with ⟨_, q3, q4⟩ | ⟨q3, _⟩
    ·exact ⟨q1.trans q3, by omega⟩
    ·rw [hw] at q3; cases q3
   ·intro hw
    by_cases hw1 : (g.step (g.want.ans bs)).wiped = true
    ·obtain ⟨q1, q2⟩ := e.wiped hw1
     rcases hwhy hw1 with ⟨q3, _⟩ | ⟨_, q3⟩
     ·rw [hw] at q3; cases q3
     ·rcases q3 with q3 | q3 | ⟨q3, q4⟩ | q3
      ·left; rw [q1]; exact q3
      ·right; left; rw [q1]; exact q3
      ·right; right; left
       rw [q2]
       exact ⟨q3, by omega⟩
      ·right; right; right
       rw [e.rel.out (by
        have := e.fin
        obtain ⟨c, pc, hd, first, dn, out, odd, e⟩ := g'
        cases pc with
        | done => rfl
        | _ => cases this), q1, ← hG.out hw1, ← hc]
       exact q3
    ·have hw1' : (g.step (g.want.ans bs)).wiped = false := by simpa using hw1
     rcases e.why hw1' with q | q | ⟨q, q'⟩ | q
     ·exact .inl q
     ·exact .inr (.inl q)
     ·exact .inr (.inr (.inl ⟨q, by omega⟩))
     ·right; right; right
      rw [← hc]
      exact q
  ·exact ih h hg (by
    obtain ⟨c, pc, hd, first, dn, out, odd, e⟩ := g
    cases pc with
    | done => exact Nat.zero_le _
    | _ => exact absurd rfl hl)
theorem set_same {l : List α} {x : α} (h : l[i]? = some x) : l.set i x = l := by
 refine List.ext_getElem? fun j => ?_
 by_cases e : i = j
 ·subst e
  rw [List.getElem?_set_self (List.getElem?_eq_some_iff.1 h).1, h]
 ·rw [List.getElem?_set_ne e]
def keyQ (L : List (Nat × PutM)) : List (Nat × PutC) := L.map fun x => (x.1, x.2.c)
structure PG (b s : Nat) (A : List (Slot × Nat)) (k H : Nat) (F : List (List Int)) (k0 : Nat) (g : GetM) (L : List (Nat × PutM)) (S : SW putMacQ.σ) : Prop where
 acts : S.acts = actsQ (σ := Nat × PutM) L
 inv : Inv b s S.bs (L.map (·.2)) A k H F
 rel : GRel b s A k H F k0 g
theorem actsQ_none {L : List σ} (h : L[i]? = none) : (actsQ L)[i]? = none := by
 unfold actsQ
 rw [List.getElem?_map, h]
 rfl
theorem actsQ_len (L : List σ) : (actsQ L).length = L.length := by simp [actsQ]
def mso : Nat → List (Slot × Nat) → List (Nat × Nat)
 | _, [] => []
 | o, (.w t d n, i) :: r => (o, i) :: mso (o + n) r
 | o, (.z n, _) :: r => mso (o + n) r
 | o, (.p n _ _, _) :: r => mso (o + n) r
 | o, (.b _ _ n _, _) :: r => mso (o + n) r
def okN (P : List PutM) : Nat := (P.filter fun m => m.e == 0).length
theorem ln_inj (h : ∀ x ∈ A, x.1.ok) {i j : Nat} (hi : i ≤ j) (hj : j ≤ A.length) (e : ln (A.take i) = ln (A.take j)) : i = j := by
 rcases Nat.lt_or_ge i j with hlt | hge
 ·have := ln_mono h (List.getElem?_eq_getElem (show i < A.length by omega)) hlt
  omega
 ·omega
end Go.Proofs.YtggjhleomocojaaGreat
end
