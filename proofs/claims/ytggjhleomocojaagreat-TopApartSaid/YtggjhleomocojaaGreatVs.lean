/- Machines seen through a map: a world, seen so, goes on as it goes. No program in sight. Conditions: none. -/
import Derived.Test.YtggjhleomocojaaGreatKe
import Derived.Test.YtggjhleomocojaaGreatBd
import Derived.Test.YtggjhleomocojaaGreatQb
namespace Go.Proofs.YtggjhleomocojaaGreat
open Go.RowKit
set_option linter.unusedVariables false
set_option linter.unusedSimpArgs false
structure Mac.Hom (M' M : Mac) (f : M'.σ → M.σ) : Prop where
 live : ∀ s, M.live (f s) = M'.live s
 want : ∀ s, M.want (f s) = M'.want s
 step : ∀ s x, M.step (f s) x = f (M'.step s x)
def mapA {α β : Type} (f : α → β) (a : Ac α) : Ac β := ⟨a.m.map f, a.dead⟩
def mapS {α β : Type} (f : α → β) (S : SW α) : SW β := ⟨S.bs, S.cnt, S.acts.map (mapA f), S.clk, S.tr⟩
variable {M' M : Mac} {f : M'.σ → M.σ}
theorem Mac.Hom.stepA (h : Mac.Hom M' M f) (S : SW M'.σ) (i : Nat) (a : Ac M'.σ) : M.stepA (mapS f S) i (mapA f a) = (mapS f (M'.stepA S i a).1, (M'.stepA S i a).2) := by
 obtain ⟨m, d⟩ := a
 cases m with
 | none => rfl
 | some s =>
  unfold Mac.stepA
  simp only [mapA, Option.map_some, h.live, h.want, h.step]
  show (if M'.live s = false then _ else if (M'.want s).err S.bs.length = 0 then _ else _) = _
  by_cases h1 : M'.live s = false
  ·rw [if_pos h1, if_pos h1]
  ·rw [if_neg h1, if_neg h1]
   by_cases h2 : (M'.want s).err S.bs.length = 0
   ·rw [if_pos h2, if_pos h2]
    simp only [mapS, List.map_set]
    rfl
   ·rw [if_neg h2, if_neg h2]
    simp only [mapS, List.map_set]
    rfl
theorem Mac.Hom.act (h : Mac.Hom M' M f) (S : SW M'.σ) (k a : Int) : M.act (mapS f S) k a = (mapS f (M'.act S k a).1, (M'.act S k a).2) := by
 unfold Mac.act
 by_cases h1 : a < 0
 ·rw [if_pos h1, if_pos h1]
 ·rw [if_neg h1, if_neg h1]
  show (match (S.acts.map (mapA f))[a.toNat]? with | none => _ | some c => _) = _
  rw [List.getElem?_map]
  cases hc : S.acts[a.toNat]? with
  | none => rfl
  | some c =>
   simp only [Option.map_some]
   show (if c.dead = true then _ else if k = 1 then _ else _) = _
   by_cases h2 : c.dead = true
   ·rw [if_pos h2, if_pos h2]
   ·rw [if_neg h2, if_neg h2]
    by_cases h3 : k = 1
    ·rw [if_pos h3, if_pos h3]
     simp only [mapS, List.map_set]
     rfl
    ·rw [if_neg h3, if_neg h3]
     exact h.stepA S a.toNat c
theorem Mac.Hom.pick (h : Mac.Hom M' M f) (S : SW M'.σ) (k a n : Int) : M.pick (mapS f S) k a n = (mapS f (M'.pick S k a n).1, (M'.pick S k a n).2) := by
 unfold Mac.pick
 by_cases h1 : k = 2
 ·rw [if_pos h1, if_pos h1]
  unfold Mac.tick
  by_cases h2 : n < 0 ∨ 1099511627776 < n
  ·simp only [if_pos h2]
   rfl
  ·simp only [if_neg h2]
   rfl
 ·rw [if_neg h1, if_neg h1]
  by_cases h2 : k = 0 ∨ k = 1
  ·rw [if_pos h2, if_pos h2, h.act S k a]
   by_cases h3 : (M'.act S k a).2.2 = 0
   ·rw [if_pos h3, if_pos h3]
    rfl
   ·rw [if_neg h3, if_neg h3]
  ·rw [if_neg h2, if_neg h2]
theorem Mac.Hom.goesAt (h : Mac.Hom M' M f) (S : SW M'.σ) (i : Nat) : M.goesAt (mapS f S) i = M'.goesAt S i := by
 unfold Mac.goesAt
 show (match (S.acts.map (mapA f))[i]? with | none => _ | some a => _) = _
 rw [List.getElem?_map]
 cases hc : S.acts[i]? with
 | none => rfl
 | some c =>
  obtain ⟨m, d⟩ := c
  cases m with
  | none => rfl
  | some s =>
   show (M.live (f s) && !d) = (M'.live s && !d)
   rw [h.live]
theorem Mac.Hom.row (h : Mac.Hom M' M f) (most : Int) : ∀ (r : List Nat) (S : SW M'.σ) (n : Int) (g : Bool), M.row most r (mapS f S) n g = (mapS f (M'.row most r S n g).1, (M'.row most r S n g).2)
 | [], S, n, g => rfl
 | i :: r, S, n, g => by
  unfold Mac.row
  rw [h.goesAt]
  by_cases h1 : M'.goesAt S i = false
  ·rw [if_pos h1, if_pos h1]
   exact Mac.Hom.row h most r S n g
  ·rw [if_neg h1, if_neg h1]
   by_cases h2 : most ≤ n
   ·rw [if_pos h2, if_pos h2]
   ·rw [if_neg h2, if_neg h2, h.pick S 0 i 0]
    exact Mac.Hom.row h most r _ (n + 1) true
theorem Mac.Hom.rob (h : Mac.Hom M' M f) (most : Int) : ∀ (k : Nat) (S : SW M'.σ) (n : Int), M.rob most k (mapS f S) n = (mapS f (M'.rob most k S n).1, (M'.rob most k S n).2)
 | 0, S, n => rfl
 | k + 1, S, n => by
  unfold Mac.rob
  rw [show (mapS f S).acts.length = S.acts.length from List.length_map .., h.row]
  dsimp only
  split
  ·exact Mac.Hom.rob h most k _ _
  ·rfl
theorem Mac.Hom.robin (h : Mac.Hom M' M f) (most : Int) (S : SW M'.σ) : M.robin most (mapS f S) = (mapS f (M'.robin most S).1, (M'.robin most S).2) := h.rob most _ S 0
def tags {σ τ : Type} (g : σ → τ) (S : SW σ) : List (Option τ) := S.acts.map (fun a => a.m.map g)
theorem tags_set {σ τ : Type} (g : σ → τ) {l : List (Ac σ)} {i : Nat} {a a' : Ac σ} (h : l[i]? = some a) (e : a'.m.map g = a.m.map g) : (l.set i a').map (fun a => a.m.map g) = l.map (fun a => a.m.map g) := by
 rw [List.map_set, e]
 apply List.ext_getElem?
 intro j
 by_cases hj : i = j
 ·subst hj
  have hl := (List.getElem?_eq_some_iff.1 h).1
  rw [List.getElem?_set_self (by rw [List.length_map]; exact hl), List.getElem?_map, h]
  rfl
 ·rw [List.getElem?_set_ne hj]
variable {τ : Type} {g : M.σ → τ}
theorem stepA_tags (hg : ∀ s x, g (M.step s x) = g s) {S : SW M.σ} {i : Nat} {a : Ac M.σ} (h : S.acts[i]? = some a) : tags g (M.stepA S i a).1 = tags g S := by
 unfold Mac.stepA
 obtain ⟨m, d⟩ := a
 cases m with
 | none => rfl
 | some s =>
  dsimp only
  split
  ·rfl
  ·split
   ·exact tags_set g h (by show some (g (M.step s _)) = some (g s); rw [hg])
   ·exact tags_set g h rfl
theorem act_tags (hg : ∀ s x, g (M.step s x) = g s) (S : SW M.σ) (k a : Int) : tags g (M.act S k a).1 = tags g S := by
 unfold Mac.act
 split
 ·rfl
 ·split
  ·rfl
  ·rename_i c hc
   split
   ·rfl
   ·split
    ·exact tags_set g hc rfl
    ·exact stepA_tags hg hc
theorem pick_tags (hg : ∀ s x, g (M.step s x) = g s) (S : SW M.σ) (k a n : Int) : tags g (M.pick S k a n).1 = tags g S := by
 unfold Mac.pick Mac.tick
 split
 ·split <;> (dsimp only; split <;> rfl)
 ·split
  ·split
   ·exact act_tags hg S k a
   ·exact act_tags hg S k a
  ·rfl
theorem row_tags (hg : ∀ s x, g (M.step s x) = g s) (most : Int) : ∀ (r : List Nat) (S : SW M.σ) (n : Int) (b : Bool), tags g (M.row most r S n b).1 = tags g S
 | [], S, n, b => rfl
 | i :: r, S, n, b => by
  unfold Mac.row
  split
  ·exact row_tags hg most r S n b
  ·split
   ·rfl
   ·rw [row_tags hg most r _ (n + 1) true]
    exact pick_tags hg S 0 i 0
theorem rob_tags (hg : ∀ s x, g (M.step s x) = g s) (most : Int) : ∀ (k : Nat) (S : SW M.σ) (n : Int), tags g (M.rob most k S n).1 = tags g S
 | 0, S, n => rfl
 | k + 1, S, n => by
  unfold Mac.rob
  split
  ·rw [rob_tags hg most k _ _]
   exact row_tags hg most _ S n false
  ·exact row_tags hg most _ S n false
theorem robin_tags (hg : ∀ s x, g (M.step s x) = g s) (most : Int) (S : SW M.σ) : tags g (M.robin most S).1 = tags g S := rob_tags hg most _ S 0
end Go.Proofs.YtggjhleomocojaaGreat
section
namespace Go.Proofs.YtggjhleomocojaaGreat
open Go.RowKit
set_option linter.unusedVariables false
theorem gB_drop (l : List Int) (a i : Nat) : gB (l.drop a) i = gB l (a + i) := by simp [gB, List.getD]
theorem gB_takeR (l : List Int) (n i : Nat) (h : i < n) : gB (l.take n) i = gB l i := by simp [gB, List.getD, h]
theorem gB_ext {l m : List Int} (hl : l.length = m.length) (h : ∀ i, i < l.length → gB l i = gB m i) : l = m := by
 apply List.ext_getElem hl
 intro i h1 h2
 have := h i h1
 simpa [gB, List.getD, h1, h2] using this
def zs (n : Nat) : List Int := List.replicate n 0
def rcB (hd : Int) (d : List Int) (N : Nat) : List Int := leB hd 8 ++ (d ++ zs (N - 8 - d.length))
end Go.Proofs.YtggjhleomocojaaGreat
end
section
namespace Go.Proofs.YtggjhleomocojaaGreat
open Go.RowKit
set_option linter.unusedVariables false
inductive Slot where
 | z (n : Nat)
 | p (n : Nat) (l : Int) (r : List Int)
 | b (t : Int) (d : List Int) (n k : Nat)
 | w (t : Int) (d : List Int) (n : Nat)
def Slot.n : Slot → Nat
 | .z n => n
 | .p n _ _ => n
 | .b _ _ n _ => n
 | .w _ _ n => n
def Slot.row : Slot → List Int
 | .z n => zs n
 | .p _ l r => leB (recS l (-1)) 8 ++ r
 | .b t d n k => rcB (recS (-(8 + (d.length : Int))) t) (d.take k) n
 | .w t d n => rcB (recS (8 + (d.length : Int)) t) d n
def Slot.fin : Slot → Bool
 | .p _ _ _ => true
 | .w _ _ _ => true
 | _ => false
def Slot.isP : Slot → Bool
 | .p _ _ _ => true
 | _ => false
def Slot.good : Slot → Prop
 | .z _ => True
 | .p n l r => IsB r ∧ r.length = n - 8 ∧ 8 ≤ l ∧ (l + 7) / 8 * 8 = n
 | .b t d n k => IsB d ∧ 1 ≤ t ∧ t ≤ 2147483647 ∧ n = (d.length + 15) / 8 * 8 ∧ k ≤ d.length
 | .w t d n => IsB d ∧ 1 ≤ t ∧ t ≤ 2147483647 ∧ n = (d.length + 15) / 8 * 8
structure Slot.ok (x : Slot) : Prop where
 n0 : 8 ≤ x.n
 n8 : x.n % 8 = 0
 n1 : x.n ≤ 8192
 good : x.good
def Slot.hdr (x : Slot) : Int := leN (x.row.take 8)
def ln : List (Slot × Nat) → Nat
 | [] => 0
 | x :: r => x.1.n + ln r
def rows (A : List (Slot × Nat)) : List (List Int) := A.map fun x => x.1.row
structure Its (A : List (Slot × Nat)) (i j : Nat) (pad : Slot → Bool) (x : Slot) (m : PutM) : Prop where
 at_ : A[j]? = some (x, i)
 cl : m.cl = true
 pos : m.pos = (ln (A.take j) : Nat)
 uq : ∀ j' y, A[j']? = some (y, i) → j' = j ∨ (j' + 1 = j ∧ pad y = true)
def PutM.pre (m : PutM) : Bool := match m.pc with
 | .hd0 => true
 | .tl => true
 | .rm _ => true
 | .rs _ _ => true
 | .ph _ => true
 | .ps _ _ => true
 | .cs _ _ => true
 | _ => false
structure GetM.okay (g : GetM) : Prop where
 s0 : 64 ≤ g.c.s
 f0 : 0 ≤ g.first
 f1 : g.first < g.c.s
 d0 : 0 ≤ g.dn
 d1 : g.first + g.dn ≤ g.c.s
 rd : ∀ sz typ p n hv, g.pc = .rd sz typ p n hv → n + 8 ≤ sz ∧ 1 ≤ n ∧ sz ≤ g.left
 zr : ∀ p n, g.pc = .zr p n → 1 ≤ n
 h0 : g.pc = .hd0 → g.dn = 0
 rc : g.pc = .rc → 0 < g.left
end Go.Proofs.YtggjhleomocojaaGreat
end
namespace Go.Proofs.YtggjhleomocojaaGreat
open Go.RowKit
set_option linter.unusedVariables false
def PutM.behind (A : List (Slot × Nat)) (m : PutM) : Prop := m.pre = true ∨ (m.live = false ∧ m.e ≠ 0) ∨ m.pos + m.c.nd = (ln A : Nat)
end Go.Proofs.YtggjhleomocojaaGreat
namespace Go.Proofs.YtggjhleomocojaaGreat
open Go.RowKit
set_option linter.unusedVariables false
structure Pt where
 p : Int
 t : Int
 d : List Int
def Pt.lt (p : Pt) (q : Pt) : Bool := decide (q.p < p.p)
end Go.Proofs.YtggjhleomocojaaGreat
