/- The scheduler in plain Lean: machines, actors, a pick, rounds. No program in sight. Conditions: none. -/
import Derived.Test.YtpicplkbblmbeaaGreatBm
namespace Go.Proofs.YtpicplkbblmbeaaGreat
open Go.RowKit
set_option linter.unusedVariables false
/-- An access and what it tells, without memory. -/
structure AA where
  k : Int
  a : Int
  n : Int
  v : Int
  x : Int
  b : List Int
structure AN where
  v : Int
  d : Bool
  b : List Int
def aaZ : AA := ⟨0, 0, 0, 0, 0, []⟩
def anZ : AN := ⟨0, false, []⟩
def AA.err (c : AA) (size : Nat) : Int := acE size c.k c.a c.n c.b.length
def AA.ans (c : AA) (bs : List Int) : AN := ⟨doV bs c.k c.a.toNat c.n.toNat, doD bs c.k c.a.toNat c.n.toNat c.v, doR bs c.k c.a.toNat c.n.toNat⟩
def AA.out (c : AA) (bs : List Int) : List Int := doB bs c.k c.a.toNat c.n.toNat c.v c.x c.b
/-- Its numbers are in their kinds' ranges. -/
structure AA.wf (c : AA) : Prop where
  b : IsB c.b
  bl : c.b.length ≤ 1000000
  v0 : 0 ≤ c.v
  v1 : c.v ≤ 18446744073709551615
  x0 : 0 ≤ c.x
  x1 : c.x ≤ 18446744073709551615
/-- An answer that an access may be told. -/
structure AN.ok (c : AA) (x : AN) : Prop where
  v0 : 0 ≤ x.v
  v1 : x.v ≤ 18446744073709551615
  b : IsB x.b
  rd : c.k = 5 → (x.b.length : Int) = c.n
  no : c.k ≠ 5 → x.b = []
/-- A machine without memory. -/
structure Mac where
  σ : Type
  live : σ → Bool
  want : σ → AA
  step : σ → AN → σ
/-- An actor: its machine (none: nil), and whether it was killed. -/
structure Ac (σ : Type) where
  m : Option σ
  dead : Bool
/-- An event: the pick, the access, the answer. -/
structure Ev where
  pk : Int
  pa : Int
  pn : Int
  c : AA
  x : AN
/-- A world: the buffer's bytes, how many accesses there were, the actors, the clock, the trace. -/
structure SW (σ : Type) where
  bs : List Int
  cnt : Int
  acts : List (Ac σ)
  clk : Int
  tr : List Ev
def Mac.lives (M : Mac) (a : Ac M.σ) : Bool := match a.m with
  | none => false
  | some s => M.live s
/-- Has an actor something to do, and may it? -/
def Mac.goes (M : Mac) (a : Ac M.σ) : Bool := M.lives a && !a.dead
/-- What World.step makes: the world, access and answer, the errno. -/
def Mac.stepA (M : Mac) (S : SW M.σ) (i : Nat) (a : Ac M.σ) : SW M.σ × (AA × AN) × Int :=
  match a.m with
  | none => (S, (aaZ, anZ), 0)
  | some s =>
    if M.live s = false then (S, (aaZ, anZ), 0)
    else if (M.want s).err S.bs.length = 0 then
      ({ S with bs := (M.want s).out S.bs, cnt := S.cnt + 1, acts := S.acts.set i ⟨some (M.step s ((M.want s).ans S.bs)), a.dead⟩ }, (M.want s, (M.want s).ans S.bs), 0)
    else ({ S with acts := S.acts.set i ⟨some s, true⟩ }, (aaZ, anZ), (M.want s).err S.bs.length)
/-- act: what a pick says to an actor. -/
def Mac.act (M : Mac) (S : SW M.σ) (k a : Int) : SW M.σ × (AA × AN) × Int :=
  if a < 0 then (S, (aaZ, anZ), 2) else
  match S.acts[a.toNat]? with
  | none => (S, (aaZ, anZ), 2)
  | some c => if c.dead = true then (S, (aaZ, anZ), 11) else if k = 1 then ({ S with acts := S.acts.set a.toNat ⟨c.m, true⟩ }, (aaZ, anZ), 0) else M.stepA S a.toNat c
def evZ : Ev := ⟨0, 0, 0, aaZ, anZ⟩
/-- What the clock's part of a pick makes. -/
def Mac.tick (M : Mac) (S : SW M.σ) (n : Int) : SW M.σ × Int := if n < 0 ∨ 1099511627776 < n then (S, 1) else ({ S with clk := S.clk + n }, 0)
/-- A pick: kinds step (0), kill (1), tick (2). -/
def Mac.pick (M : Mac) (S : SW M.σ) (k a n : Int) : SW M.σ × Ev × Int :=
  if k = 2 then
    (if (M.tick S n).2 = 0 then ({ (M.tick S n).1 with tr := S.tr ++ [⟨k, a, n, aaZ, anZ⟩] }, ⟨k, a, n, aaZ, anZ⟩, 0) else (S, evZ, 1))
  else if k = 0 ∨ k = 1 then
    (if (M.act S k a).2.2 = 0 then ({ (M.act S k a).1 with tr := (M.act S k a).1.tr ++ [⟨k, a, n, (M.act S k a).2.1.1, (M.act S k a).2.1.2⟩] }, ⟨k, a, n, (M.act S k a).2.1.1, (M.act S k a).2.1.2⟩, 0)
     else ((M.act S k a).1, evZ, (M.act S k a).2.2))
  else (S, evZ, 1)
def Mac.goesAt (M : Mac) (S : SW M.σ) (i : Nat) : Bool := match S.acts[i]? with
  | none => false
  | some a => M.goes a
/-- One round of Robin, from an actor on: the world, how many, whether one went, whether it is at its end. -/
def Mac.row (M : Mac) (most : Int) : List Nat → SW M.σ → Int → Bool → SW M.σ × Int × Bool × Bool
  | [], S, n, g => (S, n, g, false)
  | i :: r, S, n, g =>
    if M.goesAt S i = false then Mac.row M most r S n g
    else if most ≤ n then (S, n, g, true)
    else Mac.row M most r (M.pick S 0 i 0).1 (n + 1) true
/-- Robin, some rounds at most. -/
def Mac.rob (M : Mac) (most : Int) : Nat → SW M.σ → Int → SW M.σ × Int
  | 0, S, n => (S, n)
  | f + 1, S, n =>
    if (M.row most (List.range S.acts.length) S n false).2.2.1 = true ∧ (M.row most (List.range S.acts.length) S n false).2.2.2 = false then
      Mac.rob M most f (M.row most (List.range S.acts.length) S n false).1 (M.row most (List.range S.acts.length) S n false).2.1
    else ((M.row most (List.range S.acts.length) S n false).1, (M.row most (List.range S.acts.length) S n false).2.1)
def Mac.robin (M : Mac) (most : Int) (S : SW M.σ) : SW M.σ × Int := M.rob most (most.toNat + 2) S 0
theorem AA.ans_ok {c : AA} {bs : List Int} (hb : IsB bs) (he : c.err bs.length = 0) : AN.ok c (c.ans bs) := by
  obtain ⟨hz, h0, h1, h2, h3, h4, h5⟩ := acE_ok he (by omega)
  have rdb : ∀ n, n ≤ 8 → 0 ≤ rdN bs c.a.toNat n ∧ rdN bs c.a.toNat n ≤ 18446744073709551615 := by
    intro n hn
    have h := leN_lt 8 ((bs.drop c.a.toNat).take n) (by simp; omega) ((hb.drop _).take _)
    unfold rdN
    have e : (256 : Int) ^ 8 = 18446744073709551616 := by decide
    rw [e] at h
    omega
  have hv : 0 ≤ (c.ans bs).v ∧ (c.ans bs).v ≤ 18446744073709551615 := by
    simp only [AA.ans, doV]
    split
    · exact rdb _ (by omega)
    split
    · exact rdb _ (by omega)
    · omega
  refine ⟨hv.1, hv.2, ?_, fun h => ?_, fun h => ?_⟩
  · simp only [AA.ans, doR]
    split
    · exact (hb.drop _).take _
    · exact IsB.nil
  · simp only [AA.ans, doR, h, if_true]
    simp
    omega
  · simp only [AA.ans, doR, h, if_false]
theorem AA.out_len {c : AA} {bs : List Int} (he : c.err bs.length = 0) : (c.out bs).length = bs.length := by
  obtain ⟨hz, h0, h1, h2, h3, h4, h5⟩ := acE_ok he (by omega)
  refine doB_len (l := c.b) ?_
  rw [Int.toNat_of_nonneg (by omega), Int.toNat_of_nonneg (by omega)]
  exact he
end Go.Proofs.YtpicplkbblmbeaaGreat
