/- The scheduler in plain Lean: machines, actors, a pick, rounds. No program in sight. Conditions: none. -/
import Derived.Test.YtknahaaefmlcpaaGreatBm
import Derived.Test.YtknahaaefmlcpaaGreatHd
section
namespace Go.Proofs.YtknahaaefmlcpaaGreat
open Go.RowKit
set_option linter.unusedVariables false
structure AA where
 k : Int
 a : Int
 n : Int
 v : Int
 x : Int
 b : List Int
structure AN where
 v : Int
 d : Bool
 b : List Int
def aaZ : AA := ⟨0, 0, 0, 0, 0, []⟩
def anZ : AN := ⟨0, false, []⟩
def AA.err (c : AA) (size : Nat) : Int := acE size c.k c.a c.n c.b.length
def AA.ans (c : AA) (bs : List Int) : AN := ⟨doV bs c.k c.a.toNat c.n.toNat, doD bs c.k c.a.toNat c.n.toNat c.v, doR bs c.k c.a.toNat c.n.toNat⟩
def AA.out (c : AA) (bs : List Int) : List Int := doB bs c.k c.a.toNat c.n.toNat c.v c.x c.b
structure AA.wf (c : AA) : Prop where
 b : IsB c.b
 bl : c.b.length ≤ 1000000
 v0 : 0 ≤ c.v
 v1 : c.v ≤ 18446744073709551615
 x0 : 0 ≤ c.x
 x1 : c.x ≤ 18446744073709551615
structure AN.ok (c : AA) (x : AN) : Prop where
 v0 : 0 ≤ x.v
 v1 : x.v ≤ 18446744073709551615
 b : IsB x.b
 rd : c.k = 5 → (x.b.length : Int) = c.n
 no : c.k ≠ 5 → x.b = []
structure Mac where
 σ : Type
 live : σ → Bool
 want : σ → AA
 step : σ → AN → σ
structure Ac (σ : Type) where
 m : Option σ
 dead : Bool
structure Ev where
 pk : Int
 pa : Int
 pn : Int
 c : AA
 x : AN
structure SW (σ : Type) where
 bs : List Int
 cnt : Int
 acts : List (Ac σ)
 clk : Int
 tr : List Ev
def Mac.lives (M : Mac) (a : Ac M.σ) : Bool := match a.m with
 | none => false
 | some s => M.live s
def Mac.goes (M : Mac) (a : Ac M.σ) : Bool := M.lives a && !a.dead
def Mac.stepA (M : Mac) (S : SW M.σ) (i : Nat) (a : Ac M.σ) : SW M.σ × (AA × AN) × Int :=
 match a.m with
 | none => (S, (aaZ, anZ), 0)
 | some s =>
  if M.live s = false then (S, (aaZ, anZ), 0)
  else if (M.want s).err S.bs.length = 0 then
   ({ S with bs := (M.want s).out S.bs, cnt := S.cnt + 1, acts := S.acts.set i ⟨some (M.step s ((M.want s).ans S.bs)), a.dead⟩ }, (M.want s, (M.want s).ans S.bs), 0)
  else ({ S with acts := S.acts.set i ⟨some s, true⟩ }, (aaZ, anZ), (M.want s).err S.bs.length)
def Mac.act (M : Mac) (S : SW M.σ) (k a : Int) : SW M.σ × (AA × AN) × Int :=
 if a < 0 then (S, (aaZ, anZ), 2) else
 match S.acts[a.toNat]? with
 | none => (S, (aaZ, anZ), 2)
 | some c => if c.dead = true then (S, (aaZ, anZ), 11) else if k = 1 then ({ S with acts := S.acts.set a.toNat ⟨c.m, true⟩ }, (aaZ, anZ), 0) else M.stepA S a.toNat c
def evZ : Ev := ⟨0, 0, 0, aaZ, anZ⟩
def Mac.tick (M : Mac) (S : SW M.σ) (n : Int) : SW M.σ × Int := if n < 0 ∨ 1099511627776 < n then (S, 1) else ({ S with clk := S.clk + n }, 0)
def Mac.pick (M : Mac) (S : SW M.σ) (k a n : Int) : SW M.σ × Ev × Int :=
 if k = 2 then
  (if (M.tick S n).2 = 0 then ({ (M.tick S n).1 with tr := S.tr ++ [⟨k, a, n, aaZ, anZ⟩] }, ⟨k, a, n, aaZ, anZ⟩, 0) else (S, evZ, 1))
 else if k = 0 ∨ k = 1 then
  (if (M.act S k a).2.2 = 0 then ({ (M.act S k a).1 with tr := (M.act S k a).1.tr ++ [⟨k, a, n, (M.act S k a).2.1.1, (M.act S k a).2.1.2⟩] }, ⟨k, a, n, (M.act S k a).2.1.1, (M.act S k a).2.1.2⟩, 0)
   else ((M.act S k a).1, evZ, (M.act S k a).2.2))
 else (S, evZ, 1)
def Mac.goesAt (M : Mac) (S : SW M.σ) (i : Nat) : Bool := match S.acts[i]? with
 | none => false
 | some a => M.goes a
def Mac.row (M : Mac) (most : Int) : List Nat → SW M.σ → Int → Bool → SW M.σ × Int × Bool × Bool
 | [], S, n, g => (S, n, g, false)
 | i :: r, S, n, g =>
  if M.goesAt S i = false then Mac.row M most r S n g
  else if most ≤ n then (S, n, g, true)
  else Mac.row M most r (M.pick S 0 i 0).1 (n + 1) true
def Mac.rob (M : Mac) (most : Int) : Nat → SW M.σ → Int → SW M.σ × Int
 | 0, S, n => (S, n)
 | f + 1, S, n =>
  if (M.row most (List.range S.acts.length) S n false).2.2.1 = true ∧ (M.row most (List.range S.acts.length) S n false).2.2.2 = false then
   Mac.rob M most f (M.row most (List.range S.acts.length) S n false).1 (M.row most (List.range S.acts.length) S n false).2.1
  else ((M.row most (List.range S.acts.length) S n false).1, (M.row most (List.range S.acts.length) S n false).2.1)
def Mac.robin (M : Mac) (most : Int) (S : SW M.σ) : SW M.σ × Int := M.rob most (most.toNat + 2) S 0
theorem AA.ans_ok {c : AA} {bs : List Int} (hb : IsB bs) (he : c.err bs.length = 0) : AN.ok c (c.ans bs) := by
 obtain ⟨hz, h0, h1, h2, h3, h4, h5⟩ := acE_ok he (by omega)
 have rdb : ∀ n, n ≤ 8 → 0 ≤ rdN bs c.a.toNat n ∧ rdN bs c.a.toNat n ≤ 18446744073709551615 := by
  intro n hn
  have h := leN_lt 8 ((bs.drop c.a.toNat).take n) (by simp; omega) ((hb.drop _).take _)
  unfold rdN
  have e : (256 : Int) ^ 8 = 18446744073709551616 := by decide
  rw [e] at h
  omega
 have hv : 0 ≤ (c.ans bs).v ∧ (c.ans bs).v ≤ 18446744073709551615 := by
  simp only [AA.ans, doV]
  split
  ·exact rdb _ (by omega)
  split
  ·exact rdb _ (by omega)
  ·omega
 refine ⟨hv.1, hv.2, ?_, fun h => ?_, fun h => ?_⟩
 ·simp only [AA.ans, doR]
  split
  ·exact (hb.drop _).take _
  ·exact IsB.nil
 ·simp only [AA.ans, doR, h, if_true]
  simp
  omega
 ·simp only [AA.ans, doR, h, if_false]
def u64 (x : Int) : Int := x % 18446744073709551616
def s64 (x : Int) : Int := (x + 9223372036854775808) % 18446744073709551616 - 9223372036854775808
theorem s64_eq (x : Int) : s64 x = (x + 9223372036854775808) % 18446744073709551616 - 9223372036854775808 := rfl
theorem wrap_s64 (x : Int) : IntKind.i64.wrap x = s64 x := by rw [IntKind.wrap_i64]; rfl
theorem wrap_u64' (x : Int) : IntKind.u64.wrap x = u64 x := by rw [IntKind.wrap_u64]; rfl
theorem u64_bdP (x : Int) : 0 ≤ u64 x ∧ u64 x ≤ 18446744073709551615 := by unfold u64; omega
def rgOk (b s : Int) : Bool := isP s && decide (64 ≤ s) && decide (s ≤ 8192) && decide (0 ≤ b) && decide (b % 8 = 0) && decide (b ≤ 131040 - s)
theorem rgOk_bd {b s : Int} (h : rgOk b s = true) : isP s = true ∧ 64 ≤ s ∧ s ≤ 8192 ∧ 0 ≤ b ∧ b % 8 = 0 ∧ b ≤ 131040 - s := by
 unfold rgOk at h
 simp at h
 exact ⟨h.1.1.1.1.1, h.1.1.1.1.2, h.1.1.1.2, h.1.1.2, h.1.2, h.2⟩
theorem rg_pow {s : Int} (h1 : isP s = true) (h2 : 64 ≤ s) (h3 : s ≤ 8192) : s = 64 ∨ s = 128 ∨ s = 256 ∨ s = 512 ∨ s = 1024 ∨ s = 2048 ∨ s = 4096 ∨ s = 8192 := by
 obtain ⟨k, hk, rfl⟩ := (isP_iff s).1 h1
 have a1 : 6 ≤ k := by
  by_cases h : 6 ≤ k
  ·exact h
  ·have : k = 0 ∨ k = 1 ∨ k = 2 ∨ k = 3 ∨ k = 4 ∨ k = 5 := by omega
   rcases this with rfl | rfl | rfl | rfl | rfl | rfl <;> revert h2 <;> decide
 have a2 : k ≤ 13 := by
  by_cases h : k ≤ 13
  ·exact h
  ·have : (2 : Int) ^ 14 ≤ 2 ^ k := by exact_mod_cast Nat.pow_le_pow_right (by decide) (by omega : 14 ≤ k)
   have e : (2 : Int) ^ 14 = 16384 := by decide
   omega
 have : k = 6 ∨ k = 7 ∨ k = 8 ∨ k = 9 ∨ k = 10 ∨ k = 11 ∨ k = 12 ∨ k = 13 := by omega
 rcases this with rfl | rfl | rfl | rfl | rfl | rfl | rfl | rfl <;> decide
theorem s64_mod {s : Int} (h : s = 64 ∨ s = 128 ∨ s = 256 ∨ s = 512 ∨ s = 1024 ∨ s = 2048 ∨ s = 4096 ∨ s = 8192) (x : Int) : s64 x % s = x % s := by
 rw [s64_eq]
 rcases h with rfl | rfl | rfl | rfl | rfl | rfl | rfl | rfl <;> omega
structure PutC where
 b : Int
 s : Int
 typ : Int
 d : List Int
def PutC.ok (c : PutC) : Bool := rgOk c.b c.s && decide (1 ≤ c.typ) && decide ((c.d.length : Int) ≤ c.s / 8)
def PutC.nd (c : PutC) : Int := if c.ok then ((c.d.length : Int) + 15) / 8 * 8 else 0
def PutC.n (c : PutC) : Int := 8 + c.d.length
def PutC.e0 (c : PutC) : Int := if rgOk c.b c.s && decide (1 ≤ c.typ) then (if (c.d.length : Int) ≤ c.s / 8 then 10 else 4) else 1
inductive PPc where
 | done
 | hd0
 | tl
 | rm (t : Int)
 | rs (t v : Int)
 | ph (t : Int)
 | ps (t v : Int)
 | cs (t pad : Int)
 | pd (t : Int)
 | wh (a : Int)
 | wb (a p : Int) (l : List Int)
 | fi (a : Int)
structure PutM where
 c : PutC
 pc : PPc
 hd : Int
 pos : Int
 cl : Bool
 e : Int
def PutC.init (c : PutC) : PutM := ⟨c, if c.ok then .hd0 else .done, 0, 0, false, c.e0⟩
def PutM.fit (m : PutM) (t : Int) : Bool := decide (m.c.nd ≤ s64 (u64 (m.c.s - u64 (t - m.hd))))
def PutM.gapped (m : PutM) (t : Int) : PutM :=
 if m.c.nd ≤ m.c.s - t % m.c.s then { m with pc := .cs t 0 } else if m.c.nd ≤ m.hd % m.c.s then { m with pc := .cs t (m.c.s - t % m.c.s) } else { m with pc := .ph t }
def PutM.step (m : PutM) (x : AN) : PutM :=
 match m.pc with
 | .done => m
 | .hd0 => { m with hd := x.v, pc := .tl }
 | .tl => if m.fit x.v then m.gapped x.v else { m with pc := .rm x.v }
 | .rm t => if ({ m with hd := x.v } : PutM).fit t then { m with hd := x.v, pc := .rs t x.v } else { m with hd := x.v, pc := .done, e := 5 }
 | .rs t v => m.gapped t
 | .ph t => if m.c.nd ≤ x.v % m.c.s then { m with hd := x.v, pc := .ps t x.v } else { m with hd := x.v, pc := .done, e := 5 }
 | .ps t v => { m with pc := .cs t (m.c.s - t % m.c.s) }
 | .cs t pad => if x.d then { m with pos := s64 (s64 t + pad), cl := true, pc := if pad = 0 then .wh (m.c.b + t % m.c.s) else .pd t } else { m with pc := .tl }
 | .pd t => { m with pc := .wh m.c.b }
 | .wh a => if m.c.d.length = 0 then { m with pc := .fi a } else { m with pc := .wb a (a + 8) m.c.d }
 | .wb a p l => if l.length ≤ 8 then { m with pc := .fi a } else { m with pc := .wb a (p + 8) (l.drop 8) }
 | .fi a => { m with pc := .done, e := 0 }
def PutM.live (m : PutM) : Bool := match m.pc with
 | .done => false
 | _ => true
def PutM.end (m : PutM) : Int := m.c.b + m.c.s
def PutM.want (m : PutM) : AA :=
 match m.pc with
 | .done => aaZ
 | .hd0 => ⟨1, m.end + 8, 8, 0, 0, []⟩
 | .tl => ⟨1, m.end, 8, 0, 0, []⟩
 | .rm t => ⟨1, m.end + 16, 8, 0, 0, []⟩
 | .rs t v => ⟨2, m.end + 8, 8, v, 0, []⟩
 | .ph t => ⟨1, m.end + 16, 8, 0, 0, []⟩
 | .ps t v => ⟨2, m.end + 8, 8, v, 0, []⟩
 | .cs t pad => ⟨4, m.end, 8, t, u64 (t + (m.c.nd + pad)), []⟩
 | .pd t => ⟨2, m.c.b + t % m.c.s, 8, recS (m.c.s - t % m.c.s) (-1), 0, []⟩
 | .wh a => ⟨2, a, 8, recS (-m.c.n) m.c.typ, 0, []⟩
 | .wb a p l => ⟨6, p, min l.length 8, 0, 0, l.take 8⟩
 | .fi a => ⟨2, a, 4, m.c.n, 0, []⟩
def PutM.fix (m : PutM) : Prop := m.c.ok = true
theorem PutC.ok_bd {c : PutC} (h : c.ok = true) : rgOk c.b c.s = true ∧ 1 ≤ c.typ ∧ (c.d.length : Int) ≤ c.s / 8 := by
 unfold PutC.ok at h
 simp at h
 exact ⟨h.1.1, h.1.2, h.2⟩
theorem PutC.nd_bd {c : PutC} (h : c.ok = true) : c.nd = ((c.d.length : Int) + 15) / 8 * 8 ∧ 8 + (c.d.length : Int) ≤ c.nd ∧ c.nd < 16 + (c.d.length : Int) := by
 unfold PutC.nd
 rw [if_pos h]
 omega
structure GetC where
 b : Int
 s : Int
 most : Int
def GetC.ok (c : GetC) : Bool := rgOk c.b c.s && decide (1 ≤ c.most)
inductive GPc where
 | done
 | hd0
 | rc
 | rd (sz typ p n : Int) (hv : List Int)
 | zr (p k : Int)
 | st
structure GetM where
 c : GetC
 pc : GPc
 hd : Int
 first : Int
 dn : Int
 out : List (Int × List Int)
 odd : Bool
 e : Int
def GetC.init (c : GetC) : GetM := ⟨c, if c.ok then .hd0 else .done, 0, 0, 0, [], false, if c.ok then 10 else 1⟩
def GetM.left (m : GetM) : Int := m.c.s - m.first - m.dn
def GetM.stop (m : GetM) : GetM := { m with pc := .done, e := if m.odd then 13 else 0 }
def GetM.zero (m : GetM) : GetM := if m.dn = 0 then m.stop else { m with pc := .zr (m.c.b + m.first) m.dn }
def GetM.record (m : GetM) : GetM := if m.c.most ≤ (m.out.length : Int) ∨ m.left ≤ 0 then m.zero else { m with pc := .rc }
def rsz (l : Int) : Int := (max l 0 + 7) / 8 * 8
def GetM.got (m : GetM) (sz typ : Int) (b : List Int) : GetM := ({ m with out := m.out ++ [(typ, b)], dn := m.dn + sz } : GetM).record
def GetM.at (m : GetM) : Int := m.c.b + m.first + m.dn
def GetM.step (m : GetM) (x : AN) : GetM :=
 match m.pc with
 | .done => m
 | .hd0 => ({ m with hd := x.v, first := x.v % m.c.s } : GetM).record
 | .rc =>
  if loS x.v < 1 then m.zero
  else if loS x.v < 8 ∨ m.left < rsz (loS x.v) then ({ m with odd := true } : GetM).zero
  else if hiS x.v = -1 then ({ m with dn := m.dn + rsz (loS x.v) } : GetM).record
  else if loS x.v - 8 < 1 then m.got (rsz (loS x.v)) (hiS x.v) []
  else { m with pc := .rd (rsz (loS x.v)) (hiS x.v) (m.at + 8) (loS x.v - 8) [] }
 | .rd sz typ p n hv => if n ≤ 8 then m.got sz typ (hv ++ x.b) else { m with pc := .rd sz typ (p + 8) (n - 8) (hv ++ x.b) }
 | .zr p k => if k ≤ 8 then { m with pc := .st } else { m with pc := .zr (p + 8) (k - 8) }
 | .st => m.stop
def GetM.live (m : GetM) : Bool := match m.pc with
 | .done => false
 | _ => true
def GetM.want (m : GetM) : AA :=
 match m.pc with
 | .done => aaZ
 | .hd0 => ⟨1, m.c.b + m.c.s + 16, 8, 0, 0, []⟩
 | .rc => ⟨1, m.at, 8, 0, 0, []⟩
 | .rd sz typ p n hv => ⟨5, p, min n 8, 0, 0, []⟩
 | .zr p k => ⟨6, p, min k 8, 0, 0, List.replicate (min k 8).toNat 0⟩
 | .st => ⟨2, m.c.b + m.c.s + 16, 8, u64 (m.hd + m.dn), 0, []⟩
def GetM.res (m : GetM) : Int × Int := if m.e ≠ 0 then (0, m.e) else (m.dn, 0)
structure FixC where
 b : Int
 s : Int
inductive FPc where
 | done
 | h0
 | t0 (h : Int)
 | lk
 | ah (a : Int)
 | bk (a f : Int)
 | pd (n : Int)
structure FixM where
 c : FixC
 pc : FPc
 first : Int
 last : Int
 n : Int
 e : Int
def FixC.init (c : FixC) : FixM := ⟨c, if rgOk c.b c.s then .h0 else .done, 0, 0, 0, if rgOk c.b c.s then 10 else 1⟩
def FixM.stop (m : FixM) : FixM := { m with pc := .done, e := 0 }
def FixM.begin (m : FixM) (h t : Int) : FixM :=
 if h = t then m.stop
 else { m with first := h % m.c.s, last := if t % m.c.s ≤ h % m.c.s then m.c.s else t % m.c.s, pc := .lk }
def FixM.ahead (m : FixM) (a : Int) : FixM := if m.last ≤ a then m.stop else { m with pc := .ah a }
def FixM.back (m : FixM) (a f : Int) : FixM := if a < m.first then { m with pc := .pd (f - m.first) } else { m with pc := .bk a f }
def FixM.step (m : FixM) (x : AN) : FixM :=
 match m.pc with
 | .done => m
 | .h0 => { m with pc := .t0 x.v }
 | .t0 h => m.begin h x.v
 | .lk => if 0 < loS x.v ∨ loS x.v < -(m.c.s - m.first) then m.stop else if loS x.v < 0 then { m with pc := .pd (-loS x.v) } else m.ahead (m.first + 8)
 | .ah a => if x.v = 0 then m.ahead (a + 8) else m.back (a - 8) a
 | .bk a f => if x.v ≠ 0 then m.stop else m.back (a - 8) f
 | .pd n => ({ m with n := n } : FixM).stop
def FixM.live (m : FixM) : Bool := match m.pc with
 | .done => false
 | _ => true
def FixM.want (m : FixM) : AA :=
 match m.pc with
 | .done => aaZ
 | .h0 => ⟨1, m.c.b + m.c.s + 16, 8, 0, 0, []⟩
 | .t0 h => ⟨1, m.c.b + m.c.s, 8, 0, 0, []⟩
 | .lk => ⟨1, m.c.b + m.first, 8, 0, 0, []⟩
 | .ah a => ⟨1, m.c.b + a, 4, 0, 0, []⟩
 | .bk a f => ⟨1, m.c.b + a, 4, 0, 0, []⟩
 | .pd n => ⟨2, m.c.b + m.first, 8, recS n (-1), 0, []⟩
end Go.Proofs.YtknahaaefmlcpaaGreat
end
