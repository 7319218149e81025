/- Contracts of the reference's headers: bytes, signed, Split, Record. Conditions: the arguments are in their kinds' ranges. -/
import Derived.Test.YtggjhleomocojaaGreatRw
import Derived.Test.YtggjhleomocojaaGreatWb
import Derived.Test.YtggjhleomocojaaGreatBm
import Derived.Test.YtggjhleomocojaaGreatKi
import Derived.Shelf.Abstract
import Derived.Test.YtggjhleomocojaaGreatKc
import Derived.Deep.RegionHeld3
import Derived.Deep.RegionLaw
import Derived.Laws.CopyOwn
section
namespace Go.Proofs.YtggjhleomocojaaGreat
set_option maxRecDepth 100000
open Go.RowKit
set_option linter.unusedVariables false
theorem or_join (x y : Int) (i : Nat) (hx : 0 ≤ x) (hx' : x < 18446744073709551616) (hy : 0 ≤ y) (hm : x % 2 ^ i = 0) (hy' : y < 2 ^ i) (hi : i ≤ 64) : bits .or .u64 x y = x + y := by
 have h64 : (2 : Int) ^ i ≤ 2 ^ 64 := by exact_mod_cast Nat.pow_le_pow_right (by decide) hi
 rw [u64_or x y hx hx' hy (by have : (2 : Int) ^ 64 = 18446744073709551616 := by decide
                              omega)]
 rw [nat_join i]
 ·omega
 ·have : ((x.toNat % 2 ^ i : Nat) : Int) = x % 2 ^ i := by simp [Int.toNat_of_nonneg hx]
  omega
 ·have : ((2 ^ i : Nat) : Int) = 2 ^ i := by simp
  omega
theorem record_or (a0 a1 : Int) : bits .or .u64 (a1 % 4294967296 * 4294967296) (a0 % 4294967296) = recS a0 a1 := by
 rw [or_join _ _ 32 (by omega) (by omega) (by omega) (by omega) (by omega) (by omega)]
 rfl
theorem record_any (a0 a1 : Int) (w : World) :
  Calls Tryz.prog 78 #[.int .i32 a0, .int .i32 a1] w fun e w' => e = .returned (.int .u64 (recS a0 a1)) ∧ w = w' := by
 go_enter Tryz.func78, Tryz.ntmps78
 go_wp2
 go_ret
 exact ⟨ret_int (record_or _ _), rfl⟩
theorem split_any (a0 : Int) (w : World) (h0 : 0 ≤ a0) (h1 : a0 ≤ 18446744073709551615) :
  Calls Tryz.prog 57 #[.int .u64 a0] w fun e w' => e = .returned (.tuple #[.int .i32 (loS a0), .int .i32 (hiS a0)]) ∧ w = w' := by
 go_enter Tryz.func57, Tryz.ntmps57
 go_wp2
 go_ret2
 exact ⟨by simp [loS, hiS], rfl⟩
set_option maxHeartbeats 1000000 in
theorem size_any (n h to : Int) (w : World) (h0 : 0 ≤ h) (h1 : h ≤ 1000) (ht0 : 0 ≤ to) (ht : to ≤ 1000) :
  Calls Tryz.prog 98 #[.int .i64 n, .int .i64 h, .int .i64 to] w fun e w' => e = .returned (.tuple #[.int .i64 (szV n h to), .int .i64 (szE n h to)]) ∧ w = w' := by
 by_cases c1 : n < 0
 ·have HV := Lib.hid (show szV n h to = 0 ∧ szE n h to = 1 by unfold szV szE szBad; simp [c1])
  go_enter Tryz.func98, Tryz.ntmps98
  go_wp2_with fail
  go_ret2
  exact ⟨by rw [HV.out.1, HV.out.2]; rfl, rfl⟩
 by_cases c2 : 131072 < n
 ·have HV := Lib.hid (show szV n h to = 0 ∧ szE n h to = 1 by unfold szV szE szBad; simp [c2])
  go_enter Tryz.func98, Tryz.ntmps98
  go_wp2_with fail
  go_ret2
  exact ⟨by rw [HV.out.1, HV.out.2]; rfl, rfl⟩
 have HV := Lib.hid (show szV n h to = alV (n + h) to ∧ szE n h to = alE (n + h) to by unfold szV szE szBad; simp [c1, c2])
 go_enter Tryz.func98, Tryz.ntmps98
 go_wp2_with fail
 refine (align_any _ _ _ (by omega)).mono ?_
 rintro e w' ⟨rfl, rfl⟩
 go_wp2_with fail
 go_ret2
 exact ⟨by rw [HV.out.1, HV.out.2]; rfl, rfl⟩
theorem recordSize_any (n : Int) (w : World) :
  Calls Tryz.prog 66 #[.int .i64 n] w fun e w' => e = .returned (.tuple #[.int .i64 (szV n 8 8), .int .i64 (szE n 8 8)]) ∧ w = w' := by
 go_enter Tryz.func66, Tryz.ntmps66
 go_wp2_with fail
 refine (size_any n 8 8 _ (by omega) (by omega) (by omega) (by omega)).mono ?_
 rintro e w' ⟨rfl, rfl⟩
 go_wp2_with fail
 go_ret2
 exact ⟨rfl, rfl⟩
end Go.Proofs.YtggjhleomocojaaGreat
end
section
namespace Go.Proofs.YtggjhleomocojaaGreat
open Go.RowKit
set_option linter.unusedVariables false
structure AA where
 k : Int
 a : Int
 n : Int
 v : Int
 x : Int
 b : List Int
structure AN where
 v : Int
 d : Bool
 b : List Int
def aaZ : AA := ⟨0, 0, 0, 0, 0, []⟩
def anZ : AN := ⟨0, false, []⟩
def AA.err (c : AA) (size : Nat) : Int := acE size c.k c.a c.n c.b.length
def AA.ans (c : AA) (bs : List Int) : AN := ⟨doV bs c.k c.a.toNat c.n.toNat, doD bs c.k c.a.toNat c.n.toNat c.v, doR bs c.k c.a.toNat c.n.toNat⟩
def AA.out (c : AA) (bs : List Int) : List Int := doB bs c.k c.a.toNat c.n.toNat c.v c.x c.b
structure AA.wf (c : AA) : Prop where
 b : IsB c.b
 bl : c.b.length ≤ 1000000
 v0 : 0 ≤ c.v
 v1 : c.v ≤ 18446744073709551615
 x0 : 0 ≤ c.x
 x1 : c.x ≤ 18446744073709551615
structure AN.ok (c : AA) (x : AN) : Prop where
 v0 : 0 ≤ x.v
 v1 : x.v ≤ 18446744073709551615
 b : IsB x.b
 rd : c.k = 5 → (x.b.length : Int) = c.n
 no : c.k ≠ 5 → x.b = []
structure Mac where
 σ : Type
 live : σ → Bool
 want : σ → AA
 step : σ → AN → σ
structure Ac (σ : Type) where
 m : Option σ
 dead : Bool
structure Ev where
 pk : Int
 pa : Int
 pn : Int
 c : AA
 x : AN
structure SW (σ : Type) where
 bs : List Int
 cnt : Int
 acts : List (Ac σ)
 clk : Int
 tr : List Ev
def Mac.lives (M : Mac) (a : Ac M.σ) : Bool := match a.m with
 | none => false
 | some s => M.live s
def Mac.goes (M : Mac) (a : Ac M.σ) : Bool := M.lives a && !a.dead
def Mac.stepA (M : Mac) (S : SW M.σ) (i : Nat) (a : Ac M.σ) : SW M.σ × (AA × AN) × Int :=
 match a.m with
 | none => (S, (aaZ, anZ), 0)
 | some s =>
  if M.live s = false then (S, (aaZ, anZ), 0)
  else if (M.want s).err S.bs.length = 0 then
   ({ S with bs := (M.want s).out S.bs, cnt := S.cnt + 1, acts := S.acts.set i ⟨some (M.step s ((M.want s).ans S.bs)), a.dead⟩ }, (M.want s, (M.want s).ans S.bs), 0)
  else ({ S with acts := S.acts.set i ⟨some s, true⟩ }, (aaZ, anZ), (M.want s).err S.bs.length)
def Mac.act (M : Mac) (S : SW M.σ) (k a : Int) : SW M.σ × (AA × AN) × Int :=
 if a < 0 then (S, (aaZ, anZ), 2) else
 match S.acts[a.toNat]? with
 | none => (S, (aaZ, anZ), 2)
 | some c => if c.dead = true then (S, (aaZ, anZ), 11) else if k = 1 then ({ S with acts := S.acts.set a.toNat ⟨c.m, true⟩ }, (aaZ, anZ), 0) else M.stepA S a.toNat c
def evZ : Ev := ⟨0, 0, 0, aaZ, anZ⟩
def Mac.tick (M : Mac) (S : SW M.σ) (n : Int) : SW M.σ × Int := if n < 0 ∨ 1099511627776 < n then (S, 1) else ({ S with clk := S.clk + n }, 0)
def Mac.pick (M : Mac) (S : SW M.σ) (k a n : Int) : SW M.σ × Ev × Int :=
 if k = 2 then
  (if (M.tick S n).2 = 0 then ({ (M.tick S n).1 with tr := S.tr ++ [⟨k, a, n, aaZ, anZ⟩] }, ⟨k, a, n, aaZ, anZ⟩, 0) else (S, evZ, 1))
 else if k = 0 ∨ k = 1 then
  (if (M.act S k a).2.2 = 0 then ({ (M.act S k a).1 with tr := (M.act S k a).1.tr ++ [⟨k, a, n, (M.act S k a).2.1.1, (M.act S k a).2.1.2⟩] }, ⟨k, a, n, (M.act S k a).2.1.1, (M.act S k a).2.1.2⟩, 0)
   else ((M.act S k a).1, evZ, (M.act S k a).2.2))
 else (S, evZ, 1)
def Mac.goesAt (M : Mac) (S : SW M.σ) (i : Nat) : Bool := match S.acts[i]? with
 | none => false
 | some a => M.goes a
def Mac.row (M : Mac) (most : Int) : List Nat → SW M.σ → Int → Bool → SW M.σ × Int × Bool × Bool
 | [], S, n, g => (S, n, g, false)
 | i :: r, S, n, g =>
  if M.goesAt S i = false then Mac.row M most r S n g
  else if most ≤ n then (S, n, g, true)
  else Mac.row M most r (M.pick S 0 i 0).1 (n + 1) true
def Mac.rob (M : Mac) (most : Int) : Nat → SW M.σ → Int → SW M.σ × Int
 | 0, S, n => (S, n)
 | f + 1, S, n =>
  if (M.row most (List.range S.acts.length) S n false).2.2.1 = true ∧ (M.row most (List.range S.acts.length) S n false).2.2.2 = false then
   Mac.rob M most f (M.row most (List.range S.acts.length) S n false).1 (M.row most (List.range S.acts.length) S n false).2.1
  else ((M.row most (List.range S.acts.length) S n false).1, (M.row most (List.range S.acts.length) S n false).2.1)
def Mac.robin (M : Mac) (most : Int) (S : SW M.σ) : SW M.σ × Int := M.rob most (most.toNat + 2) S 0
theorem AA.ans_ok {c : AA} {bs : List Int} (hb : IsB bs) (he : c.err bs.length = 0) : AN.ok c (c.ans bs) := by
 obtain ⟨hz, h0, h1, h2, h3, h4, h5⟩ := acE_ok he (by omega)
 have rdb : ∀ n, n ≤ 8 → 0 ≤ rdN bs c.a.toNat n ∧ rdN bs c.a.toNat n ≤ 18446744073709551615 := by
  intro n hn
  have h := leN_lt 8 ((bs.drop c.a.toNat).take n) (by simp; omega) ((hb.drop _).take _)
  unfold rdN
  have e : (256 : Int) ^ 8 = 18446744073709551616 := by decide
  rw [e] at h
  omega
 have hv : 0 ≤ (c.ans bs).v ∧ (c.ans bs).v ≤ 18446744073709551615 := by
  simp only [AA.ans, doV]
  split
  ·exact rdb _ (by omega)
  split
  ·exact rdb _ (by omega)
  ·omega
 refine ⟨hv.1, hv.2, ?_, fun h => ?_, fun h => ?_⟩
 ·simp only [AA.ans, doR]
  split
  ·exact (hb.drop _).take _
  ·exact IsB.nil
 ·simp only [AA.ans, doR, h, if_true]
  simp
  omega
 ·simp only [AA.ans, doR, h, if_false]
theorem AA.out_len {c : AA} {bs : List Int} (he : c.err bs.length = 0) : (c.out bs).length = bs.length := by
 obtain ⟨hz, h0, h1, h2, h3, h4, h5⟩ := acE_ok he (by omega)
 refine doB_len (l := c.b) ?_
 rw [Int.toNat_of_nonneg (by omega), Int.toNat_of_nonneg (by omega)]
 exact he
def u64 (x : Int) : Int := x % 18446744073709551616
def s64 (x : Int) : Int := (x + 9223372036854775808) % 18446744073709551616 - 9223372036854775808
theorem s64_eq (x : Int) : s64 x = (x + 9223372036854775808) % 18446744073709551616 - 9223372036854775808 := rfl
theorem wrap_s64 (x : Int) : IntKind.i64.wrap x = s64 x := by rw [IntKind.wrap_i64]; rfl
theorem wrap_u64' (x : Int) : IntKind.u64.wrap x = u64 x := by rw [IntKind.wrap_u64]; rfl
theorem u64_bdP (x : Int) : 0 ≤ u64 x ∧ u64 x ≤ 18446744073709551615 := by unfold u64; omega
def rgOk (b s : Int) : Bool := isP s && decide (64 ≤ s) && decide (s ≤ 8192) && decide (0 ≤ b) && decide (b % 8 = 0) && decide (b ≤ 131040 - s)
theorem rgOk_bd {b s : Int} (h : rgOk b s = true) : isP s = true ∧ 64 ≤ s ∧ s ≤ 8192 ∧ 0 ≤ b ∧ b % 8 = 0 ∧ b ≤ 131040 - s := by
 unfold rgOk at h
 simp at h
 exact ⟨h.1.1.1.1.1, h.1.1.1.1.2, h.1.1.1.2, h.1.1.2, h.1.2, h.2⟩
theorem rg_pow {s : Int} (h1 : isP s = true) (h2 : 64 ≤ s) (h3 : s ≤ 8192) : s = 64 ∨ s = 128 ∨ s = 256 ∨ s = 512 ∨ s = 1024 ∨ s = 2048 ∨ s = 4096 ∨ s = 8192 := by
 obtain ⟨k, hk, rfl⟩ := (isP_iff s).1 h1
 have a1 : 6 ≤ k := by
  by_cases h : 6 ≤ k
  ·exact h
  ·have : k = 0 ∨ k = 1 ∨ k = 2 ∨ k = 3 ∨ k = 4 ∨ k = 5 := by omega
   rcases this with rfl | rfl | rfl | rfl | rfl | rfl <;> revert h2 <;> decide
 have a2 : k ≤ 13 := by
  by_cases h : k ≤ 13
  ·exact h
  ·have : (2 : Int) ^ 14 ≤ 2 ^ k := by exact_mod_cast Nat.pow_le_pow_right (by decide) (by omega : 14 ≤ k)
   have e : (2 : Int) ^ 14 = 16384 := by decide
   omega
 have : k = 6 ∨ k = 7 ∨ k = 8 ∨ k = 9 ∨ k = 10 ∨ k = 11 ∨ k = 12 ∨ k = 13 := by omega
 rcases this with rfl | rfl | rfl | rfl | rfl | rfl | rfl | rfl <;> decide
theorem s64_mod {s : Int} (h : s = 64 ∨ s = 128 ∨ s = 256 ∨ s = 512 ∨ s = 1024 ∨ s = 2048 ∨ s = 4096 ∨ s = 8192) (x : Int) : s64 x % s = x % s := by
 rw [s64_eq]
 rcases h with rfl | rfl | rfl | rfl | rfl | rfl | rfl | rfl <;> omega
structure PutC where
 b : Int
 s : Int
 typ : Int
 d : List Int
def PutC.ok (c : PutC) : Bool := rgOk c.b c.s && decide (1 ≤ c.typ) && decide ((c.d.length : Int) ≤ c.s / 8)
def PutC.nd (c : PutC) : Int := if c.ok then ((c.d.length : Int) + 15) / 8 * 8 else 0
def PutC.n (c : PutC) : Int := 8 + c.d.length
def PutC.e0 (c : PutC) : Int := if rgOk c.b c.s && decide (1 ≤ c.typ) then (if (c.d.length : Int) ≤ c.s / 8 then 10 else 4) else 1
inductive PPc where
 | done
 | hd0
 | tl
 | rm (t : Int)
 | rs (t v : Int)
 | ph (t : Int)
 | ps (t v : Int)
 | cs (t pad : Int)
 | pd (t : Int)
 | wh (a : Int)
 | wb (a p : Int) (l : List Int)
 | fi (a : Int)
structure PutM where
 c : PutC
 pc : PPc
 hd : Int
 pos : Int
 cl : Bool
 e : Int
def PutC.init (c : PutC) : PutM := ⟨c, if c.ok then .hd0 else .done, 0, 0, false, c.e0⟩
def PutM.fit (m : PutM) (t : Int) : Bool := decide (m.c.nd ≤ s64 (u64 (m.c.s - u64 (t - m.hd))))
def PutM.gapped (m : PutM) (t : Int) : PutM :=
 if m.c.nd ≤ m.c.s - t % m.c.s then { m with pc := .cs t 0 } else if m.c.nd ≤ m.hd % m.c.s then { m with pc := .cs t (m.c.s - t % m.c.s) } else { m with pc := .ph t }
def PutM.step (m : PutM) (x : AN) : PutM :=
 match m.pc with
 | .done => m
 | .hd0 => { m with hd := x.v, pc := .tl }
 | .tl => if m.fit x.v then m.gapped x.v else { m with pc := .rm x.v }
 | .rm t => if ({ m with hd := x.v } : PutM).fit t then { m with hd := x.v, pc := .rs t x.v } else { m with hd := x.v, pc := .done, e := 5 }
 | .rs t v => m.gapped t
 | .ph t => if m.c.nd ≤ x.v % m.c.s then { m with hd := x.v, pc := .ps t x.v } else { m with hd := x.v, pc := .done, e := 5 }
 | .ps t v => { m with pc := .cs t (m.c.s - t % m.c.s) }
 | .cs t pad => if x.d then { m with pos := s64 (s64 t + pad), cl := true, pc := if pad = 0 then .wh (m.c.b + t % m.c.s) else .pd t } else { m with pc := .tl }
 | .pd t => { m with pc := .wh m.c.b }
 | .wh a => if m.c.d.length = 0 then { m with pc := .fi a } else { m with pc := .wb a (a + 8) m.c.d }
 | .wb a p l => if l.length ≤ 8 then { m with pc := .fi a } else { m with pc := .wb a (p + 8) (l.drop 8) }
 | .fi a => { m with pc := .done, e := 0 }
def PutM.live (m : PutM) : Bool := match m.pc with
 | .done => false
 | _ => true
def PutM.end (m : PutM) : Int := m.c.b + m.c.s
def PutM.want (m : PutM) : AA :=
 match m.pc with
 | .done => aaZ
 | .hd0 => ⟨1, m.end + 8, 8, 0, 0, []⟩
 | .tl => ⟨1, m.end, 8, 0, 0, []⟩
 | .rm t => ⟨1, m.end + 16, 8, 0, 0, []⟩
 | .rs t v => ⟨2, m.end + 8, 8, v, 0, []⟩
 | .ph t => ⟨1, m.end + 16, 8, 0, 0, []⟩
 | .ps t v => ⟨2, m.end + 8, 8, v, 0, []⟩
 | .cs t pad => ⟨4, m.end, 8, t, u64 (t + (m.c.nd + pad)), []⟩
 | .pd t => ⟨2, m.c.b + t % m.c.s, 8, recS (m.c.s - t % m.c.s) (-1), 0, []⟩
 | .wh a => ⟨2, a, 8, recS (-m.c.n) m.c.typ, 0, []⟩
 | .wb a p l => ⟨6, p, min l.length 8, 0, 0, l.take 8⟩
 | .fi a => ⟨2, a, 4, m.c.n, 0, []⟩
def PutM.fix (m : PutM) : Prop := m.c.ok = true
theorem PutC.ok_bd {c : PutC} (h : c.ok = true) : rgOk c.b c.s = true ∧ 1 ≤ c.typ ∧ (c.d.length : Int) ≤ c.s / 8 := by
 unfold PutC.ok at h
 simp at h
 exact ⟨h.1.1, h.1.2, h.2⟩
theorem PutC.nd_bd {c : PutC} (h : c.ok = true) : c.nd = ((c.d.length : Int) + 15) / 8 * 8 ∧ 8 + (c.d.length : Int) ≤ c.nd ∧ c.nd < 16 + (c.d.length : Int) := by
 unfold PutC.nd
 rw [if_pos h]
 omega
structure GetC where
 b : Int
 s : Int
 most : Int
def GetC.ok (c : GetC) : Bool := rgOk c.b c.s && decide (1 ≤ c.most)
inductive GPc where
 | done
 | hd0
 | rc
 | rd (sz typ p n : Int) (hv : List Int)
 | zr (p k : Int)
 | st
structure GetM where
 c : GetC
 pc : GPc
 hd : Int
 first : Int
 dn : Int
 out : List (Int × List Int)
 odd : Bool
 e : Int
def GetC.init (c : GetC) : GetM := ⟨c, if c.ok then .hd0 else .done, 0, 0, 0, [], false, if c.ok then 10 else 1⟩
def GetM.left (m : GetM) : Int := m.c.s - m.first - m.dn
def GetM.stop (m : GetM) : GetM := { m with pc := .done, e := if m.odd then 13 else 0 }
def GetM.zero (m : GetM) : GetM := if m.dn = 0 then m.stop else { m with pc := .zr (m.c.b + m.first) m.dn }
def GetM.record (m : GetM) : GetM := if m.c.most ≤ (m.out.length : Int) ∨ m.left ≤ 0 then m.zero else { m with pc := .rc }
def rsz (l : Int) : Int := (max l 0 + 7) / 8 * 8
def GetM.got (m : GetM) (sz typ : Int) (b : List Int) : GetM := ({ m with out := m.out ++ [(typ, b)], dn := m.dn + sz } : GetM).record
def GetM.at (m : GetM) : Int := m.c.b + m.first + m.dn
def GetM.step (m : GetM) (x : AN) : GetM :=
 match m.pc with
 | .done => m
 | .hd0 => ({ m with hd := x.v, first := x.v % m.c.s } : GetM).record
 | .rc =>
  if loS x.v < 1 then m.zero
  else if loS x.v < 8 ∨ m.left < rsz (loS x.v) then ({ m with odd := true } : GetM).zero
  else if hiS x.v = -1 then ({ m with dn := m.dn + rsz (loS x.v) } : GetM).record
  else if loS x.v - 8 < 1 then m.got (rsz (loS x.v)) (hiS x.v) []
  else { m with pc := .rd (rsz (loS x.v)) (hiS x.v) (m.at + 8) (loS x.v - 8) [] }
 | .rd sz typ p n hv => if n ≤ 8 then m.got sz typ (hv ++ x.b) else { m with pc := .rd sz typ (p + 8) (n - 8) (hv ++ x.b) }
 | .zr p k => if k ≤ 8 then { m with pc := .st } else { m with pc := .zr (p + 8) (k - 8) }
 | .st => m.stop
def GetM.live (m : GetM) : Bool := match m.pc with
 | .done => false
 | _ => true
def GetM.want (m : GetM) : AA :=
 match m.pc with
 | .done => aaZ
 | .hd0 => ⟨1, m.c.b + m.c.s + 16, 8, 0, 0, []⟩
 | .rc => ⟨1, m.at, 8, 0, 0, []⟩
 | .rd sz typ p n hv => ⟨5, p, min n 8, 0, 0, []⟩
 | .zr p k => ⟨6, p, min k 8, 0, 0, List.replicate (min k 8).toNat 0⟩
 | .st => ⟨2, m.c.b + m.c.s + 16, 8, u64 (m.hd + m.dn), 0, []⟩
structure FixC where
 b : Int
 s : Int
inductive FPc where
 | done
 | h0
 | t0 (h : Int)
 | lk
 | ah (a : Int)
 | bk (a f : Int)
 | pd (n : Int)
structure FixM where
 c : FixC
 pc : FPc
 first : Int
 last : Int
 n : Int
 e : Int
def FixC.init (c : FixC) : FixM := ⟨c, if rgOk c.b c.s then .h0 else .done, 0, 0, 0, if rgOk c.b c.s then 10 else 1⟩
def FixM.stop (m : FixM) : FixM := { m with pc := .done, e := 0 }
def FixM.begin (m : FixM) (h t : Int) : FixM :=
 if h = t then m.stop
 else { m with first := h % m.c.s, last := if t % m.c.s ≤ h % m.c.s then m.c.s else t % m.c.s, pc := .lk }
def FixM.ahead (m : FixM) (a : Int) : FixM := if m.last ≤ a then m.stop else { m with pc := .ah a }
def FixM.back (m : FixM) (a f : Int) : FixM := if a < m.first then { m with pc := .pd (f - m.first) } else { m with pc := .bk a f }
def FixM.step (m : FixM) (x : AN) : FixM :=
 match m.pc with
 | .done => m
 | .h0 => { m with pc := .t0 x.v }
 | .t0 h => m.begin h x.v
 | .lk => if 0 < loS x.v ∨ loS x.v < -(m.c.s - m.first) then m.stop else if loS x.v < 0 then { m with pc := .pd (-loS x.v) } else m.ahead (m.first + 8)
 | .ah a => if x.v = 0 then m.ahead (a + 8) else m.back (a - 8) a
 | .bk a f => if x.v ≠ 0 then m.stop else m.back (a - 8) f
 | .pd n => ({ m with n := n } : FixM).stop
def FixM.live (m : FixM) : Bool := match m.pc with
 | .done => false
 | _ => true
def FixM.want (m : FixM) : AA :=
 match m.pc with
 | .done => aaZ
 | .h0 => ⟨1, m.c.b + m.c.s + 16, 8, 0, 0, []⟩
 | .t0 h => ⟨1, m.c.b + m.c.s, 8, 0, 0, []⟩
 | .lk => ⟨1, m.c.b + m.first, 8, 0, 0, []⟩
 | .ah a => ⟨1, m.c.b + a, 4, 0, 0, []⟩
 | .bk a f => ⟨1, m.c.b + a, 4, 0, 0, []⟩
 | .pd n => ⟨2, m.c.b + m.first, 8, recS n (-1), 0, []⟩
end Go.Proofs.YtggjhleomocojaaGreat
end
namespace Go.Proofs.YtggjhleomocojaaGreat
set_option maxRecDepth 100000
open Go.RowKit
set_option linter.unusedVariables false
def mkS (n to : Int) : Int := if isP to = true then n % to else 0
theorem mask_any (n to : Int) (w : World) (ht : to ≤ 9223372036854775807) :
  Calls Tryz.prog 56 #[.int .i64 n, .int .i64 to] w fun e w' => e = .returned (.int .i64 (mkS n to)) ∧ w = w' := by
 by_cases hp : isP to = true
 ·obtain ⟨k, hk, hn⟩ := (isP_iff to).1 hp
  have hb := pow62 k hk
  have HB := Lib.hid (bits_mask n k hk)
  have HM := Lib.hid (show mkS n to = n % to by unfold mkS; rw [if_pos hp])
  rw [← hn] at hb HB
  clear hn
  go_enter Tryz.func56, Tryz.ntmps56
  go_wp2_with (go_at_call 71; refine (isPower_any _ _ ht).mono ?_; rintro e w' ⟨rfl, rfl⟩)
  go_ret
  exact ⟨ret_int (by rw [HM.out, ← HB.out]), rfl⟩
 ·have hp' : isP to = false := by simpa using hp
  have HM := Lib.hid (show mkS n to = 0 by unfold mkS; rw [if_neg hp])
  clear hp
  go_enter Tryz.func56, Tryz.ntmps56
  go_wp2_with (go_at_call 71; refine (isPower_any _ _ ht).mono ?_; rintro e w' ⟨rfl, rfl⟩)
  go_ret
  exact ⟨ret_int (by rw [HM.out]), rfl⟩
end Go.Proofs.YtggjhleomocojaaGreat
namespace Go.Proofs.YtggjhleomocojaaGreat
set_option maxRecDepth 100000
open Go.RowKit
set_option linter.unusedVariables false
set_option linter.unusedSimpArgs false
theorem enIn (args : Array Value) (w : World) : (callFunc 138 args).run Tryz.prog w = .ok (.enter 138 args) w :=
 enters_of Tryz.func138 (by kernel_rfl) rfl args w
def InSt (w : World) (O : Nat → Prop) (q : Nat) (at0 : Int) (l : List Int) (f0 : Value) (r : List Value) : Prop :=
 ∃ (b off cap n : Nat) (t : Value), Mch w q ⟨6, at0, n, 0, 0, .slice (some ⟨b, off, none⟩) n n⟩ t r ∧ n = min l.length 8 ∧ l.length ≠ 0 ∧ l.length ≤ cap ∧ cap ≤ maxLen ∧ InK w O t q at0 n (.slice (some ⟨b, off, none⟩) l.length cap) f0 ∧ O b ∧
  ∀ i, i < l.length → w.cell? ⟨b, off + i, none⟩ = some (.int .u8 (gB l i))
theorem InSt.keep {w w' : World} {O M : Nat → Prop} {q : Nat} {a : Int} {l : List Int} {f0 : Value} {r : List Value} (h : InSt w O q a l f0 r) (k : Keep M w w') (hd : ∀ i, O i → ¬ M i) (hq : ¬ M q) : InSt w' O q a l f0 r := by
 obtain ⟨b, off, cap, n, t, h1, h2, h3, h4, h5, h6, h7, h8⟩ := h
 exact ⟨b, off, cap, n, t, Blk.keep h1 k hq, h2, h3, h4, h5, h6.keep k hd, h7, fun i hi => by rw [k.cell _ (World.block_lt_of_cell? w _ (h8 i hi)) (hd _ h7)]; exact h8 i hi⟩
theorem InSt.mono {w : World} {O O' : Nat → Prop} {q : Nat} {a : Int} {l : List Int} {f0 : Value} {r : List Value} (h : InSt w O q a l f0 r) (hd : ∀ i, O i → O' i) : InSt w O' q a l f0 r := by
 obtain ⟨b, off, cap, n, t, h1, h2, h3, h4, h5, h6, h7, h8⟩ := h
 exact ⟨b, off, cap, n, t, h1, h2, h3, h4, h5, h6.mono hd, hd _ h7, h8⟩
theorem cIn_st (q : Nat) (c : Acc) (t : Value) (r : List Value) (at0 : Int) (b off cap : Nat) (l : List Int) (g : Nat) (gc : Array Value) (w : World) (O : Nat → Prop) (h : Mch w q c t r) (hl0 : l.length ≠ 0) (hl : l.length ≤ 131072) (hc : l.length ≤ cap) (hcm : cap ≤ maxLen) (hO : O b) (hbq : b ≠ q)
  (hcell : ∀ i, i < l.length → w.cell? ⟨b, off + i, none⟩ = some (.int .u8 (gB l i))) :
  Calls Tryz.prog 109 #[.pointer (some ⟨q, 0, none⟩), .int .i64 at0, .slice (some ⟨b, off, none⟩) l.length cap, .func (.func g) #[] gc] w fun e w' =>
   e = .returned (.tuple #[]) ∧ InSt w' (fun k => O k ∨ (w.heap.size ≤ k ∧ k < w'.heap.size)) q at0 l (.func (.func g) #[] gc) r ∧ Keep (· = q) w w' := by
 refine (cIn_more q c t r at0 b off cap l g gc w h hl0 hl hc).mono ?_
 rintro e w' ⟨rfl, n, t', hn, m, hk, k⟩
 refine ⟨rfl, ⟨b, off, cap, n, t', m, hn, hl0, hc, hcm, hk.mono fun i hi => .inr hi, .inl hO, fun i hi => ?_⟩, k⟩
 rw [k.cell _ (World.block_lt_of_cell? w _ (hcell i hi)) hbq]
 exact hcell i hi
theorem inTake_more (O : Nat → Prop) (q : Nat) (at0 : Int) (l : List Int) (g : Nat) (gc : Array Value) (r : List Value) (v : Int) (d : Bool) (s0 : Option Addr) (sl sc : Nat) (w : World) (h : InSt w O q at0 l (.func (.func g) #[] gc) r) (hO : ¬ O q) (h8 : 8 < l.length) (hl : l.length ≤ 131072)
  (ha : -2305843009213693952 ≤ at0) (ha' : at0 ≤ 2305843009213693952) :
  Calls Tryz.prog 192 #[.pointer (some ⟨q, 0, none⟩), .agg #[.int .u64 v, .bool d, .slice s0 sl sc]] w fun e w' =>
   e = .returned (.tuple #[]) ∧ InSt w' (fun k => O k ∨ (w.heap.size ≤ k ∧ k < w'.heap.size)) q (at0 + 8) (l.drop 8) (.func (.func g) #[] gc) r ∧ Keep (· = q) w w' := by
 obtain ⟨b, off, cap, n, t, m, hn, hl0, hc, hcm, ⟨cb, ab, nb, bb, tb, rfl, k0, k1, k2, k3, k4, o0, o1, o2, o3, o4⟩, ob, hcell⟩ := h
 obtain rfl : n = 8 := by omega
 have nq : ∀ i, O i → ¬ i = q := fun i hi e => hO (e ▸ hi)
 refine cTake_any q _ _ _ r v d s0 sl sc w m (fun w1 => enIn _ w1) (fun w' => InSt w' (fun k => O k ∨ (w.heap.size ≤ k ∧ k < w'.heap.size)) q (at0 + 8) (l.drop 8) (.func (.func g) #[] gc) r ∧ Keep (· = q) w w') ?_
 intro w1 m1 kp1
 have z1 := kp1.size
 refine (cInK_more q at0 8 b off cap l.length g gc v d s0 sl sc cb ab nb bb tb w1 (k0.keep kp1 (nq _ o0)) (k1.keep kp1 (nq _ o1)) (k2.keep kp1 (nq _ o2)) (k3.keep kp1 (nq _ o3)) (k4.keep kp1 (nq _ o4)) ha ha' (by omega) h8 hc hl
  (fun w' => InSt w' (fun k => O k ∨ (w.heap.size ≤ k ∧ k < w'.heap.size)) q (at0 + 8) (l.drop 8) (.func (.func g) #[] gc) r) (· = q) ⟨nq _ o0, nq _ o1, nq _ o2, nq _ o3, nq _ o4⟩ ?_).mono ?_
 ·intro w2 b2
  have hl8 : (l.drop 8).length = l.length - 8 := by simp
  have z2 := b2.size
  have hcell2 : ∀ i, i < (l.drop 8).length → w2.cell? ⟨b, off + 8 + i, none⟩ = some (.int .u8 (gB (l.drop 8) i)) := by
   intro i hi
   have hx := hcell (8 + i) (by omega)
   have hlt := World.block_lt_of_cell? w _ hx
   rw [b2.cell (p := ⟨b, off + 8 + i, none⟩) (by show b < w1.heap.size; have : b < w.heap.size := hlt; omega), Nat.add_assoc, kp1.cell _ hlt (nq _ ob), hx]
   simp [gB, List.getD]
  have := cIn_st q accZ .nilFunc r (at0 + 8) b (off + 8) (cap - 8) (l.drop 8) g gc w2 O (Blk.below m1 b2 m1.lt) (by omega) (by omega) (by omega) (by omega) ob (nq _ ob) hcell2
  rw [hl8] at this
  refine this.mono ?_
  rintro e w' ⟨rfl, hs, hk⟩
  exact ⟨rfl, hs.mono (fun i hi => by rcases hi with hi | hi; exact .inl hi; exact .inr ⟨by omega, hi.2⟩), hk⟩
 ·rintro e w' ⟨rfl, hs, hk⟩
  exact ⟨rfl, hs, kp1.trans hk⟩
theorem inTake_last (O : Nat → Prop) (q : Nat) (at0 : Int) (l : List Int) (g : Nat) (gc : Array Value) (r : List Value) (v : Int) (d : Bool) (s0 : Option Addr) (sl sc : Nat) (w : World) (h : InSt w O q at0 l (.func (.func g) #[] gc) r) (hO : ¬ O q) (h8 : l.length ≤ 8)
  (ha : -2305843009213693952 ≤ at0) (ha' : at0 ≤ 2305843009213693952) (hen : ∀ w1, (callFunc g gc).run Tryz.prog w1 = .ok (.enter g gc) w1) (Q : World → Prop) (M : Nat → Prop) (hMq : M q) (hM : ∀ i, O i → ¬ M i)
  (hF : ∀ w1, Mch w1 q accZ .nilFunc r → Keep (· = q) w w1 → Calls Tryz.prog g gc w1 fun e w' => e = .returned (.tuple #[]) ∧ Q w' ∧ Keep M w1 w') :
  Calls Tryz.prog 192 #[.pointer (some ⟨q, 0, none⟩), .agg #[.int .u64 v, .bool d, .slice s0 sl sc]] w fun e w' =>
   e = .returned (.tuple #[]) ∧ Q w' ∧ Keep M w w' := by
 obtain ⟨b, off, cap, n, t, m, hn, hl0, hc, hcm, ⟨cb, ab, nb, bb, tb, rfl, k0, k1, k2, k3, k4, o0, o1, o2, o3, o4⟩, ob, hcell⟩ := h
 obtain rfl : n = l.length := by omega
 have nq : ∀ i, O i → ¬ i = q := fun i hi e => hO (e ▸ hi)
 refine cTake_any q _ _ _ r v d s0 sl sc w m (fun w1 => enIn _ w1) (fun w' => Q w' ∧ Keep M w w') ?_
 intro w1 m1 kp1
 have z1 := kp1.size
 refine (cInK_last q at0 l.length b off cap l.length g gc v d s0 sl sc cb ab nb bb tb w1 (k0.keep kp1 (nq _ o0)) (k1.keep kp1 (nq _ o1)) (k2.keep kp1 (nq _ o2)) (k3.keep kp1 (nq _ o3)) (k4.keep kp1 (nq _ o4)) ha ha' h8 rfl hc (by omega)
  Q M ⟨hM _ o0, hM _ o1, hM _ o2, hM _ o3, hM _ o4⟩ ?_).mono ?_
 ·intro w2 a1 c1' b2
  refine (cIn_end q (at0 + l.length) a1 c1' g gc w2 hen (fun w' => Q w' ∧ Keep M w2 w') ?_).mono ?_
  ·intro w3 b3
   exact hF w3 (Blk.below (Blk.below m1 b2 m1.lt) b3 (by have := Blk.lt (Blk.below m1 b2 m1.lt); exact this)) ((kp1.trans (Below.keeps b2)).trans (Below.keeps b3)) |>.mono fun e w' ⟨h1, h2, h3⟩ => ⟨h1, h2, (Below.keeps b3).trans h3⟩
  ·rintro e w' ⟨rfl, hQ, hk⟩
   exact ⟨rfl, hQ, hk⟩
 ·rintro e w' ⟨rfl, hQ, hk⟩
  exact ⟨rfl, hQ, (kp1.mono (fun _ _ e => e ▸ hMq)).trans hk⟩
end Go.Proofs.YtggjhleomocojaaGreat
namespace Go.Proofs.YtggjhleomocojaaGreat
set_option maxRecDepth 100000
open Go.RowKit
set_option linter.unusedVariables false
set_option linter.unusedSimpArgs false
theorem qSl (w : World) (a : Option Addr) (n c n' c' : Nat) : (binOp .eql 32 (.slice a n c) (.slice none n' c')).run Tryz.prog w = .ok (.bool a.isNone) w := Lib.run_eql_slice_nil w _ _ a n c n' c' Tryz.underlying32
theorem own_empty (w : World) (g : Nat) (T B : Nat) (cs : Array Value) (h : w.heap[g]? = some (.cells #[] T (0, 0))) (hB : B ≤ g) : OwB T B w (.slice (some ⟨g, 0, none⟩) 0 0) [] := by
 refine ⟨by simp, .inr ⟨g, 0, #[], rfl, hB, h, Nat.le_refl _, by unfold maxLen; omega, by simp, by simp⟩⟩
set_option maxHeartbeats 1000000 in
theorem clone_any (v : Value) (l : List Int) (w : World) (h : RdB w v l) (hl : l.length ≤ 70368744177664) :
  Calls Tryz.prog 34 #[v] w fun e w' => ∃ s, e = .returned s ∧ OwB 5 w.heap.size w' s l ∧ Below w.heap.size w w' := by
 have q := qSl
 have H := Lib.hid h
 have HL := Lib.hid hl
 rcases h with ⟨rfl, rfl⟩ | ⟨a, cap, rfl, rfl, hm⟩ | ⟨b, off, cap, rfl, hc, hm, hcell⟩
 ·go_enter Tryz.func34, Tryz.ntmps34
  go_wp2
  go_ret
  exact ⟨_, rfl, OwB.nil _ _ _, Below.refl _ _⟩
 ·go_enter Tryz.func34, Tryz.ntmps34
  go_wp2_with (refine list_app rfl (.tmp 5) (.tmp 6) rfl w.heap.size _ _ [] [] rfl (own_empty (w.alloc (.cells #[] 5)) w.heap.size _ _ #[] (MapKept.heap_alloc w _).1 (Nat.le_refl _)) rfl (RdB.below H.out ((Below.refl _ _).alloc (Nat.le_refl _) _)) (by simp) (by simp) ?_)
  intro v' w' p
  go_wp2
  go_ret
  exact ⟨_, rfl, p.1, p.below ((Below.refl _ _).alloc (Nat.le_refl _) _) (by simp) (by intro k hk; cases hk; exact Nat.le_refl _)⟩
 ·clear hcell
  go_enter Tryz.func34, Tryz.ntmps34
  go_wp2_with (refine list_app rfl (.tmp 5) (.tmp 6) rfl w.heap.size _ _ [] l rfl (own_empty (w.alloc (.cells #[] 5)) w.heap.size _ _ #[] (MapKept.heap_alloc w _).1 (Nat.le_refl _)) rfl (RdB.below H.out ((Below.refl _ _).alloc (Nat.le_refl _) _)) (by simp; omega) (by simp) ?_)
  intro v' w' p
  go_wp2
  go_ret
  exact ⟨_, rfl, p.1, p.below ((Below.refl _ _).alloc (Nat.le_refl _) _) (by simp) (by intro k hk; cases hk; exact Nat.le_refl _)⟩
end Go.Proofs.YtggjhleomocojaaGreat
namespace Go.Proofs.YtggjhleomocojaaGreat
set_option maxRecDepth 100000
open Go.RowKit
set_option linter.unusedVariables false
set_option linter.unusedSimpArgs false
variable {w : World} {v : Value} {l : List Int}
theorem OwB.isSliceC {B : Nat} (h : OwB 5 B w v l) : ∃ a n c, v = .slice a n c := by
 rcases h.2 with ⟨rfl, _⟩ | ⟨g, cap, cur, rfl, _⟩
 ·exact ⟨_, _, _, rfl⟩
 ·exact ⟨_, _, _, rfl⟩
theorem OwB.farC {B : Nat} (h : OwB 5 B w v l) {a : Addr} (ha : a.block < B) (x : Value) : OwB 5 B (w.setCell a x) v l := ownsRow_setCell_below h ha x
theorem keep_grown {w w' : World} {row : Option Nat} (hg : w.grownBy w' row) : Keep (fun i => row = some i) w w' :=
 ⟨hg.os, hg.tape, hg.output, hg.size, fun k hk hn => hg.block k hk (fun e => hn e.symm)⟩
theorem OwB.farNe {E B : Nat} (h : OwB E B w v l) {a : Addr} (ha : v.ownBlock ≠ some a.block) (x : Value) : OwB E B (w.setCell a x) v l := by
 obtain ⟨h1, h2⟩ := h
 refine ⟨h1, h2.imp id ?_⟩
 rintro ⟨g, cap, cur, e1, e2, e3, e4⟩
 refine ⟨g, cap, cur, e1, e2, ?_, e4⟩
 rw [Below.heap_setCell _ _ _ _ ?_]
 ·exact e3
 ·rintro rfl
  exact ha (by rw [e1]; rfl)
theorem own_blkK {B E g n : Nat} {xs : List Value} (h : w.ownsRow B E 1 (.slice (some ⟨g, 0, none⟩) n n) n xs) : Blk w g xs ∧ B ≤ g := by
 rcases h.2 with ⟨h, _⟩ | ⟨g', cap, cur, e, hb, hg, hn, hc, hs, ht⟩
 ·cases h
 ·cases e
  refine ⟨⟨E, ?_⟩, hb⟩
  rw [hg, ← ht, List.take_of_length_le (by simp; omega)]
theorem rep_cells (n : Nat) : ((List.replicate n (0 : Int)).map (Value.int .u8)) = (madeCells #[Value.int .u8 0] n).toList := by
 simp only [madeCells, List.map_replicate]
 apply List.ext_getElem
 ·simp
 ·intro i h1 h2
  simp [Nat.mod_one]
set_option maxHeartbeats 2000000 in
theorem cZero_st (q : Nat) (c : Acc) (t : Value) (r : List Value) (at0 : Int) (n : Nat) (g : Nat) (gc : Array Value) (w : World) (h : Mch w q c t r) (hn : 1 ≤ n) (hn' : n ≤ 131072) :
  Calls Tryz.prog 127 #[.pointer (some ⟨q, 0, none⟩), .int .i64 at0, .int .i64 n, .func (.func g) #[] gc] w fun e w' =>
   e = .returned (.tuple #[]) ∧ InSt w' (fun k => w.heap.size ≤ k ∧ k < w'.heap.size) q at0 (List.replicate n 0) (.func (.func g) #[] gc) r ∧ Keep (· = q) w w' := by
 obtain ⟨i0, hi, hz0, hz1, hz2⟩ := info_parts u8info
 have hlt := h.lt
 have H := Lib.hid h
 have hmx : max (n : Int) 0 = n := by omega
 have h0 : (0 : Int) ≤ n := by omega
 clear h
 go_enter Tryz.func127, Tryz.ntmps127
 go_wp2_with (refine wpList_make_full _ rfl _ _ 32 rfl w.heap.size 5 i0 (.int .u8 0) 1 Tryz.underlying32 hi hz0 hz1 _ _ _ _ n rfl rfl rfl rfl (by rw [hz2]; omega) (by unfold maxLen; omega) (Nat.le_refl _) ?_)
 intro w1 own1 hg1
 obtain ⟨hblk, _⟩ := own_blkK own1
 have b1 : Below w.heap.size w w1 := (Below.refl _ _).grown hg1 (Nat.le_refl _) (fun k hk => by cases hk)
 rw [← rep_cells n] at hblk
 have HB := Lib.hid hblk
 have bl := hblk.lt
 have z1 := b1.size
 clear own1 hg1 hblk
 have hcall := cIn_st q c t r at0 w.heap.size 0 n (List.replicate n 0) g gc w1 (· = w.heap.size) (Blk.below H.out b1 hlt) (by simp; omega) (by simp; omega) (by simp) (by unfold maxLen; omega) rfl (by omega) (fun i hi => by
  have e := Blk.cell HB.out (0 + i)
  simp at hi
  rw [e]
  simp [gB, hi])
 rw [List.length_replicate] at hcall
 have HC := Lib.hid hcall
 clear hcall
 go_wp2_with fail
 refine HC.out.mono ?_
 rintro e w2 ⟨rfl, h2, k2⟩
 have z2 := k2.size
 go_wp2
 go_end0
 refine ⟨rfl, h2.mono (fun i hi => ?_), (Below.keeps b1).trans k2⟩
 rcases hi with rfl | hi
 ·omega
 ·omega
end Go.Proofs.YtggjhleomocojaaGreat
