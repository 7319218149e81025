/- What puts, gets, sends and hears look at: their own ring's bytes alone. No program in sight. Conditions: none. -/
import Derived.Test.YtggjhleomocojaaGreatUl
import Derived.Test.YtggjhleomocojaaGreatPi
import Derived.Test.YtggjhleomocojaaGreatDs
import Derived.Test.YtggjhleomocojaaGreatDd
import Derived.Test.YtggjhleomocojaaGreatNb
import Derived.Test.YtggjhleomocojaaGreatNo
namespace Go.Proofs.YtggjhleomocojaaGreat
open Go.RowKit
set_option linter.unusedVariables false
set_option linter.unusedSimpArgs false
def PutM.lcp (B S : Nat) (m : PutM) : Prop := match m.pc with
 | .cs t pad => pad = 0 → m.c.nd ≤ (S : Int) - t % (S : Int)
 | .wh a => (B : Int) ≤ a ∧ a + m.c.nd ≤ B + S
 | .wb a p l => ((B : Int) ≤ a ∧ a + 8 ≤ B + S) ∧ (B : Int) ≤ p ∧ p + l.length ≤ B + S
 | .fi a => (B : Int) ≤ a ∧ a + 8 ≤ B + S
 | _ => True
def PutM.lc (B S : Nat) (m : PutM) : Prop := m.fine ∧ m.c.b = B ∧ m.c.s = S ∧ m.lcp B S
variable {B S : Nat}
theorem PutM.lcp.gapped {m : PutM} (hs : m.c.s = S) (h0 : 0 < S) (t : Int) : (m.gapped t).lcp B S := by
 have m1 := Int.emod_lt_of_pos t (show (0 : Int) < S by omega)
 unfold PutM.gapped
 rw [hs]
 split
 ·rename_i h
  exact fun _ => h
 ·split
  ·exact fun e => by omega
  ·exact trivial
theorem PutM.local (B S : Nat) : Local putMac (PutM.lc B S) B (B + S + 24) := by
 refine ⟨fun m h => h.1.wf, fun m N h he => ?_, fun m x h hx => ?_⟩
 ·obtain ⟨hf, hb, hs, hp⟩ := h
  by_cases hl : m.live = true
  ·have hok := hf.ok hl
   obtain ⟨b1, b2, b3, b4, b5, b6, b7⟩ := PutC.bd hok
   have hp2 := hf.pc
   obtain ⟨c, pc, hd, pos, cl, e⟩ := m
   dsimp only at hb hs b1 b2 b3 b4 b5 b6 b7
   cases pc with
   | done => cases hl
   | hd0 => exact ⟨by show (1 : Int) ≠ 3; decide, by show (B : Int) ≤ c.b + c.s + 8; omega, by show c.b + c.s + 8 + 8 ≤ ((B + S + 24 : Nat) : Int); omega⟩
   | tl => exact ⟨by show (1 : Int) ≠ 3; decide, by show (B : Int) ≤ c.b + c.s; omega, by show c.b + c.s + 8 ≤ ((B + S + 24 : Nat) : Int); omega⟩
   | rm t => exact ⟨by show (1 : Int) ≠ 3; decide, by show (B : Int) ≤ c.b + c.s + 16; omega, by show c.b + c.s + 16 + 8 ≤ ((B + S + 24 : Nat) : Int); omega⟩
   | rs t v => exact ⟨by show (2 : Int) ≠ 3; decide, by show (B : Int) ≤ c.b + c.s + 8; omega, by show c.b + c.s + 8 + 8 ≤ ((B + S + 24 : Nat) : Int); omega⟩
   | ph t => exact ⟨by show (1 : Int) ≠ 3; decide, by show (B : Int) ≤ c.b + c.s + 16; omega, by show c.b + c.s + 16 + 8 ≤ ((B + S + 24 : Nat) : Int); omega⟩
   | ps t v => exact ⟨by show (2 : Int) ≠ 3; decide, by show (B : Int) ≤ c.b + c.s + 8; omega, by show c.b + c.s + 8 + 8 ≤ ((B + S + 24 : Nat) : Int); omega⟩
   | cs t pad => exact ⟨by show (4 : Int) ≠ 3; decide, by show (B : Int) ≤ c.b + c.s; omega, by show c.b + c.s + 8 ≤ ((B + S + 24 : Nat) : Int); omega⟩
   | pd t =>
    have m0 := Int.emod_nonneg t (show c.s ≠ 0 by omega)
    have m1 := Int.emod_lt_of_pos t (show 0 < c.s by omega)
    exact ⟨by show (2 : Int) ≠ 3; decide, by show (B : Int) ≤ c.b + t % c.s; omega, by show c.b + t % c.s + 8 ≤ ((B + S + 24 : Nat) : Int); omega⟩
   | wh a =>
    obtain ⟨p1, p2⟩ := hp
    dsimp only at p2
    exact ⟨by show (2 : Int) ≠ 3; decide, p1, by show a + 8 ≤ ((B + S + 24 : Nat) : Int); omega⟩
   | wb a p l =>
    obtain ⟨_, p1, p2⟩ := hp
    exact ⟨by show (6 : Int) ≠ 3; decide, p1, by show p + min (l.length : Int) 8 ≤ ((B + S + 24 : Nat) : Int); omega⟩
   | fi a =>
    obtain ⟨p1, p2⟩ := hp
    exact ⟨by show (2 : Int) ≠ 3; decide, p1, by show a + 4 ≤ ((B + S + 24 : Nat) : Int); omega⟩
  ·obtain ⟨c, pc, hd, pos, cl, e⟩ := m
   cases pc <;> first | exact absurd he (aaZ_err N) | exact absurd rfl hl
 ·obtain ⟨hf, hb, hs, hp⟩ := h
  by_cases hl : m.live = true
  ·have hf' := hf.step hl ⟨hx.v0, hx.v1⟩
   have hok := hf.ok hl
   obtain ⟨b1, b2, b3, b4, b5, b6, b7⟩ := PutC.bd hok
   obtain ⟨q1, q2, q3⟩ := PutC.nd_bd hok
   obtain ⟨_, _, q4⟩ := PutC.ok_bd hok
   have hcs : (m.step x).c = m.c := by
    obtain ⟨c, pc, hd, pos, cl, e⟩ := m
    cases pc <;> simp only [PutM.step] <;> (try unfold PutM.gapped) <;> (repeat' split) <;> rfl
   refine ⟨hf', by show (m.step x).c.b = _; rw [hcs]; exact hb, by show (m.step x).c.s = _; rw [hcs]; exact hs, ?_⟩
   obtain ⟨c, pc, hd, pos, cl, e⟩ := m
   dsimp only at hb hs b1 b2 b3 b4 b5 b6 b7 q1 q2 q3 q4
   cases pc with
   | done => cases hl
   | hd0 => exact trivial
   | tl =>
    show PutM.lcp B S (if _ then _ else _)
    split
    ·exact PutM.lcp.gapped hs (by omega) _
    ·exact trivial
   | rm t =>
    show PutM.lcp B S (if _ then _ else _)
    split <;> exact trivial
   | rs t v => exact PutM.lcp.gapped (m := ⟨c, .rs t v, hd, pos, cl, e⟩) hs (by omega) _
   | ph t =>
    show PutM.lcp B S (if _ then _ else _)
    split <;> exact trivial
   | ps t v =>
    have m1 := Int.emod_lt_of_pos t (show 0 < c.s by omega)
    exact fun (e : c.s - t % c.s = 0) => by omega
   | cs t pad =>
    have m0 := Int.emod_nonneg t (show c.s ≠ 0 by omega)
    show PutM.lcp B S (if _ then _ else _)
    split
    ·by_cases h0 : pad = 0
     ·have := hp h0
      dsimp only at this
      rw [← hs] at this
      simp only [h0, if_true]
      exact ⟨by show (B : Int) ≤ c.b + t % c.s; omega, by show c.b + t % c.s + c.nd ≤ B + S; omega⟩
     ·simp only [h0, if_false]
      exact trivial
    ·exact trivial
   | pd t => exact ⟨by show (B : Int) ≤ c.b; omega, by show c.b + c.nd ≤ B + S; omega⟩
   | wh a =>
    obtain ⟨p1, p2⟩ := hp
    dsimp only at p2
    show PutM.lcp B S (if _ then _ else _)
    split
    ·exact ⟨p1, by omega⟩
    ·exact ⟨⟨p1, by omega⟩, by omega, by show a + 8 + (c.d.length : Int) ≤ _; omega⟩
   | wb a p l =>
    obtain ⟨p0, p1, p2⟩ := hp
    show PutM.lcp B S (if _ then _ else _)
    split
    ·exact p0
    ·exact ⟨p0, by omega, by rw [List.length_drop]; omega⟩
   | fi a => exact trivial
  ·have : m.step x = m := by
    obtain ⟨c, pc, hd, pos, cl, e⟩ := m
    cases pc <;> first | rfl | exact absurd rfl hl
   show PutM.lc B S (m.step x)
   rw [this]
   exact ⟨hf, hb, hs, hp⟩
def GetM.lcp (B S : Nat) (m : GetM) : Prop := match m.pc with
 | .rd _ _ p n _ => (B : Int) ≤ p ∧ p + n ≤ B + S
 | .zr p k => (B : Int) ≤ p ∧ p + k ≤ B + S
 | _ => True
def GetM.lc (B S : Nat) (m : GetM) : Prop := m.fine ∧ m.c.b = B ∧ m.c.s = S ∧ m.lcp B S
theorem GetM.lcp.zero {m : GetM} (hb : m.c.b = B) (hs : m.c.s = S) (h0 : 0 ≤ m.first) (h1 : m.first + m.dn ≤ m.c.s) : m.zero.lcp B S := by
 unfold GetM.zero
 split
 ·exact trivial
 ·exact ⟨by show (B : Int) ≤ m.c.b + m.first; omega, by show m.c.b + m.first + m.dn ≤ B + S; omega⟩
theorem GetM.lcp.record {m : GetM} (hb : m.c.b = B) (hs : m.c.s = S) (h0 : 0 ≤ m.first) (h1 : m.first + m.dn ≤ m.c.s) : m.record.lcp B S := by
 unfold GetM.record
 split
 ·exact GetM.lcp.zero hb hs h0 h1
 ·exact trivial
theorem GetM.zero_c (m : GetM) : m.zero.c = m.c := by
 unfold GetM.zero
 split <;> rfl
theorem GetM.record_c (m : GetM) : m.record.c = m.c := by
 unfold GetM.record
 split
 ·exact GetM.zero_c m
 ·rfl
theorem GetM.step_c (m : GetM) (x : AN) : (m.step x).c = m.c := by
 obtain ⟨c, pc, hd, first, dn, out, odd, e⟩ := m
 cases pc with
 | done => rfl
 | hd0 => exact GetM.record_c _
 | rc =>
  show (if _ then _ else if _ then _ else if _ then _ else if _ then _ else _ : GetM).c = _
  split
  ·exact GetM.zero_c _
  split
  ·exact GetM.zero_c _
  split
  ·exact GetM.record_c _
  split
  ·exact GetM.record_c _
  ·rfl
 | rd sz typ p n hv =>
  show (if _ then _ else _ : GetM).c = _
  split
  ·exact GetM.record_c _
  ·rfl
 | zr p k =>
  show (if _ then _ else _ : GetM).c = _
  split <;> rfl
 | st => rfl
theorem GetM.local (B S : Nat) : Local getMac (GetM.lc B S) B (B + S + 24) := by
 refine ⟨fun m h => h.1.wf, fun m N h he => ?_, fun m x h hx => ?_⟩
 ·obtain ⟨hf, hb, hs, hp⟩ := h
  by_cases hl : m.live = true
  ·have hok := hf.ok hl
   have hg : rgOk m.c.b m.c.s = true := by
    unfold GetC.ok at hok
    simp at hok
    exact hok.1
   obtain ⟨a1, a2, a3, a4, a5, a6⟩ := rgOk_bd hg
   have hp2 := hf.pc
   obtain ⟨c, pc, hd, first, dn, out, odd, e⟩ := m
   dsimp only at hb hs a2 a3 a4 a6
   cases pc with
   | done => cases hl
   | hd0 => exact ⟨by show (1 : Int) ≠ 3; decide, by show (B : Int) ≤ c.b + c.s + 16; omega, by show c.b + c.s + 16 + 8 ≤ ((B + S + 24 : Nat) : Int); omega⟩
   | rc =>
    obtain ⟨hbs, hlf⟩ := hp2
    have h0 := hbs.f0
    have h1 := hbs.d0
    have hlf : 0 < c.s - first - dn := hlf
    dsimp only at h0 h1
    exact ⟨by show (1 : Int) ≠ 3; decide, by show (B : Int) ≤ c.b + first + dn; omega, by show c.b + first + dn + 8 ≤ ((B + S + 24 : Nat) : Int); omega⟩
   | rd sz typ p n hv =>
    obtain ⟨p1, p2⟩ := hp
    exact ⟨by show (5 : Int) ≠ 3; decide, p1, by show p + min n 8 ≤ ((B + S + 24 : Nat) : Int); omega⟩
   | zr p k =>
    obtain ⟨p1, p2⟩ := hp
    exact ⟨by show (6 : Int) ≠ 3; decide, p1, by show p + min k 8 ≤ ((B + S + 24 : Nat) : Int); omega⟩
   | st => exact ⟨by show (2 : Int) ≠ 3; decide, by show (B : Int) ≤ c.b + c.s + 16; omega, by show c.b + c.s + 16 + 8 ≤ ((B + S + 24 : Nat) : Int); omega⟩
  ·obtain ⟨c, pc, hd, first, dn, out, odd, e⟩ := m
   cases pc <;> first | exact absurd he (aaZ_err N) | exact absurd rfl hl
 ·obtain ⟨hf, hb, hs, hp⟩ := h
  by_cases hl : m.live = true
  ·have hxa := get_xan (m := m) hx
   have hf' := hf.step hl hxa.1 hxa.2
   have hok := hf.ok hl
   have hg : rgOk m.c.b m.c.s = true := by
    unfold GetC.ok at hok
    simp at hok
    exact hok.1
   obtain ⟨a1, a2, a3, a4, a5, a6⟩ := rgOk_bd hg
   have hcs := GetM.step_c m x
   refine ⟨hf', by show (m.step x).c.b = _; rw [hcs]; exact hb, by show (m.step x).c.s = _; rw [hcs]; exact hs, ?_⟩
   have hp2 := hf.pc
   obtain ⟨c, pc, hd, first, dn, out, odd, e⟩ := m
   dsimp only at hb hs a2 a3 a4 a6
   cases pc with
   | done => cases hl
   | hd0 =>
    obtain ⟨_, hdn⟩ := hp2
    have hdn : dn = 0 := hdn
    have m0 := Int.emod_nonneg x.v (show c.s ≠ 0 by omega)
    have m1 := Int.emod_lt_of_pos x.v (show 0 < c.s by omega)
    exact GetM.lcp.record (m := ⟨c, .hd0, x.v, x.v % c.s, dn, out, odd, e⟩) hb hs m0 (by show x.v % c.s + dn ≤ c.s; omega)
   | rc =>
    obtain ⟨hbs, hlf⟩ := hp2
    have h0 := hbs.f0
    have h1 := hbs.d0
    have h2 := hbs.d1
    dsimp only at h0 h1 h2
    show GetM.lcp B S (if _ then _ else if _ then _ else if _ then _ else if _ then _ else _)
    split
    ·exact GetM.lcp.zero hb hs h0 h2
    split
    ·exact GetM.lcp.zero (m := ⟨c, .rc, hd, first, dn, out, true, e⟩) hb hs h0 h2
    rename_i q1 q2
    have hlf : (⟨c, .rc, hd, first, dn, out, odd, e⟩ : GetM).left = c.s - first - dn := rfl
    rw [hlf] at q2
    have hz : loS x.v ≤ rsz (loS x.v) := by unfold rsz; omega
    split
    ·exact GetM.lcp.record (m := ⟨c, .rc, hd, first, dn + rsz (loS x.v), out, odd, e⟩) hb hs h0 (by show first + (dn + rsz (loS x.v)) ≤ c.s; omega)
    split
    ·exact GetM.lcp.record (m := ⟨c, .rc, hd, first, dn + rsz (loS x.v), out ++ [(hiS x.v, [])], odd, e⟩) hb hs h0 (by show first + (dn + rsz (loS x.v)) ≤ c.s; omega)
    ·exact ⟨by show (B : Int) ≤ c.b + first + dn + 8; omega, by show c.b + first + dn + 8 + (loS x.v - 8) ≤ B + S; omega⟩
   | rd sz typ p n hv =>
    obtain ⟨hbs, u1, u2, _⟩ := hp2
    have h0 := hbs.f0
    dsimp only at h0 u2
    obtain ⟨p1, p2⟩ := hp
    show GetM.lcp B S (if _ then _ else _)
    split
    ·exact GetM.lcp.record (m := ⟨c, .rd sz typ p n hv, hd, first, dn + sz, out ++ [(typ, hv ++ x.b)], odd, e⟩) hb hs h0 (by show first + (dn + sz) ≤ c.s; omega)
    ·exact ⟨by show (B : Int) ≤ p + 8; omega, by show p + 8 + (n - 8) ≤ B + S; omega⟩
   | zr p k =>
    obtain ⟨p1, p2⟩ := hp
    show GetM.lcp B S (if _ then _ else _)
    split
    ·exact trivial
    ·exact ⟨by show (B : Int) ≤ p + 8; omega, by show p + 8 + (k - 8) ≤ B + S; omega⟩
   | st => exact trivial
  ·have : m.step x = m := by
    obtain ⟨c, pc, hd, first, dn, out, odd, e⟩ := m
    cases pc <;> first | rfl | exact absurd rfl hl
   show GetM.lc B S (m.step x)
   rw [this]
   exact ⟨hf, hb, hs, hp⟩
def SenM.lcp (B S : Nat) (m : SenM) : Prop := match m.pc with
 | .is => m.c.nd ≤ (S : Int) - m.tl % (S : Int)
 | .wh a => (B : Int) ≤ a ∧ a + m.c.nd ≤ B + S
 | .wb p l => (B : Int) ≤ p ∧ p + l.length ≤ B + S
 | _ => True
def SenM.lc (B S : Nat) (m : SenM) : Prop := m.fine ∧ m.c.b = B ∧ m.c.s = S ∧ m.lcp B S
theorem SenM.local (B S : Nat) : Local senMac (SenM.lc B S) B (B + S + 24) := by
 refine ⟨fun m h => h.1.wf, fun m N h he => ?_, fun m x h hx => ?_⟩
 ·obtain ⟨hf, hb, hs, hp⟩ := h
  by_cases hl : m.live = true
  ·have hok := hf.ok hl
   obtain ⟨b1, b2, b3, b4, b5, b6, b7⟩ := PutC.bd hok
   obtain ⟨c, pc, tl, e⟩ := m
   dsimp only at hb hs b1 b2 b3 b4 b5 b6 b7
   cases pc with
   | done => cases hl
   | tl => exact ⟨by show (1 : Int) ≠ 3; decide, by show (B : Int) ≤ c.b + c.s + 8; omega, by show c.b + c.s + 8 + 8 ≤ ((B + S + 24 : Nat) : Int); omega⟩
   | is => exact ⟨by show (2 : Int) ≠ 3; decide, by show (B : Int) ≤ c.b + c.s; omega, by show c.b + c.s + 8 ≤ ((B + S + 24 : Nat) : Int); omega⟩
   | ip => exact ⟨by show (2 : Int) ≠ 3; decide, by show (B : Int) ≤ c.b + c.s; omega, by show c.b + c.s + 8 ≤ ((B + S + 24 : Nat) : Int); omega⟩
   | pd =>
    have m0 := Int.emod_nonneg tl (show c.s ≠ 0 by omega)
    have m1 := Int.emod_lt_of_pos tl (show 0 < c.s by omega)
    exact ⟨by show (2 : Int) ≠ 3; decide, by show (B : Int) ≤ c.b + tl % c.s; omega, by show c.b + tl % c.s + 8 ≤ ((B + S + 24 : Nat) : Int); omega⟩
   | wh a =>
    obtain ⟨p1, p2⟩ := hp
    dsimp only at p2
    exact ⟨by show (2 : Int) ≠ 3; decide, p1, by show a + 8 ≤ ((B + S + 24 : Nat) : Int); omega⟩
   | wb p l =>
    obtain ⟨p1, p2⟩ := hp
    exact ⟨by show (6 : Int) ≠ 3; decide, p1, by show p + min (l.length : Int) 8 ≤ ((B + S + 24 : Nat) : Int); omega⟩
   | la => exact ⟨by show (2 : Int) ≠ 3; decide, by show (B : Int) ≤ c.b + c.s + 16; omega, by show c.b + c.s + 16 + 8 ≤ ((B + S + 24 : Nat) : Int); omega⟩
   | ta => exact ⟨by show (2 : Int) ≠ 3; decide, by show (B : Int) ≤ c.b + c.s + 8; omega, by show c.b + c.s + 8 + 8 ≤ ((B + S + 24 : Nat) : Int); omega⟩
  ·obtain ⟨c, pc, tl, e⟩ := m
   cases pc <;> first | exact absurd he (aaZ_err N) | exact absurd rfl hl
 ·obtain ⟨hf, hb, hs, hp⟩ := h
  by_cases hl : m.live = true
  ·have hf' := hf.step hl ⟨hx.v0, hx.v1⟩
   have hok := hf.ok hl
   obtain ⟨b1, b2, b3, b4, b5, b6, b7⟩ := PutC.bd hok
   obtain ⟨q1, q2, q3⟩ := PutC.nd_bd hok
   obtain ⟨_, _, q4⟩ := PutC.ok_bd hok
   have hcs : (m.step x).c = m.c := by
    obtain ⟨c, pc, tl, e⟩ := m
    cases pc <;> rfl
   refine ⟨hf', by show (m.step x).c.b = _; rw [hcs]; exact hb, by show (m.step x).c.s = _; rw [hcs]; exact hs, ?_⟩
   obtain ⟨c, pc, tl, e⟩ := m
   dsimp only at hb hs b1 b2 b3 b4 b5 b6 b7 q1 q2 q3 q4
   cases pc with
   | done => cases hl
   | tl =>
    show SenM.lcp B S ⟨c, if c.nd ≤ c.s - x.v % c.s then .is else .ip, x.v, e⟩
    split
    ·rename_i h
     rw [hs] at h
     exact h
    ·exact trivial
   | is =>
    have m0 := Int.emod_nonneg tl (show c.s ≠ 0 by omega)
    have hp : c.nd ≤ (S : Int) - tl % (S : Int) := hp
    rw [← hs] at hp
    exact ⟨by show (B : Int) ≤ c.b + tl % c.s; omega, by show c.b + tl % c.s + c.nd ≤ B + S; omega⟩
   | ip => exact trivial
   | pd => exact ⟨by show (B : Int) ≤ c.b; omega, by show c.b + c.nd ≤ B + S; omega⟩
   | wh a =>
    obtain ⟨p1, p2⟩ := hp
    dsimp only at p2
    show SenM.lcp B S ⟨c, if c.d.length = 0 then .la else .wb (a + 8) c.d, tl, e⟩
    split
    ·exact trivial
    ·exact ⟨by show (B : Int) ≤ a + 8; omega, by show a + 8 + (c.d.length : Int) ≤ _; omega⟩
   | wb p l =>
    obtain ⟨p1, p2⟩ := hp
    show SenM.lcp B S ⟨c, if l.length ≤ 8 then .la else .wb (p + 8) (l.drop 8), tl, e⟩
    split
    ·exact trivial
    ·exact ⟨by show (B : Int) ≤ p + 8; omega, by rw [List.length_drop]; omega⟩
   | la => exact trivial
   | ta => exact trivial
  ·have : m.step x = m := by
    obtain ⟨c, pc, tl, e⟩ := m
    cases pc <;> first | rfl | exact absurd rfl hl
   show SenM.lc B S (m.step x)
   rw [this]
   exact ⟨hf, hb, hs, hp⟩
def HeaM.lcp (B S : Nat) (m : HeaM) : Prop := match m.pc with
 | .rd _ _ p n _ => (B : Int) ≤ p ∧ p + n ≤ B + S
 | _ => True
def HeaM.lc (B S : Nat) (m : HeaM) : Prop := m.fine ∧ m.b = B ∧ m.s = S ∧ m.lcp B S
theorem HeaM.head_bs (m : HeaM) (v : Int) : (m.head v).b = m.b ∧ (m.head v).s = m.s := by
 unfold HeaM.head
 by_cases h1 : loS v < 8 ∨ m.s - m.place < rsz (loS v)
 ·rw [if_pos h1]; exact ⟨rfl, rfl⟩
 rw [if_neg h1]
 by_cases h2 : hiS v = -1
 ·rw [if_pos h2]
  by_cases h3 : 0 < m.pads ∨ rsz (loS v) < m.s - m.place
  ·rw [if_pos h3]; exact ⟨rfl, rfl⟩
  ·rw [if_neg h3]; exact ⟨rfl, rfl⟩
 rw [if_neg h2]
 by_cases h4 : loS v - 8 < 1
 ·rw [if_pos h4]; exact ⟨rfl, rfl⟩
 ·rw [if_neg h4]; exact ⟨rfl, rfl⟩
theorem HeaM.step_bs (m : HeaM) (x : AN) : (m.step x).b = m.b ∧ (m.step x).s = m.s := by
 obtain ⟨b, s, pc, cu, nx, la, c, pads, msg, heard, e⟩ := m
 cases pc with
 | hd => exact HeaM.head_bs _ _
 | _ =>
  simp only [HeaM.step]
  (try split) <;> first | exact ⟨rfl, rfl⟩ | exact ⟨trivial, trivial⟩
theorem HeaM.local (B S : Nat) : Local heaMac (HeaM.lc B S) B (B + S + 24) := by
 refine ⟨fun m h => h.1.wf, fun m N h he => ?_, fun m x h hx => ?_⟩
 ·obtain ⟨hf, hb, hs, hp⟩ := h
  by_cases hl : m.live = true
  ·have hok := hf.ok hl
   obtain ⟨p1, p2, p3, p4, p5⟩ := HeaM.fine.place hok
   obtain ⟨b, s, pc, cu, nx, la, c, pads, msg, heard, e⟩ := m
   dsimp only at hb hs p1 p2 p4 p5
   cases pc with
   | done => cases hl
   | tl => exact ⟨by show (1 : Int) ≠ 3; decide, by show (B : Int) ≤ b + s + 8; omega, by show b + s + 8 + 8 ≤ ((B + S + 24 : Nat) : Int); omega⟩
   | va => exact ⟨by show (1 : Int) ≠ 3; decide, by show (B : Int) ≤ b + s; omega, by show b + s + 8 ≤ ((B + S + 24 : Nat) : Int); omega⟩
   | lt => exact ⟨by show (1 : Int) ≠ 3; decide, by show (B : Int) ≤ b + s + 16; omega, by show b + s + 16 + 8 ≤ ((B + S + 24 : Nat) : Int); omega⟩
   | hd => exact ⟨by show (1 : Int) ≠ 3; decide, by show (B : Int) ≤ b + (HeaM.mk b s .hd cu nx la c pads msg heard e).place; omega, by show b + (HeaM.mk b s .hd cu nx la c pads msg heard e).place + 8 ≤ ((B + S + 24 : Nat) : Int); omega⟩
   | pv sz => exact ⟨by show (1 : Int) ≠ 3; decide, by show (B : Int) ≤ b + s; omega, by show b + s + 8 ≤ ((B + S + 24 : Nat) : Int); omega⟩
   | rd sz typ p n hv =>
    obtain ⟨r1, r2⟩ := hp
    exact ⟨by show (5 : Int) ≠ 3; decide, r1, by show p + min n 8 ≤ ((B + S + 24 : Nat) : Int); omega⟩
   | bv sz typ l => exact ⟨by show (1 : Int) ≠ 3; decide, by show (B : Int) ≤ b + s; omega, by show b + s + 8 ≤ ((B + S + 24 : Nat) : Int); omega⟩
  ·obtain ⟨b, s, pc, cu, nx, la, c, pads, msg, heard, e⟩ := m
   cases pc <;> first | exact absurd he (aaZ_err N) | exact absurd rfl hl
 ·obtain ⟨hf, hb, hs, hp⟩ := h
  have hxa := hea_xan (m := m) hx
  have hbs := HeaM.step_bs m x
  refine ⟨hf.step hxa.1 hxa.2, hbs.1.trans hb, hbs.2.trans hs, ?_⟩
  have hok := hf.ok
  obtain ⟨b, s, pc, cu, nx, la, c, pads, msg, heard, e⟩ := m
  dsimp only at hb hs
  cases pc with
  | done => exact trivial
  | hd =>
   obtain ⟨p1, p2, p3, p4, p5⟩ := HeaM.fine.place (hok rfl)
   dsimp only at p1 p2 p4 p5
   show HeaM.lcp B S ((HeaM.mk b s .hd cu nx la c pads msg heard e).head x.v)
   unfold HeaM.head
   split
   ·exact trivial
   rename_i q
   have hz : loS x.v ≤ rsz (loS x.v) := by unfold rsz; omega
   have q : ¬ (loS x.v < 8 ∨ s - (HeaM.mk b s .hd cu nx la c pads msg heard e).place < rsz (loS x.v)) := q
   split
   ·split <;> exact trivial
   split
   ·exact trivial
   ·exact ⟨by show (B : Int) ≤ b + (HeaM.mk b s .hd cu nx la c pads msg heard e).place + 8; omega, by show b + (HeaM.mk b s .hd cu nx la c pads msg heard e).place + 8 + (loS x.v - 8) ≤ B + S; omega⟩
  | rd sz typ p n hv =>
   obtain ⟨r1, r2⟩ := hp
   show HeaM.lcp B S (if _ then _ else _)
   split
   ·exact trivial
   ·exact ⟨by show (B : Int) ≤ p + 8; omega, by show p + 8 + (n - 8) ≤ B + S; omega⟩
  | tl => show HeaM.lcp B S (if _ then _ else _); split <;> exact trivial
  | va => show HeaM.lcp B S (if _ then _ else _); split <;> exact trivial
  | lt => exact trivial
  | pv sz => show HeaM.lcp B S (if _ then _ else _); split <;> exact trivial
  | bv sz typ l => show HeaM.lcp B S (if _ then _ else _); split <;> exact trivial
end Go.Proofs.YtggjhleomocojaaGreat
