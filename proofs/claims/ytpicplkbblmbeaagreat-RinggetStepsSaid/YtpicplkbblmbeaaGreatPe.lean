/- A ring's numbers; a put as a machine without memory. No program in sight. Conditions: none. -/
import Derived.Test.YtpicplkbblmbeaaGreatSa
import Derived.Test.YtpicplkbblmbeaaGreatHd
namespace Go.Proofs.YtpicplkbblmbeaaGreat
open Go.RowKit
set_option linter.unusedVariables false
/-- A number of 64 bits, without and with its sign. -/
def u64 (x : Int) : Int := x % 18446744073709551616
def s64 (x : Int) : Int := (x + 9223372036854775808) % 18446744073709551616 - 9223372036854775808
theorem s64_eq (x : Int) : s64 x = (x + 9223372036854775808) % 18446744073709551616 - 9223372036854775808 := rfl
theorem wrap_s64 (x : Int) : IntKind.i64.wrap x = s64 x := by rw [IntKind.wrap_i64]; rfl
theorem wrap_u64' (x : Int) : IntKind.u64.wrap x = u64 x := by rw [IntKind.wrap_u64]; rfl
theorem u64_bdP (x : Int) : 0 ≤ u64 x ∧ u64 x ≤ 18446744073709551615 := by unfold u64; omega
/-- May a ring be? -/
def rgOk (b s : Int) : Bool := isP s && decide (64 ≤ s) && decide (s ≤ 8192) && decide (0 ≤ b) && decide (b % 8 = 0) && decide (b ≤ 131040 - s)
theorem rgOk_bd {b s : Int} (h : rgOk b s = true) : isP s = true ∧ 64 ≤ s ∧ s ≤ 8192 ∧ 0 ≤ b ∧ b % 8 = 0 ∧ b ≤ 131040 - s := by
  unfold rgOk at h
  simp at h
  exact ⟨h.1.1.1.1.1, h.1.1.1.1.2, h.1.1.1.2, h.1.1.2, h.1.2, h.2⟩
theorem rg_pow {s : Int} (h1 : isP s = true) (h2 : 64 ≤ s) (h3 : s ≤ 8192) : s = 64 ∨ s = 128 ∨ s = 256 ∨ s = 512 ∨ s = 1024 ∨ s = 2048 ∨ s = 4096 ∨ s = 8192 := by
  obtain ⟨k, hk, rfl⟩ := (isP_iff s).1 h1
  have a1 : 6 ≤ k := by
    by_cases h : 6 ≤ k
    · exact h
    · have : k = 0 ∨ k = 1 ∨ k = 2 ∨ k = 3 ∨ k = 4 ∨ k = 5 := by omega
      rcases this with rfl | rfl | rfl | rfl | rfl | rfl <;> revert h2 <;> decide
  have a2 : k ≤ 13 := by
    by_cases h : k ≤ 13
    · exact h
    · have : (2 : Int) ^ 14 ≤ 2 ^ k := by exact_mod_cast Nat.pow_le_pow_right (by decide) (by omega : 14 ≤ k)
      have e : (2 : Int) ^ 14 = 16384 := by decide
      omega
  have : k = 6 ∨ k = 7 ∨ k = 8 ∨ k = 9 ∨ k = 10 ∨ k = 11 ∨ k = 12 ∨ k = 13 := by omega
  rcases this with rfl | rfl | rfl | rfl | rfl | rfl | rfl | rfl <;> decide
theorem s64_mod {s : Int} (h : s = 64 ∨ s = 128 ∨ s = 256 ∨ s = 512 ∨ s = 1024 ∨ s = 2048 ∨ s = 4096 ∨ s = 8192) (x : Int) : s64 x % s = x % s := by
  rw [s64_eq]
  rcases h with rfl | rfl | rfl | rfl | rfl | rfl | rfl | rfl <;> omega
/-- What is put, and where. -/
structure PutC where
  b : Int
  s : Int
  typ : Int
  d : List Int
def PutC.ok (c : PutC) : Bool := rgOk c.b c.s && decide (1 ≤ c.typ) && decide ((c.d.length : Int) ≤ c.s / 8)
/-- What the record takes. -/
def PutC.nd (c : PutC) : Int := if c.ok then ((c.d.length : Int) + 15) / 8 * 8 else 0
def PutC.n (c : PutC) : Int := 8 + c.d.length
/-- How it begins: what its errno is. -/
def PutC.e0 (c : PutC) : Int := if rgOk c.b c.s && decide (1 ≤ c.typ) then (if (c.d.length : Int) ≤ c.s / 8 then 10 else 4) else 1
/-- Where it stands. -/
inductive PPc where
  | done
  | hd0
  | tl
  | rm (t : Int)
  | rs (t v : Int)
  | ph (t : Int)
  | ps (t v : Int)
  | cs (t pad : Int)
  | pd (t : Int)
  | wh (a : Int)
  | wb (a p : Int) (l : List Int)
  | fi (a : Int)
structure PutM where
  c : PutC
  pc : PPc
  hd : Int
  pos : Int
  cl : Bool
  e : Int
def PutC.init (c : PutC) : PutM := ⟨c, if c.ok then .hd0 else .done, 0, 0, false, c.e0⟩
def PutM.fit (m : PutM) (t : Int) : Bool := decide (m.c.nd ≤ s64 (u64 (m.c.s - u64 (t - m.hd))))
/-- What is done where there is room. -/
def PutM.gapped (m : PutM) (t : Int) : PutM :=
  if m.c.nd ≤ m.c.s - t % m.c.s then { m with pc := .cs t 0 } else if m.c.nd ≤ m.hd % m.c.s then { m with pc := .cs t (m.c.s - t % m.c.s) } else { m with pc := .ph t }
def PutM.step (m : PutM) (x : AN) : PutM :=
  match m.pc with
  | .done => m
  | .hd0 => { m with hd := x.v, pc := .tl }
  | .tl => if m.fit x.v then m.gapped x.v else { m with pc := .rm x.v }
  | .rm t => if ({ m with hd := x.v } : PutM).fit t then { m with hd := x.v, pc := .rs t x.v } else { m with hd := x.v, pc := .done, e := 5 }
  | .rs t v => m.gapped t
  | .ph t => if m.c.nd ≤ x.v % m.c.s then { m with hd := x.v, pc := .ps t x.v } else { m with hd := x.v, pc := .done, e := 5 }
  | .ps t v => { m with pc := .cs t (m.c.s - t % m.c.s) }
  | .cs t pad => if x.d then { m with pos := s64 (s64 t + pad), cl := true, pc := if pad = 0 then .wh (m.c.b + t % m.c.s) else .pd t } else { m with pc := .tl }
  | .pd t => { m with pc := .wh m.c.b }
  | .wh a => if m.c.d.length = 0 then { m with pc := .fi a } else { m with pc := .wb a (a + 8) m.c.d }
  | .wb a p l => if l.length ≤ 8 then { m with pc := .fi a } else { m with pc := .wb a (p + 8) (l.drop 8) }
  | .fi a => { m with pc := .done, e := 0 }
def PutM.live (m : PutM) : Bool := match m.pc with
  | .done => false
  | _ => true
def PutM.end (m : PutM) : Int := m.c.b + m.c.s
def PutM.want (m : PutM) : AA :=
  match m.pc with
  | .done => aaZ
  | .hd0 => ⟨1, m.end + 8, 8, 0, 0, []⟩
  | .tl => ⟨1, m.end, 8, 0, 0, []⟩
  | .rm t => ⟨1, m.end + 16, 8, 0, 0, []⟩
  | .rs t v => ⟨2, m.end + 8, 8, v, 0, []⟩
  | .ph t => ⟨1, m.end + 16, 8, 0, 0, []⟩
  | .ps t v => ⟨2, m.end + 8, 8, v, 0, []⟩
  | .cs t pad => ⟨4, m.end, 8, t, u64 (t + (m.c.nd + pad)), []⟩
  | .pd t => ⟨2, m.c.b + t % m.c.s, 8, recS (m.c.s - t % m.c.s) (-1), 0, []⟩
  | .wh a => ⟨2, a, 8, recS (-m.c.n) m.c.typ, 0, []⟩
  | .wb a p l => ⟨6, p, min l.length 8, 0, 0, l.take 8⟩
  | .fi a => ⟨2, a, 4, m.c.n, 0, []⟩
def PutM.fix (m : PutM) : Prop := m.c.ok = true
theorem PutC.ok_bd {c : PutC} (h : c.ok = true) : rgOk c.b c.s = true ∧ 1 ≤ c.typ ∧ (c.d.length : Int) ≤ c.s / 8 := by
  unfold PutC.ok at h
  simp at h
  exact ⟨h.1.1, h.1.2, h.2⟩
theorem PutC.nd_bd {c : PutC} (h : c.ok = true) : c.nd = ((c.d.length : Int) + 15) / 8 * 8 ∧ 8 + (c.d.length : Int) ≤ c.nd ∧ c.nd < 16 + (c.d.length : Int) := by
  unfold PutC.nd
  rw [if_pos h]
  omega
end Go.Proofs.YtpicplkbblmbeaaGreat
