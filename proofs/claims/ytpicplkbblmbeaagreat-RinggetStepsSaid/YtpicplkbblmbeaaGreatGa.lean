/- A get as a machine without memory. No program in sight. Conditions: none. -/
import Derived.Test.YtpicplkbblmbeaaGreatPe
namespace Go.Proofs.YtpicplkbblmbeaaGreat
open Go.RowKit
set_option linter.unusedVariables false
/-- From where is taken, and how many at most. -/
structure GetC where
  b : Int
  s : Int
  most : Int
def GetC.ok (c : GetC) : Bool := rgOk c.b c.s && decide (1 ≤ c.most)
inductive GPc where
  | done
  | hd0
  | rc
  | rd (sz typ p n : Int) (hv : List Int)
  | zr (p k : Int)
  | st
structure GetM where
  c : GetC
  pc : GPc
  hd : Int
  first : Int
  dn : Int
  out : List (Int × List Int)
  odd : Bool
  e : Int
def GetC.init (c : GetC) : GetM := ⟨c, if c.ok then .hd0 else .done, 0, 0, 0, [], false, if c.ok then 10 else 1⟩
def GetM.left (m : GetM) : Int := m.c.s - m.first - m.dn
def GetM.stop (m : GetM) : GetM := { m with pc := .done, e := if m.odd then 13 else 0 }
def GetM.zero (m : GetM) : GetM := if m.dn = 0 then m.stop else { m with pc := .zr (m.c.b + m.first) m.dn }
def GetM.record (m : GetM) : GetM := if m.c.most ≤ (m.out.length : Int) ∨ m.left ≤ 0 then m.zero else { m with pc := .rc }
/-- What a record of so many bytes takes. -/
def rsz (l : Int) : Int := (max l 0 + 7) / 8 * 8
/-- A message was read. -/
def GetM.got (m : GetM) (sz typ : Int) (b : List Int) : GetM := ({ m with out := m.out ++ [(typ, b)], dn := m.dn + sz } : GetM).record
def GetM.at (m : GetM) : Int := m.c.b + m.first + m.dn
def GetM.step (m : GetM) (x : AN) : GetM :=
  match m.pc with
  | .done => m
  | .hd0 => ({ m with hd := x.v, first := x.v % m.c.s } : GetM).record
  | .rc =>
    if loS x.v < 1 then m.zero
    else if loS x.v < 8 ∨ m.left < rsz (loS x.v) then ({ m with odd := true } : GetM).zero
    else if hiS x.v = -1 then ({ m with dn := m.dn + rsz (loS x.v) } : GetM).record
    else if loS x.v - 8 < 1 then m.got (rsz (loS x.v)) (hiS x.v) []
    else { m with pc := .rd (rsz (loS x.v)) (hiS x.v) (m.at + 8) (loS x.v - 8) [] }
  | .rd sz typ p n hv => if n ≤ 8 then m.got sz typ (hv ++ x.b) else { m with pc := .rd sz typ (p + 8) (n - 8) (hv ++ x.b) }
  | .zr p k => if k ≤ 8 then { m with pc := .st } else { m with pc := .zr (p + 8) (k - 8) }
  | .st => m.stop
def GetM.live (m : GetM) : Bool := match m.pc with
  | .done => false
  | _ => true
def GetM.want (m : GetM) : AA :=
  match m.pc with
  | .done => aaZ
  | .hd0 => ⟨1, m.c.b + m.c.s + 16, 8, 0, 0, []⟩
  | .rc => ⟨1, m.at, 8, 0, 0, []⟩
  | .rd sz typ p n hv => ⟨5, p, min n 8, 0, 0, []⟩
  | .zr p k => ⟨6, p, min k 8, 0, 0, List.replicate (min k 8).toNat 0⟩
  | .st => ⟨2, m.c.b + m.c.s + 16, 8, u64 (m.hd + m.dn), 0, []⟩
/-- How it ended. -/
def GetM.res (m : GetM) : Int × Int := if m.e ≠ 0 then (0, m.e) else (m.dn, 0)
/-- A fix. -/
structure FixC where
  b : Int
  s : Int
inductive FPc where
  | done
  | h0
  | t0 (h : Int)
  | lk
  | ah (a : Int)
  | bk (a f : Int)
  | pd (n : Int)
structure FixM where
  c : FixC
  pc : FPc
  first : Int
  last : Int
  n : Int
  e : Int
def FixC.init (c : FixC) : FixM := ⟨c, if rgOk c.b c.s then .h0 else .done, 0, 0, 0, if rgOk c.b c.s then 10 else 1⟩
def FixM.stop (m : FixM) : FixM := { m with pc := .done, e := 0 }
def FixM.begin (m : FixM) (h t : Int) : FixM :=
  if h = t then m.stop
  else { m with first := h % m.c.s, last := if t % m.c.s ≤ h % m.c.s then m.c.s else t % m.c.s, pc := .lk }
def FixM.ahead (m : FixM) (a : Int) : FixM := if m.last ≤ a then m.stop else { m with pc := .ah a }
def FixM.back (m : FixM) (a f : Int) : FixM := if a < m.first then { m with pc := .pd (f - m.first) } else { m with pc := .bk a f }
def FixM.step (m : FixM) (x : AN) : FixM :=
  match m.pc with
  | .done => m
  | .h0 => { m with pc := .t0 x.v }
  | .t0 h => m.begin h x.v
  | .lk => if 0 < loS x.v ∨ loS x.v < -(m.c.s - m.first) then m.stop else if loS x.v < 0 then { m with pc := .pd (-loS x.v) } else m.ahead (m.first + 8)
  | .ah a => if x.v = 0 then m.ahead (a + 8) else m.back (a - 8) a
  | .bk a f => if x.v ≠ 0 then m.stop else m.back (a - 8) f
  | .pd n => ({ m with n := n } : FixM).stop
def FixM.live (m : FixM) : Bool := match m.pc with
  | .done => false
  | _ => true
def FixM.want (m : FixM) : AA :=
  match m.pc with
  | .done => aaZ
  | .h0 => ⟨1, m.c.b + m.c.s + 16, 8, 0, 0, []⟩
  | .t0 h => ⟨1, m.c.b + m.c.s, 8, 0, 0, []⟩
  | .lk => ⟨1, m.c.b + m.first, 8, 0, 0, []⟩
  | .ah a => ⟨1, m.c.b + a, 4, 0, 0, []⟩
  | .bk a f => ⟨1, m.c.b + a, 4, 0, 0, []⟩
  | .pd n => ⟨2, m.c.b + m.first, 8, recS n (-1), 0, []⟩
end Go.Proofs.YtpicplkbblmbeaaGreat
