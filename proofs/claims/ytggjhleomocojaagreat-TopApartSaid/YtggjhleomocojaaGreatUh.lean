/- A hear behind a send. No program in sight. Conditions: none. -/
import Derived.Test.YtggjhleomocojaaGreatUa
import Derived.Test.YtggjhleomocojaaGreatVs
import Derived.Test.YtggjhleomocojaaGreatUe
import Derived.Test.YtggjhleomocojaaGreatNx
import Derived.Test.YtggjhleomocojaaGreatYw
import Derived.Test.YtggjhleomocojaaGreatPq
import Derived.Test.YtggjhleomocojaaGreatKe
import Derived.Test.YtggjhleomocojaaGreatBd
import Derived.Deep.LoopGhost
import Derived.Test.YtggjhleomocojaaGreatUr
import Derived.Test.YtggjhleomocojaaGreatDy
import Derived.Lib.SlBytesConst
namespace Go.Proofs.YtggjhleomocojaaGreat
set_option maxRecDepth 100000
open Go.RowKit
set_option linter.unusedVariables false
set_option linter.unusedSimpArgs false
def mvA : Fam := Fam.Sum putFam senFam
def mvB : Fam := Fam.Sum getFam (Fam.Q relFam)
def mvAf (s : mvA.M.σ) : (Mac.Sum putMac senMac).σ := match s with | .inl x => .inl x.2 | .inr x => .inr x
def mvBf (s : mvB.M.σ) : (Mac.Sum getMac relC.mac).σ := match s with | .inl x => .inl x.2 | .inr x => .inr x.2
theorem mvA_hom : Mac.Hom mvA.M (Mac.Sum putMac senMac) mvAf := ⟨fun s => match s with | .inl _ => rfl | .inr _ => rfl, fun s => match s with | .inl _ => rfl | .inr _ => rfl, fun s x => match s with | .inl _ => rfl | .inr _ => rfl⟩
theorem mvB_hom : Mac.Hom mvB.M (Mac.Sum getMac relC.mac) mvBf := ⟨fun s => match s with | .inl _ => rfl | .inr _ => rfl, fun s => match s with | .inl _ => rfl | .inr _ => rfl, fun s x => match s with | .inl _ => rfl | .inr _ => rfl⟩
def mv0 : SW (Mac.Sum putMac senMac).σ := ⟨List.replicate (8 * 32) 0, 0, [⟨some (.inl (PutC.init ⟨0, 64, 1, [111, 110, 101]⟩)), false⟩, ⟨some (.inr (SenM.init ⟨96, 64, 2, [116, 119, 111]⟩)), false⟩], 0, []⟩
def mv1 : SW (Mac.Sum putMac senMac).σ := ((Mac.Sum putMac senMac).robin 99 mv0).1
def mv2 : SW (Mac.Sum getMac relC.mac).σ := ⟨mv1.bs, mv1.cnt, [⟨some (.inl (GetC.init ⟨0, 64, 1⟩)), false⟩, ⟨some (.inr (relC.start (⟨96, 64, ⟨0, 0, 0⟩, 1, [], 0⟩ : RelT))), false⟩], 0, []⟩
def mv3 : SW (Mac.Sum getMac relC.mac).σ := ((Mac.Sum getMac relC.mac).robin 99 mv2).1
def mvOk (l : List (Ac (Mac.Sum getMac relC.mac).σ)) : Bool := match l with
 | [⟨some (.inl g), _⟩, ⟨some (.inr x), _⟩] => decide (g.out = [(1, [111, 110, 101])]) && decide (x.2.heard.map (·.2) = [(2, [116, 119, 111])])
 | _ => false
theorem mv_facts : decide (0 ≤ mv1.cnt) && decide (mv1.cnt ≤ 1000) && mvOk mv3.acts = true := by decide +kernel
end Go.Proofs.YtggjhleomocojaaGreat
namespace Go.Proofs.YtggjhleomocojaaGreat
set_option maxRecDepth 100000
open Go.RowKit
set_option linter.unusedVariables false
set_option linter.unusedSimpArgs false
theorem conv_self (W : World) (b : Nat) (C : Array Value) (hh : W.heap[b]? = some (.cells C 5)) (n c : Nat) : ∃ W', (convert 32 32 (.slice (some ⟨b, 0, none⟩) n c)).run Tryz.prog W = .ok (.slice (some ⟨b, 0, none⟩) n c) W' ∧ Keep (· = b) W W' ∧ (∀ j, W'.cell? ⟨b, j, none⟩ = W.cell? ⟨b, j, none⟩) := by
 have hsh : W.shape? b = some (5, C.size) := by
  unfold World.shape?
  rw [hh]
 have ht : Tryz.prog.underlying 32 = some (.slice 5) := Tryz.underlying32
 have he : Tryz.prog.underlying 5 = some (.int .u8) := Tryz.underlying5
 have hlt : b < W.heap.size := (Array.getElem?_eq_some_iff.1 hh).1
 refine ⟨W.freeze ⟨b, C.size, none⟩ 1, by simp [convert, run_underlying ht, run_underlying he, markStringish, hsh], ?_, fun j => ?_⟩
 ·unfold World.freeze
  rw [if_neg (by decide)]
  refine ⟨rfl, rfl, rfl, by show W.heap.size ≤ (W.heap.modify b _).size; simp, fun k hk hn => ?_⟩
  show (W.heap.modify b _)[k]? = W.heap[k]?
  rw [Array.getElem?_modify]
  rw [if_neg (fun e => hn e.symm)]
 ·have e : (W.freeze ⟨b, C.size, none⟩ 1).heap[b]? = some (.cells C 5 (C.size, C.size + 1)) := by
   unfold World.freeze
   rw [if_neg (by decide)]
   show (W.heap.modify b _)[b]? = _
   rw [Array.getElem?_modify, if_pos rfl, hh]
   rfl
  unfold World.cell?
  simp only [e, hh]
theorem rd3 {W : World} {x : Nat} {a b c : Int} (h : ∀ j, W.cell? ⟨x, j, none⟩ = (#[Value.int .u8 a, .int .u8 b, .int .u8 c] : Array Value)[j]?) : RdB W (.slice (some ⟨x, 0, none⟩) 3 3) [a, b, c] := by
 refine .inr (.inr ⟨x, 0, 3, rfl, Nat.le_refl _, by unfold maxLen; omega, fun i hi => ?_⟩)
 match i, hi with
 | 0, _ => exact h 0
 | 1, _ => exact h 1
 | 2, _ => exact h 2
 | i + 3, hi =>
  have : i + 3 < 3 := hi
  omega
def cOne : Array Value := #[.int .u8 111, .int .u8 110, .int .u8 101]
def cTwo : Array Value := #[.int .u8 116, .int .u8 119, .int .u8 111]
structure MvS (wx W : World) (x y : Option Nat) (F : Nat → Prop) (q : Option Nat) : Prop where
 bel : Below wx.heap.size wx W
 hx : ∀ b, x = some b → (∀ j, W.cell? ⟨b, j, none⟩ = cOne[j]?) ∧ wx.heap.size ≤ b ∧ b < W.heap.size ∧ ¬ F b
 hy : ∀ b, y = some b → (∀ j, W.cell? ⟨b, j, none⟩ = cTwo[j]?) ∧ wx.heap.size ≤ b ∧ b < W.heap.size ∧ ¬ F b
 hq : ∀ p, q = some p → PutF W F p (PutC.init ⟨0, 64, 1, [111, 110, 101]⟩)
 hF : ∀ i, F i → wx.heap.size ≤ i ∧ i < W.heap.size
theorem MvS.start (wx : World) : MvS wx wx none none (fun _ => False) none := ⟨Below.refl _ _, nofun, nofun, nofun, fun i h => h.elim⟩
variable {x y : Option Nat} {F : Nat → Prop} {q : Option Nat}
theorem MvS.below {wx W W' : World} (h : MvS wx W x y F q) (b : Below W.heap.size W W') : MvS wx W' x y F q := by
 have z := b.size
 refine ⟨h.bel.trans (b.mono h.bel.size), fun k hk => ?_, fun k hk => ?_, fun p hp => ?_, fun i hi => ⟨(h.hF i hi).1, by have := (h.hF i hi).2; omega⟩⟩
 ·obtain ⟨h1, h2, h3, h4⟩ := h.hx k hk
  exact ⟨fun j => (b.cell (p := ⟨k, j, none⟩) h3).trans (h1 j), h2, by omega, h4⟩
 ·obtain ⟨h1, h2, h3, h4⟩ := h.hy k hk
  exact ⟨fun j => (b.cell (p := ⟨k, j, none⟩) h3).trans (h1 j), h2, by omega, h4⟩
 ·exact (h.hq p hp).below b
theorem MvS.conv {wx W W' : World} {z : Nat} (h : MvS wx W x y F q) (k : Keep (· = z) W W') (hc : ∀ j, W'.cell? ⟨z, j, none⟩ = W.cell? ⟨z, j, none⟩) (hz : wx.heap.size ≤ z) (hzF : ¬ F z) : MvS wx W' x y F q := by
 have s := k.size
 have hcell : ∀ b, b < W.heap.size → ∀ j, W'.cell? ⟨b, j, none⟩ = W.cell? ⟨b, j, none⟩ := fun b hb j => by
  by_cases e : b = z
  ·rw [e]
   exact hc j
  ·exact k.cell j hb e
 refine ⟨h.bel.trans (k.below h.bel.size (fun i hi e => by have e : i = z := e; omega)), fun k' hk => ?_, fun k' hk => ?_, fun p hp => ?_, fun i hi => ⟨(h.hF i hi).1, by have := (h.hF i hi).2; omega⟩⟩
 ·obtain ⟨h1, h2, h3, h4⟩ := h.hx k' hk
  exact ⟨fun j => (hcell k' h3 j).trans (h1 j), h2, by omega, h4⟩
 ·obtain ⟨h1, h2, h3, h4⟩ := h.hy k' hk
  exact ⟨fun j => (hcell k' h3 j).trans (h1 j), h2, by omega, h4⟩
 ·exact (h.hq p hp).keep k (fun i hi e => hzF ((show i = z from e) ▸ hi))
variable {wx W : World}
theorem MvS.ax {y : Option Nat} (h : MvS wx W none y F q) (T : TypeId) : MvS wx (W.alloc (.cells cOne T)) (some W.heap.size) y F q := by
 have b : Below W.heap.size W (W.alloc (.cells cOne T)) := (Below.refl _ _).alloc (Nat.le_refl _) _
 have h2 := h.below b
 refine ⟨h2.bel, fun k hk => ?_, h2.hy, h2.hq, h2.hF⟩
 cases hk
 have B := Blk.made W cOne T
 exact ⟨fun j => (B.cell j).trans (by simp), h.bel.size, B.lt, fun e => by have := (h.hF _ e).2; omega⟩
theorem MvS.ay {x : Option Nat} (h : MvS wx W x none F q) (T : TypeId) : MvS wx (W.alloc (.cells cTwo T)) x (some W.heap.size) F q := by
 have b : Below W.heap.size W (W.alloc (.cells cTwo T)) := (Below.refl _ _).alloc (Nat.le_refl _) _
 have h2 := h.below b
 refine ⟨h2.bel, h2.hx, fun k hk => ?_, h2.hq, h2.hF⟩
 cases hk
 have B := Blk.made W cTwo T
 exact ⟨fun j => (B.cell j).trans (by simp), h.bel.size, B.lt, fun e => by have := (h.hF _ e).2; omega⟩
theorem MvS.put {wx W W' : World} {p : Nat} (h : MvS wx W x y (fun _ => False) none) (b : Below W.heap.size W W') (hp : PutF W' (fun k => W.heap.size ≤ k ∧ k < W'.heap.size) p (PutC.init ⟨0, 64, 1, [111, 110, 101]⟩)) : MvS wx W' x y (fun k => W.heap.size ≤ k ∧ k < W'.heap.size) (some p) := by
 have h2 := h.below b
 have z := h.bel.size
 refine ⟨h2.bel, fun k hk => ?_, fun k hk => ?_, fun p' e => (by cases e; exact hp), fun i hi => ⟨by omega, hi.2⟩⟩
 ·obtain ⟨h1, e2, h3, h4⟩ := h2.hx k hk
  exact ⟨h1, e2, h3, fun e => by have := (h.hx k hk).2.2.1; omega⟩
 ·obtain ⟨h1, e2, h3, h4⟩ := h2.hy k hk
  exact ⟨h1, e2, h3, fun e => by have := (h.hy k hk).2.2.1; omega⟩
theorem MvS.rx {x : Nat} {y : Option Nat} (h : MvS wx W (some x) y F q) : RdB W (.slice (some ⟨x, 0, none⟩) 3 3) [111, 110, 101] := rd3 (h.hx x rfl).1
theorem MvS.ry {y : Nat} {x : Option Nat} (h : MvS wx W x (some y) F q) : RdB W (.slice (some ⟨y, 0, none⟩) 3 3) [116, 119, 111] := rd3 (h.hy y rfl).1
theorem isOne : IsB [111, 110, 101] := by intro x hx; simp at hx; omega
theorem isTwo : IsB [116, 119, 111] := by intro x hx; simp at hx; omega
theorem mvRunA {F Fs : Nat → Prop} {q qs g p c : Nat} (h : MvS wx W x y F (some q)) (hs : SenF W Fs qs (SenM.init ⟨96, 64, 2, [116, 119, 111]⟩)) (hFs : ∀ i, Fs i → wx.heap.size ≤ i ∧ ¬ F i) (hB : Buf wx p c 0 (List.replicate (8 * 32) 0)) (hg : Blk W g [.iface 97 (ptr q), .iface 35 (ptr qs)]) :
  Calls Tryz.prog 11 #[.pointer (some ⟨p, 0, none⟩), .slice (some ⟨g, 0, none⟩) 2 2] W fun e wn => ∃ V, e = .returned (.pointer (some ⟨V, 0, none⟩)) ∧ Below W.heap.size W wn ∧ Calls Tryz.prog 12 #[.pointer (some ⟨V, 0, none⟩), .int .i64 99] wn fun e w' => (∃ k, e = .returned (.int .i64 k)) ∧ Keep (fun i => i = p ∨ i = c) wx w' ∧ Buf w' p c mv1.cnt mv1.bs := by
 have lp := hB.hd.lt
 have lc := Blk.lt hB.wd
 have hB' := hB.belows h.bel
 refine (duoRun mvA (s1 := .inl (q, PutC.init ⟨0, 64, 1, [111, 110, 101]⟩)) (s2 := .inr (SenM.init ⟨96, 64, 2, [116, 119, 111]⟩)) (F1 := F) (F2 := Fs) hB' ⟨rfl, h.hq q rfl⟩ hs ⟨fun e => by have := (h.hF _ e).1; omega, fun e => by have := (hFs _ e).1; omega⟩ ⟨fun e => by have := (h.hF _ e).1; omega, fun e => by have := (hFs _ e).1; omega⟩ (fun b hb hb2 => (hFs b hb2).2 hb) hg 99 (by decide) (by decide) (by decide)).mono ?_
 rintro e wn ⟨V, rfl, hV, bn, hR⟩
 refine ⟨V, rfl, bn, hR.mono ?_⟩
 rintro e w' ⟨hk, ⟨κ, av, tv, ab, hW⟩, kp⟩
 refine ⟨hk, (Below.keeps h.bel).then kp (fun i hi hh => ?_), ?_⟩
 ·rcases hh with hh | hh | hh | hh
  ·exact .inl hh
  ·exact .inr hh
  ·have := (h.hF _ hh).1
   omega
  ·have := (hFs _ hh).1
   omega
 ·have hb := hW.buf
  have e1 := mvA_hom.robin 99 ⟨List.replicate (8 * 32) 0, 0, [⟨some (.inl (q, PutC.init ⟨0, 64, 1, [111, 110, 101]⟩)), false⟩, ⟨some (.inr (SenM.init ⟨96, 64, 2, [116, 119, 111]⟩)), false⟩], 0, []⟩
  have e2 : mv1 = mapS mvAf (mvA.M.robin 99 ⟨List.replicate (8 * 32) 0, 0, [⟨some (.inl (q, PutC.init ⟨0, 64, 1, [111, 110, 101]⟩)), false⟩, ⟨some (.inr (SenM.init ⟨96, 64, 2, [116, 119, 111]⟩)), false⟩], 0, []⟩).1 := by
   show ((Mac.Sum putMac senMac).robin 99 mv0).1 = _
   exact (congrArg Prod.fst e1)
  rw [e2]
  exact hb
theorem mvOk_of {l : List (Ac mvB.M.σ)} (h : mvOk (l.map (mapA mvBf)) = true) : ∃ q0 g d0 q1 x d1, l = [⟨some (.inl (q0, g)), d0⟩, ⟨some (.inr (q1, x)), d1⟩] ∧ g.out = [(1, [111, 110, 101])] ∧ x.2.heard.map (·.2) = [(2, [116, 119, 111])] := by
 rcases l with _ | ⟨⟨m0, d0⟩, _ | ⟨⟨m1, d1⟩, _ | ⟨a, r⟩⟩⟩
 ·exact Bool.noConfusion (show false = true from h)
 ·rcases m0 with _ | (⟨q0, g⟩ | x) <;> exact Bool.noConfusion (show false = true from h)
 ·rcases m0 with _ | (⟨q0, g⟩ | x)
  ·exact Bool.noConfusion (show false = true from h)
  ·rcases m1 with _ | (y | ⟨q1, x⟩)
   ·exact Bool.noConfusion (show false = true from h)
   ·exact Bool.noConfusion (show false = true from h)
   ·have h : (decide (g.out = [(1, [111, 110, 101])]) && decide (x.2.heard.map (·.2) = [(2, [116, 119, 111])])) = true := h
    rw [Bool.and_eq_true] at h
    exact ⟨q0, g, d0, q1, x, d1, rfl, of_decide_eq_true h.1, of_decide_eq_true h.2⟩
  ·exact Bool.noConfusion (show false = true from h)
 ·rcases m0 with _ | (⟨q0, g⟩ | x) <;> rcases m1 with _ | (y | ⟨q1, z⟩) <;> exact Bool.noConfusion (show false = true from h)
theorem mvRunB {W : World} {Fg Fx : Nat → Prop} {qg qx g p c : Nat} (hB : Buf W p c mv1.cnt mv1.bs) (hg : GetF W Fg qg (GetC.init ⟨0, 64, 1⟩)) (hx : RelF W Fx qx (relC.start (⟨96, 64, ⟨0, 0, 0⟩, 1, [], 0⟩ : RelT))) (np : ¬ Fg p ∧ ¬ Fx p) (nc : ¬ Fg c ∧ ¬ Fx c) (dj : ∀ b, Fg b → ¬ Fx b) (hr : Blk W g [.iface 95 (ptr qg), .iface 43 (ptr qx)]) :
  Calls Tryz.prog 11 #[.pointer (some ⟨p, 0, none⟩), .slice (some ⟨g, 0, none⟩) 2 2] W fun e wn => ∃ V, e = .returned (.pointer (some ⟨V, 0, none⟩)) ∧ Below W.heap.size W wn ∧ Calls Tryz.prog 12 #[.pointer (some ⟨V, 0, none⟩), .int .i64 99] wn fun e w' => (∃ k, e = .returned (.int .i64 k)) ∧ (∃ Fg' Fx' gm xm, GetF w' Fg' qg gm ∧ RelF w' Fx' qx xm ∧ gm.out = [(1, [111, 110, 101])] ∧ xm.2.heard.map (·.2) = [(2, [116, 119, 111])]) ∧ Keep (fun i => i = p ∨ i = c ∨ Fg i ∨ Fx i) W w' := by
 have hf := mv_facts
 rw [Bool.and_eq_true, Bool.and_eq_true] at hf
 have h1 := of_decide_eq_true hf.1.1
 have h2 := of_decide_eq_true hf.1.2
 refine (duoRun mvB (s1 := .inl (qg, GetC.init ⟨0, 64, 1⟩)) (s2 := .inr (qx, relC.start (⟨96, 64, ⟨0, 0, 0⟩, 1, [], 0⟩ : RelT))) (F1 := Fg) (F2 := Fx) hB ⟨rfl, hg⟩ ⟨rfl, hx⟩ np nc dj hr 99 (by decide) h1 (by omega)).mono ?_
 rintro e wn ⟨V, rfl, hV, bn, hR⟩
 refine ⟨V, rfl, bn, hR.mono ?_⟩
 rintro e w' ⟨hk, ⟨κ, av, tv, ab, hW⟩, kp⟩
 refine ⟨hk, ?_, kp⟩
 obtain ⟨R, hRR⟩ : ∃ R, R = (mvB.M.robin 99 ⟨mv1.bs, mv1.cnt, [⟨some (.inl (qg, GetC.init ⟨0, 64, 1⟩)), false⟩, ⟨some (.inr (qx, relC.start (⟨96, 64, ⟨0, 0, 0⟩, 1, [], 0⟩ : RelT))), false⟩], 0, []⟩).1 := ⟨_, rfl⟩
 have e1 := mvB_hom.robin 99 ⟨mv1.bs, mv1.cnt, [⟨some (.inl (qg, GetC.init ⟨0, 64, 1⟩)), false⟩, ⟨some (.inr (qx, relC.start (⟨96, 64, ⟨0, 0, 0⟩, 1, [], 0⟩ : RelT))), false⟩], 0, []⟩
 have e2 : mv3 = mapS mvBf R := by
  rw [hRR]
  show ((Mac.Sum getMac relC.mac).robin 99 mv2).1 = _
  exact (congrArg Prod.fst e1)
 have e3 := robin_tags (M := mvB.M) (g := fun s => match s with | .inl x => x.1 | .inr x => x.1) (fun s x => match s with | .inl _ => rfl | .inr _ => rfl) 99 ⟨mv1.bs, mv1.cnt, [⟨some (.inl (qg, GetC.init ⟨0, 64, 1⟩)), false⟩, ⟨some (.inr (qx, relC.start (⟨96, 64, ⟨0, 0, 0⟩, 1, [], 0⟩ : RelT))), false⟩], 0, []⟩
 rw [← hRR] at e3 hW
 have hok := of_decide_eq_true hf.2
 rw [e2] at hok
 obtain ⟨q0, gm, d0, q1, xm, d1, hl, ho, hh⟩ := mvOk_of (l := R.acts) hok
 have ht : [some q0, some q1] = [some qg, some qx] := by
  have : tags (fun s : mvB.M.σ => match s with | .inl x => x.1 | .inr x => x.1) R = [some q0, some q1] := by
   unfold tags
   rw [hl]
   rfl
  rw [← this, e3]
  rfl
 have t0 : q0 = qg := by injection ht with a b; injection a
 have t1 : q1 = qx := by injection ht with a b; injection b with b c; injection b
 subst t0 t1
 obtain ⟨_, mv, _, r0, _, hi0⟩ := hW.act 0 ⟨some (.inl (q0, gm)), d0⟩ (by rw [hl]; rfl)
 obtain ⟨_, mv2, _, r1, _, hi1⟩ := hW.act 1 ⟨some (.inr (q1, xm)), d1⟩ (by rw [hl]; rfl)
 obtain ⟨j0, j1⟩ : r0 = q0 ∧ GetF w' (fun k => κ k = .ma 0) r0 gm := hi0
 obtain ⟨j2, j3⟩ : r1 = q1 ∧ RelF w' (fun k => κ k = .ma 1) r1 xm := hi1
 rw [j0] at j1
 rw [j2] at j3
 exact ⟨_, _, gm, xm, j1, j3, ho, hh⟩
end Go.Proofs.YtggjhleomocojaaGreat
