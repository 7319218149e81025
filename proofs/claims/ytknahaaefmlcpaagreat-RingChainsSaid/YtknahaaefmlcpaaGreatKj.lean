/- The state of a machine that writes bytes in parts; what Take makes of it. Conditions: as each says. -/
import Derived.Test.YtknahaaefmlcpaaGreatKi
import Derived.Shelf.Abstract
namespace Go.Proofs.YtknahaaefmlcpaaGreat
set_option maxRecDepth 100000
open Go.RowKit
set_option linter.unusedVariables false
set_option linter.unusedSimpArgs false
theorem enIn (args : Array Value) (w : World) : (callFunc 190 args).run Tryz.prog w = .ok (.enter 190 args) w :=
 enters_of Tryz.func190 (by kernel_rfl) rfl args w
def InSt (w : World) (O : Nat → Prop) (q : Nat) (at0 : Int) (l : List Int) (f0 : Value) (r : List Value) : Prop :=
 ∃ (b off cap n : Nat) (t : Value), Mch w q ⟨6, at0, n, 0, 0, .slice (some ⟨b, off, none⟩) n n⟩ t r ∧ n = min l.length 8 ∧ l.length ≠ 0 ∧ l.length ≤ cap ∧ cap ≤ maxLen ∧ InK w O t q at0 n (.slice (some ⟨b, off, none⟩) l.length cap) f0 ∧ O b ∧
  ∀ i, i < l.length → w.cell? ⟨b, off + i, none⟩ = some (.int .u8 (gB l i))
theorem InSt.keep {w w' : World} {O M : Nat → Prop} {q : Nat} {a : Int} {l : List Int} {f0 : Value} {r : List Value} (h : InSt w O q a l f0 r) (k : Keep M w w') (hd : ∀ i, O i → ¬ M i) (hq : ¬ M q) : InSt w' O q a l f0 r := by
 obtain ⟨b, off, cap, n, t, h1, h2, h3, h4, h5, h6, h7, h8⟩ := h
 exact ⟨b, off, cap, n, t, Blk.keep h1 k hq, h2, h3, h4, h5, h6.keep k hd, h7, fun i hi => by rw [k.cell _ (World.block_lt_of_cell? w _ (h8 i hi)) (hd _ h7)]; exact h8 i hi⟩
theorem InSt.mono {w : World} {O O' : Nat → Prop} {q : Nat} {a : Int} {l : List Int} {f0 : Value} {r : List Value} (h : InSt w O q a l f0 r) (hd : ∀ i, O i → O' i) : InSt w O' q a l f0 r := by
 obtain ⟨b, off, cap, n, t, h1, h2, h3, h4, h5, h6, h7, h8⟩ := h
 exact ⟨b, off, cap, n, t, h1, h2, h3, h4, h5, h6.mono hd, hd _ h7, h8⟩
theorem cIn_st (q : Nat) (c : Acc) (t : Value) (r : List Value) (at0 : Int) (b off cap : Nat) (l : List Int) (g : Nat) (gc : Array Value) (w : World) (O : Nat → Prop) (h : Mch w q c t r) (hl0 : l.length ≠ 0) (hl : l.length ≤ 131072) (hc : l.length ≤ cap) (hcm : cap ≤ maxLen) (hO : O b) (hbq : b ≠ q)
  (hcell : ∀ i, i < l.length → w.cell? ⟨b, off + i, none⟩ = some (.int .u8 (gB l i))) :
  Calls Tryz.prog 177 #[.pointer (some ⟨q, 0, none⟩), .int .i64 at0, .slice (some ⟨b, off, none⟩) l.length cap, .func (.func g) #[] gc] w fun e w' =>
   e = .returned (.tuple #[]) ∧ InSt w' (fun k => O k ∨ (w.heap.size ≤ k ∧ k < w'.heap.size)) q at0 l (.func (.func g) #[] gc) r ∧ Keep (· = q) w w' := by
 refine (cIn_more q c t r at0 b off cap l g gc w h hl0 hl hc).mono ?_
 rintro e w' ⟨rfl, n, t', hn, m, hk, k⟩
 refine ⟨rfl, ⟨b, off, cap, n, t', m, hn, hl0, hc, hcm, hk.mono fun i hi => .inr hi, .inl hO, fun i hi => ?_⟩, k⟩
 rw [k.cell _ (World.block_lt_of_cell? w _ (hcell i hi)) hbq]
 exact hcell i hi
theorem inTake_more (O : Nat → Prop) (q : Nat) (at0 : Int) (l : List Int) (g : Nat) (gc : Array Value) (r : List Value) (v : Int) (d : Bool) (s0 : Option Addr) (sl sc : Nat) (w : World) (h : InSt w O q at0 l (.func (.func g) #[] gc) r) (hO : ¬ O q) (h8 : 8 < l.length) (hl : l.length ≤ 131072)
  (ha : -2305843009213693952 ≤ at0) (ha' : at0 ≤ 2305843009213693952) :
  Calls Tryz.prog 71 #[.pointer (some ⟨q, 0, none⟩), .agg #[.int .u64 v, .bool d, .slice s0 sl sc]] w fun e w' =>
   e = .returned (.tuple #[]) ∧ InSt w' (fun k => O k ∨ (w.heap.size ≤ k ∧ k < w'.heap.size)) q (at0 + 8) (l.drop 8) (.func (.func g) #[] gc) r ∧ Keep (· = q) w w' := by
 obtain ⟨b, off, cap, n, t, m, hn, hl0, hc, hcm, ⟨cb, ab, nb, bb, tb, rfl, k0, k1, k2, k3, k4, o0, o1, o2, o3, o4⟩, ob, hcell⟩ := h
 obtain rfl : n = 8 := by omega
 have nq : ∀ i, O i → ¬ i = q := fun i hi e => hO (e ▸ hi)
 refine cTake_any q _ _ _ r v d s0 sl sc w m (fun w1 => enIn _ w1) (fun w' => InSt w' (fun k => O k ∨ (w.heap.size ≤ k ∧ k < w'.heap.size)) q (at0 + 8) (l.drop 8) (.func (.func g) #[] gc) r ∧ Keep (· = q) w w') ?_
 intro w1 m1 kp1
 have z1 := kp1.size
 refine (cInK_more q at0 8 b off cap l.length g gc v d s0 sl sc cb ab nb bb tb w1 (k0.keep kp1 (nq _ o0)) (k1.keep kp1 (nq _ o1)) (k2.keep kp1 (nq _ o2)) (k3.keep kp1 (nq _ o3)) (k4.keep kp1 (nq _ o4)) ha ha' (by omega) h8 hc hl
  (fun w' => InSt w' (fun k => O k ∨ (w.heap.size ≤ k ∧ k < w'.heap.size)) q (at0 + 8) (l.drop 8) (.func (.func g) #[] gc) r) (· = q) ⟨nq _ o0, nq _ o1, nq _ o2, nq _ o3, nq _ o4⟩ ?_).mono ?_
 ·intro w2 b2
  have hl8 : (l.drop 8).length = l.length - 8 := by simp
  have z2 := b2.size
  have hcell2 : ∀ i, i < (l.drop 8).length → w2.cell? ⟨b, off + 8 + i, none⟩ = some (.int .u8 (gB (l.drop 8) i)) := by
   intro i hi
   have hx := hcell (8 + i) (by omega)
   have hlt := World.block_lt_of_cell? w _ hx
   rw [b2.cell (p := ⟨b, off + 8 + i, none⟩) (by show b < w1.heap.size; have : b < w.heap.size := hlt; omega), Nat.add_assoc, kp1.cell _ hlt (nq _ ob), hx]
   simp [gB, List.getD]
  have := cIn_st q accZ .nilFunc r (at0 + 8) b (off + 8) (cap - 8) (l.drop 8) g gc w2 O (Blk.below m1 b2 m1.lt) (by omega) (by omega) (by omega) (by omega) ob (nq _ ob) hcell2
  rw [hl8] at this
  refine this.mono ?_
  rintro e w' ⟨rfl, hs, hk⟩
  exact ⟨rfl, hs.mono (fun i hi => by rcases hi with hi | hi; exact .inl hi; exact .inr ⟨by omega, hi.2⟩), hk⟩
 ·rintro e w' ⟨rfl, hs, hk⟩
  exact ⟨rfl, hs, kp1.trans hk⟩
theorem inTake_last (O : Nat → Prop) (q : Nat) (at0 : Int) (l : List Int) (g : Nat) (gc : Array Value) (r : List Value) (v : Int) (d : Bool) (s0 : Option Addr) (sl sc : Nat) (w : World) (h : InSt w O q at0 l (.func (.func g) #[] gc) r) (hO : ¬ O q) (h8 : l.length ≤ 8)
  (ha : -2305843009213693952 ≤ at0) (ha' : at0 ≤ 2305843009213693952) (hen : ∀ w1, (callFunc g gc).run Tryz.prog w1 = .ok (.enter g gc) w1) (Q : World → Prop) (M : Nat → Prop) (hMq : M q) (hM : ∀ i, O i → ¬ M i)
  (hF : ∀ w1, Mch w1 q accZ .nilFunc r → Keep (· = q) w w1 → Calls Tryz.prog g gc w1 fun e w' => e = .returned (.tuple #[]) ∧ Q w' ∧ Keep M w1 w') :
  Calls Tryz.prog 71 #[.pointer (some ⟨q, 0, none⟩), .agg #[.int .u64 v, .bool d, .slice s0 sl sc]] w fun e w' =>
   e = .returned (.tuple #[]) ∧ Q w' ∧ Keep M w w' := by
 obtain ⟨b, off, cap, n, t, m, hn, hl0, hc, hcm, ⟨cb, ab, nb, bb, tb, rfl, k0, k1, k2, k3, k4, o0, o1, o2, o3, o4⟩, ob, hcell⟩ := h
 obtain rfl : n = l.length := by omega
 have nq : ∀ i, O i → ¬ i = q := fun i hi e => hO (e ▸ hi)
 refine cTake_any q _ _ _ r v d s0 sl sc w m (fun w1 => enIn _ w1) (fun w' => Q w' ∧ Keep M w w') ?_
 intro w1 m1 kp1
 have z1 := kp1.size
 refine (cInK_last q at0 l.length b off cap l.length g gc v d s0 sl sc cb ab nb bb tb w1 (k0.keep kp1 (nq _ o0)) (k1.keep kp1 (nq _ o1)) (k2.keep kp1 (nq _ o2)) (k3.keep kp1 (nq _ o3)) (k4.keep kp1 (nq _ o4)) ha ha' h8 rfl hc (by omega)
  Q M ⟨hM _ o0, hM _ o1, hM _ o2, hM _ o3, hM _ o4⟩ ?_).mono ?_
 ·intro w2 a1 c1' b2
  refine (cIn_end q (at0 + l.length) a1 c1' g gc w2 hen (fun w' => Q w' ∧ Keep M w2 w') ?_).mono ?_
  ·intro w3 b3
   exact hF w3 (Blk.below (Blk.below m1 b2 m1.lt) b3 (by have := Blk.lt (Blk.below m1 b2 m1.lt); exact this)) ((kp1.trans (Below.keeps b2)).trans (Below.keeps b3)) |>.mono fun e w' ⟨h1, h2, h3⟩ => ⟨h1, h2, (Below.keeps b3).trans h3⟩
  ·rintro e w' ⟨rfl, hQ, hk⟩
   exact ⟨rfl, hQ, hk⟩
 ·rintro e w' ⟨rfl, hQ, hk⟩
  exact ⟨rfl, hQ, (kp1.mono (fun _ _ e => e ▸ hMq)).trans hk⟩
end Go.Proofs.YtknahaaefmlcpaaGreat
