/- A hear, plain: what stays true of it; New. Conditions: as each says. -/
import Derived.Test.YtggjhleomocojaaGreatNn
namespace Go.Proofs.YtggjhleomocojaaGreat
set_option maxRecDepth 100000
open Go.RowKit
set_option linter.unusedVariables false
set_option linter.unusedSimpArgs false
def HeaM.pcOk (m : HeaM) : Prop := match m.pc with
 | .pv sz => m.pads = 0 ∧ 0 ≤ sz ∧ sz ≤ 8192
 | .rd _ _ p n hv => 0 ≤ p ∧ p + n ≤ 131072 ∧ 1 ≤ n ∧ (hv.length : Int) + 1000 * n ≤ 10000000
 | .bv _ _ l => l.length ≤ 10000000
 | _ => True
structure HeaM.fine (m : HeaM) : Prop where
 ok : m.live = true → rgOk m.b m.s = true
 fc : inU m.c
 pd : 0 ≤ m.pads ∧ m.pads ≤ 1
 pc : m.pcOk
 ml : m.msg.2.length ≤ 10000000
theorem HeaM.fine.init (b s : Int) (x : EarV) : (HeaM.init b s x).fine := by
 unfold HeaM.init
 by_cases h : rgOk b s = true
 ·rw [if_pos h]
  exact ⟨fun _ => h, u64_inU _, ⟨by show (0 : Int) ≤ 0; decide, by show (0 : Int) ≤ 1; decide⟩, trivial, by simp⟩
 ·rw [if_neg h]
  exact ⟨fun h => (by cases h), ⟨by show (0 : Int) ≤ 0; decide, by show (0 : Int) ≤ 18446744073709551615; decide⟩, ⟨by show (0 : Int) ≤ 0; decide, by show (0 : Int) ≤ 1; decide⟩, trivial, by simp⟩
variable {m : HeaM}
theorem HeaM.fine.lost (h : m.fine) : m.lost.fine := ⟨fun h => (by cases h), h.fc, h.pd, trivial, h.ml⟩
theorem HeaM.fine.place (hok : rgOk m.b m.s = true) : 0 ≤ m.b ∧ m.b + m.s ≤ 131040 ∧ 0 ≤ m.place ∧ m.place < m.s ∧ m.s ≤ 8192 := by
 obtain ⟨a1, a2, a3, a4, a5, a6⟩ := rgOk_bd hok
 have m1 := Int.emod_nonneg m.c (show m.s ≠ 0 by omega)
 have m2 := Int.emod_lt_of_pos m.c (show 0 < m.s by omega)
 unfold HeaM.place
 omega
theorem HeaM.fine.head (h : m.fine) (hl : m.live = true) (v : Int) : (m.head v).fine := by
 have hok := h.ok hl
 obtain ⟨p1, p2, p3, p4, p5⟩ := HeaM.fine.place hok
 have hpd := h.pd
 unfold HeaM.head
 by_cases h1 : loS v < 8 ∨ m.s - m.place < rsz (loS v)
 ·rw [if_pos h1]
  exact h.lost
 ·rw [if_neg h1]
  have hz : rsz (loS v) = (loS v + 7) / 8 * 8 := by unfold rsz; omega
  by_cases h2 : hiS v = -1
  ·rw [if_pos h2]
   by_cases h3 : 0 < m.pads ∨ rsz (loS v) < m.s - m.place
   ·rw [if_pos h3]
    exact h.lost
   ·rw [if_neg h3]
    exact ⟨fun _ => hok, h.fc, h.pd, ⟨by show m.pads = 0; omega, by omega, by omega⟩, h.ml⟩
  ·rw [if_neg h2]
   by_cases h3 : loS v - 8 < 1
   ·rw [if_pos h3]
    exact ⟨fun _ => hok, h.fc, h.pd, by show ([] : List Int).length ≤ 10000000; simp, h.ml⟩
   ·rw [if_neg h3]
    exact ⟨fun _ => hok, h.fc, h.pd, ⟨by omega, by omega, by omega, by simp; omega⟩, h.ml⟩
theorem HeaM.fine.step (h : m.fine) {x : AN} (hx : inU x.v) (hxb : x.b.length ≤ 1000) : (m.step x).fine := by
 have h1 := h.ok
 have h2 := h.fc
 have h3 := h.pd
 have h4 := h.pc
 have h5 := h.ml
 obtain ⟨b, s, pc, cu, nx, la, c, pads, msg, heard, e⟩ := m
 cases pc with
 | done => exact h
 | tl =>
  have hok := h1 rfl
  simp only [HeaM.step]
  split
  ·exact ⟨fun h => (by cases h), h2, h3, trivial, h5⟩
  ·exact ⟨fun _ => hok, h2, h3, trivial, h5⟩
 | va =>
  have hok := h1 rfl
  simp only [HeaM.step]
  split
  ·exact ⟨fun _ => hok, h2, h3, trivial, h5⟩
  ·exact ⟨fun _ => hok, h2, h3, trivial, h5⟩
 | lt => exact ⟨fun _ => h1 rfl, hx, h3, trivial, h5⟩
 | hd => exact h.head rfl x.v
 | pv sz =>
  have hok := h1 rfl
  obtain ⟨q1, q2, q3⟩ := h4
  dsimp only at q1
  simp only [HeaM.step]
  split
  ·exact h.lost
  ·exact ⟨fun _ => hok, u64_inU _, ⟨by show 0 ≤ pads + 1; omega, by show pads + 1 ≤ 1; omega⟩, trivial, h5⟩
 | rd sz typ p n hv =>
  have hok := h1 rfl
  obtain ⟨q1, q2, q3, q4⟩ := h4
  simp only [HeaM.step]
  split
  ·exact ⟨fun _ => hok, h2, h3, by show (hv ++ x.b).length ≤ 10000000; rw [List.length_append]; omega, h5⟩
  ·exact ⟨fun _ => hok, h2, h3, ⟨by omega, by omega, by omega, by rw [List.length_append]; omega⟩, h5⟩
 | bv sz typ l =>
  simp only [HeaM.step]
  split
  ·exact h.lost
  ·exact ⟨fun h => (by cases h), h2, h3, trivial, h4⟩
theorem HeaM.fine.wf (h : m.fine) : m.want.wf := by
 have u0 : inU 0 := ⟨by omega, by omega⟩
 obtain ⟨b, s, pc, cu, nx, la, c, pads, msg, heard, e⟩ := m
 cases pc <;> exact ⟨IsB.nil, by simp [HeaM.want, aaZ], u0.1, u0.2, u0.1, u0.2⟩
theorem HeaM.want_small (h : m.want.k = 5) : m.want.n ≤ 8 := by
 obtain ⟨b, s, pc, cu, nx, la, c, pads, msg, heard, e⟩ := m
 cases pc with
 | rd sz typ p n hv => show min n 8 ≤ 8; omega
 | _ => simp [HeaM.want, aaZ] at h
theorem hea_xan {x : AN} (hx : AN.ok m.want x) : inU x.v ∧ x.b.length ≤ 1000 := by
 refine ⟨⟨hx.v0, hx.v1⟩, ?_⟩
 by_cases hk : m.want.k = 5
 ·have h1 := hx.rd hk
  have h2 : m.want.n ≤ 8 := HeaM.want_small hk
  omega
 ·rw [hx.no hk]
  simp
def HeaNew (w w' : World) (q : Nat) (m : HeaM) : Prop := w.heap.size ≤ q ∧ q < w'.heap.size ∧ (∃ O R mv, HeaI w' O R q m mv ∧ ∀ i, O i ∨ R i → w.heap.size ≤ i) ∧ Below w.heap.size w w'
set_option maxHeartbeats 4000000 in
theorem hNew_any (b s : Int) (x : EarV) (w : World) (hb0 : -9223372036854775808 ≤ b) (hb1 : b ≤ 9223372036854775807) (hs0 : -9223372036854775808 ≤ s) (hs1 : s ≤ 9223372036854775807) :
  Calls Tryz.prog 82 #[.agg #[.int .i64 b, .int .i64 s], .agg #[.int .i64 x.cu, .int .i64 x.nx, .int .i64 x.la]] w fun e w' => ∃ q, e = .returned (.pointer (some ⟨q, 0, none⟩)) ∧ HeaNew w w' q (HeaM.init b s x) := by
 obtain ⟨cu, nx, la⟩ := x
 dsimp only
 have W1 : IntKind.u64.wrap nx = u64 nx := wrap_u64' _
 go_enter Tryz.func82, Tryz.ntmps82
 go_upto_region 2 with fail
 obtain ⟨w4, hw4⟩ : ∃ w4, w4 = (((w.alloc (.cells #[.int .i64 b, .int .i64 s] 25)).alloc (.cells #[.int .i64 cu, .int .i64 nx, .int .i64 la] 46)).alloc (.cells #[.int .i64 0, .int .i64 0, .int .i64 0, .int .u64 0, .int .u64 0, .slice none 0 0, .nilFunc, .int .i64 b, .int .i64 s, .int .i64 cu, .int .i64 nx, .int .i64 la, .int .u64 0, .int .i64 0, .int .i32 0, .slice none 0 0, .bool false, .int .i64 10] 208)).alloc (.cells #[.pointer (some ⟨w.heap.size + 1 + 1, 0, none⟩)] 125) := ⟨_, rfl⟩
 have bb4 : Below w.heap.size w w4 := by rw [hw4]; go_grown
 have xh : Mch w4 (w.heap.size + 1 + 1) accZ .nilFunc ((⟨b, s, .done, cu, nx, la, 0, 0, (0, []), false, 10⟩ : HeaM).rest (.slice none 0 0)) := by
  rw [hw4]
  have := (Blk.made ((w.alloc (.cells #[.int .i64 b, .int .i64 s] 25)).alloc (.cells #[.int .i64 cu, .int .i64 nx, .int .i64 la] 46)) #[.int .i64 0, .int .i64 0, .int .i64 0, .int .u64 0, .int .u64 0, .slice none 0 0, .nilFunc, .int .i64 b, .int .i64 s, .int .i64 cu, .int .i64 nx, .int .i64 la, .int .u64 0, .int .i64 0, .int .i32 0, .slice none 0 0, .bool false, .int .i64 10] 208).alloc (.cells #[.pointer (some ⟨w.heap.size + 1 + 1, 0, none⟩)] 125)
  have e : ((w.alloc (.cells #[.int .i64 b, .int .i64 s] 25)).alloc (.cells #[.int .i64 cu, .int .i64 nx, .int .i64 la] 46)).heap.size = w.heap.size + 1 + 1 := by simp
  rw [e] at this
  exact this
 have xr : Blk w4 w.heap.size [.int .i64 b, .int .i64 s] := by
  rw [hw4]
  exact (((Blk.made w #[.int .i64 b, .int .i64 s] 25).alloc _).alloc _).alloc _
 have xe : Blk w4 (w.heap.size + 1) [.int .i64 cu, .int .i64 nx, .int .i64 la] := by
  rw [hw4]
  have := ((Blk.made (w.alloc (.cells #[.int .i64 b, .int .i64 s] 25)) #[.int .i64 cu, .int .i64 nx, .int .i64 la] 46).alloc (.cells #[.int .i64 0, .int .i64 0, .int .i64 0, .int .u64 0, .int .u64 0, .slice none 0 0, .nilFunc, .int .i64 b, .int .i64 s, .int .i64 cu, .int .i64 nx, .int .i64 la, .int .u64 0, .int .i64 0, .int .i32 0, .slice none 0 0, .bool false, .int .i64 10] 208)).alloc (.cells #[.pointer (some ⟨w.heap.size + 1 + 1, 0, none⟩)] 125)
  simpa using this
 have xp : Blk w4 (w.heap.size + 1 + 1 + 1) [ptr (w.heap.size + 1 + 1)] := by
  rw [hw4]
  have := Blk.made (((w.alloc (.cells #[.int .i64 b, .int .i64 s] 25)).alloc (.cells #[.int .i64 cu, .int .i64 nx, .int .i64 la] 46)).alloc (.cells #[.int .i64 0, .int .i64 0, .int .i64 0, .int .u64 0, .int .u64 0, .slice none 0 0, .nilFunc, .int .i64 b, .int .i64 s, .int .i64 cu, .int .i64 nx, .int .i64 la, .int .u64 0, .int .i64 0, .int .i32 0, .slice none 0 0, .bool false, .int .i64 10] 208)) #[ptr (w.heap.size + 1 + 1)] 125
  simpa [ptr] using this
 have z4 : w4.heap.size = w.heap.size + 1 + 1 + 1 + 1 := by rw [hw4]; simp
 rw [← hw4]
 clear hw4
 obtain ⟨q, hq⟩ : ∃ q, q = w.heap.size + 1 + 1 := ⟨_, rfl⟩
 obtain ⟨rb, hrb⟩ : ∃ rb, rb = w.heap.size := ⟨_, rfl⟩
 obtain ⟨eb, heb⟩ : ∃ eb, eb = w.heap.size + 1 := ⟨_, rfl⟩
 obtain ⟨pb, hpb⟩ : ∃ pb, pb = w.heap.size + 1 + 1 + 1 := ⟨_, rfl⟩
 have HQ := Lib.hid (And.intro hq (And.intro hrb (And.intro heb (And.intro hpb z4))))
 rw [← hpb, ← hq] at xp
 rw [← hq] at xh
 rw [← hrb] at xr
 rw [← heb] at xe
 have nq : pb ≠ q := by omega
 have lq4 : q < w4.heap.size := by omega
 have lp4 : pb < w4.heap.size := by omega
 have le4 : eb < w4.heap.size := by omega
 have lr4 : rb < w4.heap.size := by omega
 have XH := Lib.hid xh
 have XP := Lib.hid xp
 have XE := Lib.hid xe
 have r0 := xr.cell 0
 have r1 := xr.cell 1
 simp only [List.getElem?_cons_zero, List.getElem?_cons_succ] at r0 r1
 rw [← hpb, ← hq, ← heb, ← hrb]
 have BB4 := Lib.hid bb4
 clear hq hrb heb hpb z4 xh xr xp xe bb4
 by_cases hg : rgOk b s = true
 ·have hE : rgE b s = 0 := if_pos hg
  have hI : HeaM.init b s ⟨cu, nx, la⟩ = ⟨b, s, .tl, cu, nx, la, u64 nx, 0, (0, []), false, 10⟩ := if_pos hg
  have RG := Lib.hid hE
  have HI := Lib.hid hI
  obtain ⟨a1, a2, a3, a4, a5, a6⟩ := rgOk_bd hg
  have HG := Lib.hid hg
  have W8 : IntKind.i64.wrap (b + s + 8) = b + s + 8 := IntWalk.i64_in _ ⟨by omega, by omega⟩
  clear hg hE hI a1
  go_wp2_with fail
  refine (rCheck_any b s _ hb0 hb1 hs0 hs1).mono ?_
  rintro e w5 ⟨rfl, b5⟩
  rw [RG.out]
  have z5 := b5.size
  have H5 := Lib.hid (show HeaW w5 (· = pb) (fun _ => False) q ⟨b, s, .done, cu, nx, la, 0, 0, (0, []), false, 10⟩ (.slice none 0 0) from ⟨Blk.below XH.out b5 lq4, .inl ⟨rfl, rfl⟩, fun i hi => (by cases hi), fun e => nq e.symm, id, fun _ _ => id, fun i hi => (by rcases hi with hi | hi; have hi : i = pb := hi; omega; exact hi.elim), HG.out, ⟨by show (0 : Int) ≤ 0; decide, by show (0 : Int) ≤ 18446744073709551615; decide⟩, ⟨by show (0 : Int) ≤ 0; decide, by show (0 : Int) ≤ 1; decide⟩⟩)
  have P5 := Lib.hid (XP.out.below b5 lp4)
  have E5 := XE.out.below b5 le4
  have p5 := P5.out.cell 0
  have e5 := E5.cell 1
  have d12 := (hea_cells H5.out.mch).2.2.2.2.2.1
  have g12 := Blk.frozen H5.out.mch 12
  have lq5 : q < w5.heap.size := by omega
  simp only [List.getElem?_cons_zero, List.getElem?_cons_succ, ptr] at p5 e5
  dsimp only at d12
  have B5 := Lib.hid (BB4.out.trans (b5.mono (by have := BB4.out.size; omega)))
  clear E5 b5 r0 r1
  go_upto_region 6 with fail
  obtain ⟨w6, hw6⟩ : ∃ w6, w6 = w5.setCell ⟨q, 12, none⟩ (.int .u64 (u64 nx)) := ⟨_, rfl⟩
  have k6 : Keep (· = q) w5 w6 := by
   rw [hw6]
   exact (Keep.refl (fun i => i = q) w5).setCell (p := ⟨q, 12, none⟩) (.inl rfl) _
  have H6 := Lib.hid (show HeaW w6 (· = pb) (fun _ => False) q ⟨b, s, .done, cu, nx, la, u64 nx, 0, (0, []), false, 10⟩ (.slice none 0 0) by
   rw [hw6]
   exact H5.out.put (m' := ⟨b, s, .done, cu, nx, la, u64 nx, 0, (0, []), false, 10⟩) 12 _ rfl rfl rfl rfl (u64_inU _) H5.out.pd)
  have P6 := Lib.hid (P5.out.keep k6 nq)
  have p6 := P6.out.cell 0
  simp only [List.getElem?_cons_zero, ptr] at p6
  have l6 := P6.out.lt
  have K6 := Lib.hid k6
  rw [← hw6]
  clear hw6 k6 p5 d12 g12
  go_region_held3 (fun w' => w'.cell? ⟨pb, 0, none⟩ = some (.pointer (some ⟨q, 0, none⟩))) (first | go_keep | trivial)
   (first
    | (go_at_call 116; refine (hEnd_any _ H6.out.drew).mono ?_; rintro e w7 ⟨rfl, b7⟩; dsimp only; have hd7 := fun o => b7.cell (p := ⟨pb, o, none⟩) (by simpa using l6))
    | (go_at_call 36; refine (cLoad_any q _ _ _ (b + s + 8) 8 _ _ _ ((H6.out.drew).below b7).mch).mono ?_; rintro e w8 ⟨rfl, t8, m8, l8, k8⟩; have hd0 := fun o => k8.cell (b := pb) o (by have := b7.size; simp at this; omega) nq))
  all_goals
   have z7 := b7.size
   have z8 := k8.size
   have z6 := K6.out.size
   simp at z7
   clear hd7
   have p8 := (hd0 0).trans ((b7.cell (p := ⟨pb, 0, none⟩) (by simpa using l6)).trans p6)
   clear hd0
   go_wp2
   go_ret
   have K8 : Keep (· = q) w6 w8 := (((Keep.refl (· = q) w6).drew).trans (Below.keeps b7)).trans k8
   have hto := HeaTo.made (m := ⟨b, s, .tl, cu, nx, la, u64 nx, 0, (0, []), false, 10⟩) (H6.out.c .tl) K8 (by nofun) (t := t8) m8 ⟨_, l8.mono (fun i hi => .inr ⟨by omega, hi.2⟩), Clo.mk1 (((P6.out.drew).below b7 (by simpa using l6)).keep k8 nq) (.inl rfl)⟩
   obtain ⟨O', R', mv', hI', hs', k'⟩ := hto
   obtain ⟨x1, x2, x3, x4, x5⟩ := HQ.out
   have kB : Below w.heap.size w5 w8 := (K6.out.then K8 (fun i _ e => e)).below (by omega) (fun i hi e => by have e : i = q := e; omega)
   refine ⟨q, rfl, by omega, by omega, ⟨O', R', mv', by rw [HI.out]; exact hI', fun i hi => ?_⟩, B5.out.trans kB⟩
   rcases hs' i hi with h | h | h
   ·have h : i = pb := h
    omega
   ·exact h.elim
   ·omega
 ·have hE : rgE b s = 1 := if_neg hg
  have hI : HeaM.init b s ⟨cu, nx, la⟩ = ⟨b, s, .done, cu, nx, la, 0, 0, (0, []), false, 1⟩ := if_neg hg
  have RG := Lib.hid hE
  have HI := Lib.hid hI
  clear hg hE hI
  go_wp2_with fail
  refine (rCheck_any b s _ hb0 hb1 hs0 hs1).mono ?_
  rintro e w5 ⟨rfl, b5⟩
  rw [RG.out]
  have z5 := b5.size
  have H5 := Lib.hid (Blk.below XH.out b5 lq4)
  have P5 := Lib.hid (XP.out.below b5 lp4)
  have p5 := P5.out.cell 0
  have d17 := (hea_cells (m := ⟨b, s, .done, cu, nx, la, 0, 0, (0, []), false, 10⟩) H5.out).2.2.2.2.2.2.2.2.2.2
  have g17 := Blk.frozen H5.out 17
  have lq5 : q < w5.heap.size := by omega
  simp only [List.getElem?_cons_zero, List.getElem?_cons_succ, ptr] at p5
  dsimp only at d17
  have B5 := Lib.hid (BB4.out.trans (b5.mono (by have := BB4.out.size; omega)))
  clear b5 r0 r1
  go_wp2
  go_ret
  obtain ⟨x1, x2, x3, x4, x5⟩ := HQ.out
  refine ⟨q, rfl, by omega, by simpa using lq5, ⟨fun _ => False, fun _ => False, .slice none 0 0, ?_, fun i hi => hi.elim False.elim False.elim⟩, B5.out.setCell (p := ⟨q, 17, none⟩) (by show w.heap.size ≤ q; omega) _⟩
  rw [HI.out]
  exact ⟨HeaAt.made (by nofun) (t := .nilFunc) (Blk.set H5.out 17 (.int .i64 1)) rfl, .inl ⟨rfl, rfl⟩, fun i hi => (by cases hi), id, id, fun _ h => h.elim, fun i hi => hi.elim False.elim False.elim⟩
end Go.Proofs.YtggjhleomocojaaGreat
