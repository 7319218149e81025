/- A hear in memory: its block, its closures; end, place, lost. Conditions: as each says. -/
import Derived.Test.YtggjhleomocojaaGreatUa
import Derived.Test.YtggjhleomocojaaGreatGi
namespace Go.Proofs.YtggjhleomocojaaGreat
set_option maxRecDepth 100000
open Go.RowKit
set_option linter.unusedVariables false
set_option linter.unusedSimpArgs false
def HeaM.rest (m : HeaM) (mv : Value) : List Value := [.int .i64 m.b, .int .i64 m.s, .int .i64 m.cu, .int .i64 m.nx, .int .i64 m.la, .int .u64 m.c, .int .i64 m.pads, .int .i32 m.msg.1, mv, .bool m.heard, .int .i64 m.e]
variable {w : World} {q : Nat} {m : HeaM}
theorem hea_cells {c : Acc} {t mv : Value} (h : Mch w q c t (m.rest mv)) :
  w.cell? ⟨q, 7, none⟩ = some (.int .i64 m.b) ∧ w.cell? ⟨q, 8, none⟩ = some (.int .i64 m.s) ∧ w.cell? ⟨q, 9, none⟩ = some (.int .i64 m.cu) ∧ w.cell? ⟨q, 10, none⟩ = some (.int .i64 m.nx) ∧ w.cell? ⟨q, 11, none⟩ = some (.int .i64 m.la) ∧ w.cell? ⟨q, 12, none⟩ = some (.int .u64 m.c) ∧ w.cell? ⟨q, 13, none⟩ = some (.int .i64 m.pads) ∧ w.cell? ⟨q, 14, none⟩ = some (.int .i32 m.msg.1) ∧ w.cell? ⟨q, 15, none⟩ = some mv ∧ w.cell? ⟨q, 16, none⟩ = some (.bool m.heard) ∧ w.cell? ⟨q, 17, none⟩ = some (.int .i64 m.e) :=
 ⟨Blk.cell h 7, Blk.cell h 8, Blk.cell h 9, Blk.cell h 10, Blk.cell h 11, Blk.cell h 12, Blk.cell h 13, Blk.cell h 14, Blk.cell h 15, Blk.cell h 16, Blk.cell h 17⟩
def hLost (q : Nat) : Value := .func (.func 142) #[ptr q] #[]
def HThen (w : World) (O : Nat → Prop) (q : Nat) (m : HeaM) (ev tv : Value) : Prop :=
 match m.pc with
 | .va => Clo w O ev 120 [ptr q] ∧ tv = .func (.func 119) #[ptr q] #[]
 | .pv sz => ev = hLost q ∧ Clo w O tv 143 [ptr q, .int .i64 sz]
 | .bv sz typ l => ev = hLost q ∧ ∃ bv, Clo w O tv 162 [ptr q, .int .i64 sz, .int .i32 typ, bv] ∧ RdB w bv l ∧ ∀ i, bv.ownBlock = some i → O i
 | _ => False
def HClo (w : World) (O : Nat → Prop) (q : Nat) (m : HeaM) (t : Value) : Prop :=
 match m.pc with
 | .done => t = .nilFunc
 | .tl => ∃ v1, Clo w O t 73 [v1] ∧ Clo w O v1 117 [ptr q]
 | .lt => ∃ v1, Clo w O t 73 [v1] ∧ Clo w O v1 121 [ptr q]
 | .hd => ∃ v1, Clo w O t 73 [v1] ∧ Clo w O v1 141 [ptr q]
 | .rd _ _ _ _ _ => False
 | _ => ∃ v1 ev tv, Clo w O t 73 [v1] ∧ Clo w O v1 139 [ptr q, ev, tv] ∧ HThen w O q m ev tv
def HeaAt (w : World) (O R : Nat → Prop) (q : Nat) (m : HeaM) (mv : Value) : Prop :=
 match m.pc with
 | .rd sz typ p n hv => ∃ t hvv fv, Mch w q m.want.acc t (m.rest mv) ∧ OuK w O t q p (min n 8) n hvv fv ∧ OwB 5 0 w hvv hv ∧ (∀ i, hvv.ownBlock = some i → R i) ∧ Clo w O fv 161 [ptr q, .int .i64 sz, .int .i32 typ]
 | _ => ∃ t, Mch w q m.want.acc t (m.rest mv) ∧ HClo w O q m t
theorem HThen.mono {O O' : Nat → Prop} {ev tv : Value} (h : HThen w O q m ev tv) (hd : ∀ i, O i → O' i) : HThen w O' q m ev tv := by
 unfold HThen at h ⊢
 split at h
 ·exact ⟨h.1.mono hd, h.2⟩
 ·exact ⟨h.1, h.2.mono hd⟩
 ·obtain ⟨h1, bv, h2, h3, h4⟩ := h
  exact ⟨h1, bv, h2.mono hd, h3, fun i hi => hd i (h4 i hi)⟩
 ·exact h
theorem HThen.keep {w w' : World} {O M : Nat → Prop} {ev tv : Value} (h : HThen w O q m ev tv) (k : Keep M w w') (hd : ∀ i, O i → ¬ M i) : HThen w' O q m ev tv := by
 unfold HThen at h ⊢
 split at h
 ·exact ⟨h.1.keep k hd, h.2⟩
 ·exact ⟨h.1, h.2.keep k hd⟩
 ·obtain ⟨h1, bv, h2, h3, h4⟩ := h
  exact ⟨h1, bv, h2.keep k hd, h3.keepP k (fun i hi => hd i (h4 i hi)), h4⟩
 ·exact h
theorem HClo.keep {w w' : World} {O M : Nat → Prop} {t : Value} (h : HClo w O q m t) (k : Keep M w w') (hd : ∀ i, O i → ¬ M i) : HClo w' O q m t := by
 unfold HClo at h ⊢
 split at h
 ·exact h
 ·obtain ⟨v1, h1, h2⟩ := h
  exact ⟨v1, h1.keep k hd, h2.keep k hd⟩
 ·obtain ⟨v1, h1, h2⟩ := h
  exact ⟨v1, h1.keep k hd, h2.keep k hd⟩
 ·obtain ⟨v1, h1, h2⟩ := h
  exact ⟨v1, h1.keep k hd, h2.keep k hd⟩
 ·exact h
 ·obtain ⟨v1, ev, tv, h1, h2, h3⟩ := h
  exact ⟨v1, ev, tv, h1.keep k hd, h2.keep k hd, h3.keep k hd⟩
variable {mv : Value}
theorem HeaAt.keep {w w' : World} {O R M : Nat → Prop} (h : HeaAt w O R q m mv) (k : Keep M w w') (hd : ∀ i, O i → ¬ M i) (hr : ∀ i, R i → ¬ M i) (hq : ¬ M q) : HeaAt w' O R q m mv := by
 unfold HeaAt at h ⊢
 split at h
 ·obtain ⟨t, hvv, fv, h1, h2, h3, h4, h5⟩ := h
  exact ⟨t, hvv, fv, Blk.keep h1 k hq, h2.keep k hd, ownsRow_keep h3 k (fun i hi => hr i (h4 i hi)), h4, h5.keep k hd⟩
 ·obtain ⟨t, h1, h2⟩ := h
  exact ⟨t, Blk.keep h1 k hq, h2.keep k hd⟩
variable {O R : Nat → Prop}
theorem HeaAt.mch (h : HeaAt w O R q m mv) : ∃ c t, Mch w q c t (m.rest mv) := by
 unfold HeaAt at h
 split at h
 ·obtain ⟨t, hvv, fv, h1, _⟩ := h
  exact ⟨_, _, h1⟩
 ·obtain ⟨t, h1, _⟩ := h
  exact ⟨_, _, h1⟩
theorem HeaAt.made {mv t : Value} (hpc : ∀ sz typ p n hv, m.pc ≠ .rd sz typ p n hv) (h : Mch w q m.want.acc t (m.rest mv)) (hc : HClo w O q m t) : HeaAt w O R q m mv := by
 unfold HeaAt
 split
 ·rename_i sz typ p n hv e
  exact absurd e (hpc sz typ p n hv)
 ·exact ⟨t, h, hc⟩
structure HeaW (w : World) (O R : Nat → Prop) (q : Nat) (m : HeaM) (mv : Value) : Prop where
 mch : Mch w q accZ .nilFunc (m.rest mv)
 rd : RdB w mv m.msg.2
 ob : ∀ i, mv.ownBlock = some i → O i
 nqo : ¬ O q
 nqr : ¬ R q
 dj : ∀ i, O i → ¬ R i
 lo : ∀ i, O i ∨ R i → i < w.heap.size
 ok : rgOk m.b m.s = true
 fc : inU m.c
 pd : 0 ≤ m.pads ∧ m.pads ≤ 1
structure HeaI (w : World) (O R : Nat → Prop) (q : Nat) (m : HeaM) (mv : Value) : Prop where
 at_ : HeaAt w O R q m mv
 rd : RdB w mv m.msg.2
 ob : ∀ i, mv.ownBlock = some i → O i
 nqo : ¬ O q
 nqr : ¬ R q
 dj : ∀ i, O i → ¬ R i
 lo : ∀ i, O i ∨ R i → i < w.heap.size
def HeaTo (w : World) (O R : Nat → Prop) (q : Nat) (m : HeaM) (w' : World) : Prop := ∃ O' R' mv', HeaI w' O' R' q m mv' ∧ (∀ i, O' i ∨ R' i → O i ∨ R i ∨ w.heap.size ≤ i) ∧ Keep (fun i => i = q ∨ R i) w w'
theorem HeaTo.from {w w1 w' : World} {O O1 R R1 : Nat → Prop} (h : HeaTo w1 O1 R1 q m w') (k : Keep (fun i => i = q ∨ R i) w w1) (hO : ∀ i, O1 i → O i ∨ R i ∨ w.heap.size ≤ i) (hR : ∀ i, R1 i → R i ∨ w.heap.size ≤ i) : HeaTo w O R q m w' := by
 obtain ⟨O', R', mv', hI, hs, k'⟩ := h
 refine ⟨O', R', mv', hI, fun i hi => ?_, k.then k' (fun i hi h => ?_)⟩
 ·rcases hs i hi with h | h | h
  ·exact hO i h
  ·rcases hR i h with h | h
   ·exact .inr (.inl h)
   ·exact .inr (.inr h)
  ·exact .inr (.inr (Nat.le_trans k.size h))
 ·rcases h with h | h
  ·exact .inl h
  ·rcases hR i h with h | h
   ·exact .inr h
   ·omega
theorem HeaTo.after {w w1 w' : World} (h : HeaTo w1 O R q m w') (k : Keep (fun i => i = q ∨ R i) w w1) : HeaTo w O R q m w' := h.from k (fun i hi => .inl hi) (fun i hi => .inl hi)
theorem HeaW.lt (h : HeaW w O R q m mv) : q < w.heap.size := Blk.lt h.mch
theorem HeaW.keep {w w' : World} {O R M : Nat → Prop} (h : HeaW w O R q m mv) (k : Keep M w w') (hd : ∀ i, O i → ¬ M i) (hq : ¬ M q) : HeaW w' O R q m mv :=
 ⟨Blk.keep h.mch k hq, h.rd.keepP k (fun i hi => hd i (h.ob i hi)), h.ob, h.nqo, h.nqr, h.dj, fun i hi => Nat.lt_of_lt_of_le (h.lo i hi) k.size, h.ok, h.fc, h.pd⟩
theorem HeaW.below {w w' : World} (h : HeaW w O R q m mv) (b : Below w.heap.size w w') : HeaW w' O R q m mv := h.keep (M := fun _ => False) (Below.keeps b) (fun _ _ => id) id
theorem HeaW.drew (h : HeaW w O R q m mv) : HeaW w.drew O R q m mv := h.below (bel_drewN 1 (Below.refl _ _))
theorem HeaW.bd (h : HeaW w O R q m mv) :
  (m.s = 64 ∨ m.s = 128 ∨ m.s = 256 ∨ m.s = 512 ∨ m.s = 1024 ∨ m.s = 2048 ∨ m.s = 4096 ∨ m.s = 8192) ∧ isP m.s = true ∧ 64 ≤ m.s ∧ m.s ≤ 8192 ∧ 0 ≤ m.b ∧ m.b ≤ 131040 - m.s := by
 obtain ⟨a1, a2, a3, a4, a5, a6⟩ := rgOk_bd h.ok
 exact ⟨rg_pow a1 a2 a3, a1, a2, a3, a4, a6⟩
theorem HeaW.put {m m' : HeaM} (h : HeaW w O R q m mv) (i : Nat) (u : Value) (hb : m'.b = m.b) (hs : m'.s = m.s) (hg : m'.msg = m.msg) (hm : (accZ.cs ++ Value.nilFunc :: m.rest mv).set i u = accZ.cs ++ Value.nilFunc :: m'.rest mv) (hc : inU m'.c) (hp : 0 ≤ m'.pads ∧ m'.pads ≤ 1) : HeaW (w.setCell ⟨q, i, none⟩ u) O R q m' mv := by
 have k : Keep (· = q) w (w.setCell ⟨q, i, none⟩ u) := Keep.setCell (M := (· = q)) (Keep.refl _ w) (p := ⟨q, i, none⟩) (.inl rfl) _
 refine ⟨?_, ?_, h.ob, h.nqo, h.nqr, h.dj, fun j hj => Nat.lt_of_lt_of_le (h.lo j hj) k.size, by rw [hb, hs]; exact h.ok, hc, hp⟩
 ·have := Blk.set h.mch i u
  rw [hm] at this
  exact this
 ·rw [hg]
  exact h.rd.keepP k (fun j hj e => h.nqo (e ▸ h.ob j hj))
theorem HeaW.c (p : HPc) (h : HeaW w O R q m mv) : HeaW w O R q { m with pc := p } mv := ⟨h.mch, h.rd, h.ob, h.nqo, h.nqr, h.dj, h.lo, h.ok, h.fc, h.pd⟩
theorem HeaW.stop (h : HeaW w O R q m mv) (hpc : m.pc = .done) : HeaI w O R q m mv := by
 have hw : m.want = aaZ := by unfold HeaM.want; rw [hpc]
 refine ⟨HeaAt.made (t := .nilFunc) (by rw [hpc]; nofun) ?_ (by unfold HClo; rw [hpc]), h.rd, h.ob, h.nqo, h.nqr, h.dj, h.lo⟩
 rw [hw]
 exact h.mch
set_option maxHeartbeats 1000000 in
theorem hEnd_any (w : World) (h : HeaW w O R q m mv) :
  Calls Tryz.prog 116 #[.pointer (some ⟨q, 0, none⟩)] w fun e w' => e = .returned (.int .i64 (m.b + m.s)) ∧ Below w.heap.size w w' := by
 obtain ⟨b0, b1, b2, b3, b4, b5⟩ := h.bd
 have hlt := h.lt
 obtain ⟨c7, c8, _⟩ := hea_cells h.mch
 have W : IntKind.i64.wrap (m.b + m.s) = m.b + m.s := IntWalk.i64_in _ ⟨by omega, by omega⟩
 clear h b0 b1
 go_enter Tryz.func116, Tryz.ntmps116
 go_wp2
 go_quiet (fail)
 go_wp2
 go_ret
 exact ⟨rfl, bel_drewN _ (Below.refl _ _)⟩
set_option maxHeartbeats 1000000 in
theorem hPlace_any (w : World) (h : HeaW w O R q m mv) :
  Calls Tryz.prog 140 #[.pointer (some ⟨q, 0, none⟩)] w fun e w' => e = .returned (.int .i64 m.place) ∧ Below w.heap.size w w' := by
 obtain ⟨b0, b1, b2, b3, b4, b5⟩ := h.bd
 have hlt := h.lt
 obtain ⟨_, c8, _, _, _, c12, _⟩ := hea_cells h.mch
 obtain ⟨PL, hPL⟩ : ∃ p, p = m.place := ⟨_, rfl⟩
 have m1 := Int.emod_nonneg m.c (show m.s ≠ 0 by omega)
 have m2 := Int.emod_lt_of_pos m.c (show 0 < m.s by omega)
 have HM := Lib.hid (show mkS (IntKind.i64.wrap m.c) m.s = PL by rw [hPL]; unfold mkS HeaM.place; rw [if_pos b1, show IntKind.i64.wrap m.c = s64 m.c by rw [IntKind.wrap_i64]; rfl]; exact s64_mod b0 m.c)
 rw [← hPL]
 clear h b0 b1 hPL m1 m2
 go_enter Tryz.func140, Tryz.ntmps140
 go_wp2_with fail
 go_region_held3 (fun w' => w'.cell? ⟨q, 8, none⟩ = some (.int .i64 m.s) ∧ w'.cell? ⟨q, 12, none⟩ = some (.int .u64 m.c)) (first | go_keep | trivial)
  (first
   | (go_at_call 56; refine (mask_any _ _ _ (by omega)).mono ?_; rintro e w2 ⟨rfl, rfl⟩))
 all_goals
  go_wp2
  go_ret
  exact ⟨by rw [← HM.out]; rfl, bel_drewN _ (Below.refl _ _)⟩
set_option maxHeartbeats 1000000 in
theorem hLost_any (w : World) (h : HeaW w O R q m mv) :
  Calls Tryz.prog 142 #[.pointer (some ⟨q, 0, none⟩)] w fun e w' => e = .returned (.tuple #[]) ∧ HeaTo w O R q m.lost w' := by
 have hlt := h.lt
 obtain ⟨_, _, _, c10, c11, c12, _, _, _, _, c17⟩ := hea_cells h.mch
 have f10 := Blk.frozen h.mch 10
 have f11 := Blk.frozen h.mch 11
 have f17 := Blk.frozen h.mch 17
 have H := Lib.hid h
 have W1 : IntKind.i64.wrap (m.la + 1) = s64 (m.la + 1) := by rw [IntKind.wrap_i64]; rfl
 have W2 : wrap64 m.c = s64 m.c := by unfold wrap64 s64; rfl
 clear h
 go_enter Tryz.func142, Tryz.ntmps142
 go_wp2
 go_end0
 refine ⟨rfl, O, R, mv, HeaW.stop ?_ rfl, fun i hi => hi.elim .inl (fun h => .inr (.inl h)), ?_⟩
 ·exact ((((H.out.put (m' := { m with la := s64 (m.la + 1) }) 11 _ rfl rfl rfl rfl H.out.fc H.out.pd).put (m' := { m with la := s64 (m.la + 1), nx := s64 m.c }) 10 _ rfl rfl rfl rfl H.out.fc H.out.pd).put (m' := { m with la := s64 (m.la + 1), nx := s64 m.c, e := 9 }) 17 _ rfl rfl rfl rfl H.out.fc H.out.pd).c .done)
 ·exact ((((Keep.refl _ w).setCell (p := ⟨q, 11, none⟩) (.inl (.inl rfl)) _).setCell (p := ⟨q, 10, none⟩) (.inl (.inl rfl)) _).setCell (p := ⟨q, 17, none⟩) (.inl (.inl rfl)) _)
end Go.Proofs.YtggjhleomocojaaGreat
namespace Go.Proofs.YtggjhleomocojaaGreat
set_option maxRecDepth 100000
open Go.RowKit
set_option linter.unusedVariables false
set_option linter.unusedSimpArgs false
theorem u64_inU (x : Int) : inU (u64 x) := by unfold inU u64; omega
variable {w : World}
theorem Clo.fn {O : Nat → Prop} {v : Value} {f : Nat} {l : List Value} (h : Clo w O v f l) : ∃ g a c, v = .func (.func g) a c := by
 obtain ⟨bs, rfl, _⟩ := h
 exact ⟨_, _, _, rfl⟩
variable {q : Nat} {m : HeaM}
theorem HThen.fn {O : Nat → Prop} {ev tv : Value} (h : HThen w O q m ev tv) : (∃ g a c, ev = .func (.func g) a c) ∧ ∃ g a c, tv = .func (.func g) a c := by
 unfold HThen at h
 split at h
 ·obtain ⟨h1, rfl⟩ := h
  exact ⟨h1.fn, _, _, _, rfl⟩
 ·obtain ⟨rfl, h1⟩ := h
  exact ⟨⟨_, _, _, rfl⟩, h1.fn⟩
 ·obtain ⟨rfl, bv, h1, _⟩ := h
  exact ⟨⟨_, _, _, rfl⟩, h1.fn⟩
 ·exact h.elim
theorem HThen.parts {O : Nat → Prop} {P : HPc} {ev tv : Value} (h : HThen w O q { m with pc := P } ev tv) : (∀ sz typ p n hv, P ≠ .rd sz typ p n hv) ∧ ({ m with pc := P } : HeaM).want = ⟨1, m.b + m.s, 8, 0, 0, []⟩ ∧ ∀ (w' : World) (O' : Nat → Prop) (t v1 : Value), Clo w' O' t 73 [v1] → Clo w' O' v1 139 [ptr q, ev, tv] → HThen w' O' q { m with pc := P } ev tv → HClo w' O' q { m with pc := P } t := by
 cases P with
 | done => exact h.elim
 | tl => exact h.elim
 | lt => exact h.elim
 | hd => exact h.elim
 | rd sz typ p n hv => exact h.elim
 | va => exact ⟨by nofun, rfl, fun w' O' t v1 h1 h2 h3 => ⟨v1, ev, tv, h1, h2, h3⟩⟩
 | pv sz => exact ⟨by nofun, rfl, fun w' O' t v1 h1 h2 h3 => ⟨v1, ev, tv, h1, h2, h3⟩⟩
 | bv sz typ l => exact ⟨by nofun, rfl, fun w' O' t v1 h1 h2 h3 => ⟨v1, ev, tv, h1, h2, h3⟩⟩
variable {O R : Nat → Prop}
theorem HeaTo.made {w w' : World} {mv t : Value} (h : HeaW w O R q m mv) (k : Keep (· = q) w w') (hpc : ∀ sz typ p n hv, m.pc ≠ .rd sz typ p n hv) (hm : Mch w' q m.want.acc t (m.rest mv)) (hc : HClo w' (Gr O w w') q m t) : HeaTo w O R q m w' := by
 have z := k.size
 have hlt := h.lt
 refine ⟨Gr O w w', R, mv, ⟨HeaAt.made hpc hm hc, h.rd.keepP k (fun i hi e => h.nqo (e ▸ h.ob i hi)), fun i hi => .inl (h.ob i hi), ?_, h.nqr, ?_, ?_⟩, ?_, k.mono (fun i _ e => .inl e)⟩
 ·rintro (hi | hi)
  ·exact h.nqo hi
  ·omega
 ·rintro i (hi | hi) hr
  ·exact h.dj i hi hr
  ·have := h.lo i (.inr hr)
   omega
 ·rintro i ((hi | hi) | hi)
  ·exact Nat.lt_of_lt_of_le (h.lo i (.inl hi)) z
  ·exact hi.2
  ·exact Nat.lt_of_lt_of_le (h.lo i (.inr hi)) z
 ·rintro i ((hi | hi) | hi)
  ·exact .inl hi
  ·exact .inr (.inr hi.1)
  ·exact .inr (.inl hi)
set_option maxHeartbeats 2000000 in
theorem hValid_any {mv tv ev : Value} (P : HPc) (w : World) (h : HeaW w O R q m mv) (ht : HThen w O q { m with pc := P } ev tv) :
  Calls Tryz.prog 118 #[.pointer (some ⟨q, 0, none⟩), tv, ev] w fun e w' => e = .returned (.tuple #[]) ∧ HeaTo w O R q { m with pc := P } w' := by
 obtain ⟨⟨g1, a1, e1, rfl⟩, g2, a2, e2, rfl⟩ := ht.fn
 have HT := Lib.hid ht
 have H := Lib.hid h
 have hlt := h.lt
 clear h ht
 go_enter Tryz.func118, Tryz.ntmps118
 go_upto_region 1 with fail
 obtain ⟨w3, hw3, x0, x1, x2, hs3, bb3⟩ := pbox3 w (.pointer (some ⟨q, 0, none⟩)) (.func (.func g2) a2 e2) (.func (.func g1) a1 e1) 125 1 1
 rw [← hw3]
 have X0 := Lib.hid x0
 have X1 := Lib.hid x1
 have X2 := Lib.hid x2
 have B3 := Lib.hid bb3
 have p0 := x0.cell 0
 simp only [List.getElem?_cons_zero] at p0
 have l0 : w.heap.size < w3.heap.size := by omega
 have H3 := Lib.hid (H.out.below bb3)
 have HS3 := Lib.hid hs3
 clear hw3 x0 x1 x2 bb3 hs3
 go_region_held3 (fun w' => w'.cell? ⟨w.heap.size, 0, none⟩ = some (.pointer (some ⟨q, 0, none⟩))) (first | go_keep | trivial)
  (first
   | (go_at_call 116; refine (hEnd_any _ H3.out.drew).mono ?_; rintro e w4 ⟨rfl, b4⟩; have hd4 := fun o => b4.cell (p := ⟨w.heap.size, o, none⟩) (by simpa using l0))
   | (go_at_call 36; refine (cLoad_any q _ _ _ (m.b + m.s) 8 _ _ _ ((H3.out.drew).below b4).mch).mono ?_; rintro e w5 ⟨rfl, t5, m5, l5, k5⟩; have hd0 := fun o => k5.cell (b := w.heap.size) o (by have := b4.size; simp at this; omega) (by show ¬ w.heap.size = q; omega)))
 all_goals
  have z4 := b4.size
  have z5 := k5.size
  simp at z4
  clear hd4 hd0
  go_wp2
  go_end0
  obtain ⟨hp1, hp2, hp3⟩ := HT.out.parts
  have hs3 := HS3.out
  have K5 : Keep (· = q) w w5 := (((Below.keeps B3.out).drew).trans (Below.keeps b4)).trans k5
  refine ⟨rfl, HeaTo.made (H.out.c P) K5 hp1 (t := t5) (by rw [hp2]; exact m5) (hp3 _ _ _ _ (l5.mono (fun i hi => .inr ⟨by omega, hi.2⟩)) (Clo.mk3 ?_ (.inr ⟨by omega, by omega⟩) ?_ (.inr ⟨by omega, by omega⟩) ?_ (.inr ⟨by omega, by omega⟩)) ((HT.out.keep K5 (fun i hi e => H.out.nqo (e ▸ hi))).mono (fun i hi => .inl hi)))⟩
  ·exact ((X0.out.drew).below b4 (by simpa using l0)).keep k5 (by show ¬ w.heap.size = q; omega)
  ·exact ((X2.out.drew).below b4 (by have := X2.out.lt; simpa using this)).keep k5 (by show ¬ w.heap.size + 1 + 1 = q; omega)
  ·exact ((X1.out.drew).below b4 (by have := X1.out.lt; simpa using this)).keep k5 (by show ¬ w.heap.size + 1 = q; omega)
variable {mv : Value}
set_option maxHeartbeats 2000000 in
theorem hRecord_any (w : World) (h : HeaW w O R q m mv) :
  Calls Tryz.prog 119 #[.pointer (some ⟨q, 0, none⟩)] w fun e w' => e = .returned (.tuple #[]) ∧ HeaTo w O R q { m with pc := .hd } w' := by
 have H := Lib.hid h
 have hlt := h.lt
 obtain ⟨b0, b1, b2, b3, b4, b5⟩ := h.bd
 obtain ⟨c7, _⟩ := hea_cells h.mch
 obtain ⟨PL, hPL⟩ : ∃ p, p = m.place := ⟨_, rfl⟩
 have m1 : 0 ≤ PL := by rw [hPL]; exact Int.emod_nonneg m.c (show m.s ≠ 0 by omega)
 have m2 : PL < m.s := by rw [hPL]; exact Int.emod_lt_of_pos m.c (show 0 < m.s by omega)
 have W2 : IntKind.i64.wrap (m.b + PL) = m.b + PL := IntWalk.i64_in _ ⟨by omega, by omega⟩
 have HPL := Lib.hid hPL
 clear h b0 b1 hPL
 go_enter Tryz.func119, Tryz.ntmps119
 go_upto_region 1 with fail
 obtain ⟨w3, hw3⟩ : ∃ w3, w3 = w.alloc (.cells #[.pointer (some ⟨q, 0, none⟩)] 125) := ⟨_, rfl⟩
 have b3' : Below w.heap.size w w3 := by rw [hw3]; go_grown
 have X0 := Lib.hid (show Blk w3 w.heap.size [.pointer (some ⟨q, 0, none⟩)] by rw [hw3]; exact Blk.made w _ _)
 rw [← hw3]
 have B3 := Lib.hid b3'
 have p0 := X0.out.cell 0
 simp only [List.getElem?_cons_zero] at p0
 have l0 : w.heap.size < w3.heap.size := X0.out.lt
 have lq : q < w3.heap.size := by omega
 have d7 := (b3'.cell (p := ⟨q, 7, none⟩) hlt).trans c7
 have H3 := Lib.hid (H.out.below b3')
 clear hw3 b3' c7
 go_region_held3 (fun w' => w'.cell? ⟨w.heap.size, 0, none⟩ = some (.pointer (some ⟨q, 0, none⟩)) ∧ w'.cell? ⟨q, 7, none⟩ = some (.int .i64 m.b)) (first | go_keep | trivial)
  (first
   | (go_at_call 140; refine (hPlace_any _ H3.out.drew).mono ?_; rintro e w4 ⟨he4, b4⟩; rw [← HPL.out] at he4; subst he4; have hd4 := fun o => b4.cell (p := ⟨w.heap.size, o, none⟩) (by simpa using l0); have hd7 := fun o => b4.cell (p := ⟨q, o, none⟩) (by simpa using lq))
   | (go_at_call 36; refine (cLoad_any q _ _ _ (m.b + PL) 8 _ _ _ ((H3.out.drew).below b4).mch).mono ?_; rintro e w5 ⟨rfl, t5, m5, l5, k5⟩; have hd0 := fun o => k5.cell (b := w.heap.size) o (by have := b4.size; simp at this; omega) (by show ¬ w.heap.size = q; omega); have he7 := (hea_cells m5).1))
 all_goals
  have z4 := b4.size
  have z5 := k5.size
  simp at z4
  clear hd4 hd0 hd7 he7
  go_wp2
  go_end0
  have K5 : Keep (· = q) w w5 := (((Below.keeps B3.out).drew).trans (Below.keeps b4)).trans k5
  refine ⟨rfl, HeaTo.made (H.out.c .hd) K5 (by nofun) (t := t5) (by rw [HPL.out] at m5; exact m5) ⟨_, l5.mono (fun i hi => .inr ⟨by omega, hi.2⟩), Clo.mk1 ?_ (.inr ⟨by omega, by omega⟩)⟩⟩
  exact ((X0.out.drew).below b4 (by simpa using l0)).keep k5 (by show ¬ w.heap.size = q; omega)
set_option maxHeartbeats 2000000 in
theorem hRecord2_any (pb sb : Nat) (sz : Int) (w : World) (h : HeaW w O R q m mv) (hp : Blk w pb [ptr q]) (hs : Blk w sb [.int .i64 sz]) (np : pb ≠ q) (ns : sb ≠ q) (h0 : m.pads = 0) (hz : 0 ≤ sz ∧ sz ≤ 8192) :
  Calls Tryz.prog 143 #[ptr pb, ptr sb] w fun e w' => e = .returned (.tuple #[]) ∧ HeaTo w O R q { m with pc := .hd, pads := 1, c := u64 (m.c + sz) } w' := by
 have H := Lib.hid h
 have hlt := h.lt
 obtain ⟨_, _, _, _, _, c12, c13, _⟩ := hea_cells h.mch
 have f12 := Blk.frozen h.mch 12
 have f13 := Blk.frozen h.mch 13
 have p0 := hp.cell 0
 have s0 := hs.cell 0
 simp only [List.getElem?_cons_zero, ptr] at p0 s0
 rw [h0] at c13
 have W1 : IntKind.u64.wrap sz = sz := IntWalk.u64_in _ ⟨by omega, by omega⟩
 have W3 : IntKind.u64.wrap (m.c + sz) = u64 (m.c + sz) := wrap_u64' _
 clear h hp hs
 unfold ptr
 go_enter Tryz.func143, Tryz.ntmps143
 go_wp2_with fail
 go_region
 have W4 : IntKind.u64.wrap (m.c + sz) = u64 (m.c + sz) := wrap_u64' _
 have HW : HeaW (((w.setCell ⟨q, 13, none⟩ (.int .i64 1)).setCell ⟨q, 12, none⟩ (.int .u64 (u64 (m.c + sz)))).drew) O R q { m with pads := 1, c := u64 (m.c + sz) } mv := by
  refine ((H.out.put (m' := { m with pads := 1 }) 13 _ rfl rfl rfl rfl H.out.fc ⟨by show (0 : Int) ≤ 1; decide, by show (1 : Int) ≤ 1; decide⟩).put (m' := { m with pads := 1, c := u64 (m.c + sz) }) 12 _ rfl rfl rfl rfl (u64_inU _) ⟨by show (0 : Int) ≤ 1; decide, by show (1 : Int) ≤ 1; decide⟩).drew
 have HW := Lib.hid HW
 have K1 := Lib.hid ((((Keep.refl (fun i => i = q ∨ R i) w).setCell (p := ⟨q, 13, none⟩) (.inl (.inl rfl)) (.int .i64 1)).setCell (p := ⟨q, 12, none⟩) (.inl (.inl rfl)) (.int .u64 (u64 (m.c + sz)))).drew)
 have P1 := K1.out
 go_wp2_with fail
 refine (hRecord_any _ HW.out).mono ?_
 rintro e w5 ⟨rfl, hto⟩
 go_wp2
 go_end0
 exact ⟨rfl, hto.after K1.out⟩
set_option maxHeartbeats 2000000 in
theorem hNew3_any (v : Int) (pb : Nat) (w : World) (h : HeaW w O R q m mv) (hp : Blk w pb [ptr q]) (np : pb ≠ q) (hv : inU v) :
  Calls Tryz.prog 121 #[.int .u64 v, ptr pb] w fun e w' => e = .returned (.tuple #[]) ∧ HeaTo w O R q { m with pc := .hd, c := v } w' := by
 have H := Lib.hid h
 have hlt := h.lt
 obtain ⟨_, _, _, _, _, c12, _⟩ := hea_cells h.mch
 have f12 := Blk.frozen h.mch 12
 have p0 := hp.cell 0
 simp only [List.getElem?_cons_zero, ptr] at p0
 have HV := Lib.hid hv
 clear h hp hv
 unfold ptr
 go_enter Tryz.func121, Tryz.ntmps121
 have HW := Lib.hid (show HeaW (w.setCell ⟨q, 12, none⟩ (.int .u64 v)) O R q { m with c := v } mv from H.out.put (m' := { m with c := v }) 12 _ rfl rfl rfl rfl HV.out H.out.pd)
 have K1 := Lib.hid ((Keep.refl (fun i => i = q ∨ R i) w).setCell (p := ⟨q, 12, none⟩) (.inl (.inl rfl)) (.int .u64 v))
 go_wp2_with fail
 refine (hRecord_any _ HW.out).mono ?_
 rintro e w5 ⟨rfl, hto⟩
 go_wp2
 go_end0
 exact ⟨rfl, hto.after K1.out⟩
set_option maxHeartbeats 2000000 in
theorem hNew2_any (pb : Nat) (w : World) (h : HeaW w O R q m mv) (hp : Blk w pb [ptr q]) (op : O pb) :
  Calls Tryz.prog 120 #[ptr pb] w fun e w' => e = .returned (.tuple #[]) ∧ HeaTo w O R q { m with pc := .lt, la := s64 (m.la + 1) } w' := by
 have H := Lib.hid h
 have hlt := h.lt
 have np : pb ≠ q := fun e => h.nqo (e ▸ op)
 obtain ⟨b0, b1, b2, b3, b4, b5⟩ := h.bd
 obtain ⟨_, _, _, _, c11, _⟩ := hea_cells h.mch
 have f11 := Blk.frozen h.mch 11
 have p0 := hp.cell 0
 simp only [List.getElem?_cons_zero, ptr] at p0
 have W1 : IntKind.i64.wrap (m.la + 1) = s64 (m.la + 1) := by rw [IntKind.wrap_i64]; rfl
 have W2 : IntKind.i64.wrap (m.b + m.s + 16) = m.b + m.s + 16 := IntWalk.i64_in _ ⟨by omega, by omega⟩
 have HP := Lib.hid hp
 clear h hp b0 b1
 unfold ptr
 go_enter Tryz.func120, Tryz.ntmps120
 go_upto_region 1 with fail
 obtain ⟨w1, hw1⟩ : ∃ w1, w1 = w.setCell ⟨q, 11, none⟩ (.int .i64 (s64 (m.la + 1))) := ⟨_, rfl⟩
 have k1 : Keep (· = q) w w1 := by
  rw [hw1]
  exact (Keep.refl (fun i => i = q) w).setCell (p := ⟨q, 11, none⟩) (.inl rfl) _
 have H1 := Lib.hid (show HeaW w1 O R q { m with la := s64 (m.la + 1) } mv by
  rw [hw1]
  exact H.out.put (m' := { m with la := s64 (m.la + 1) }) 11 _ rfl rfl rfl rfl H.out.fc H.out.pd)
 have P1 := Lib.hid (HP.out.keep k1 np)
 have p1 := P1.out.cell 0
 simp only [List.getElem?_cons_zero, ptr] at p1
 have l1 := P1.out.lt
 have K1 := Lib.hid k1
 rw [← hw1]
 clear hw1 k1 p0 c11 f11
 go_region_held3 (fun w' => w'.cell? ⟨pb, 0, none⟩ = some (.pointer (some ⟨q, 0, none⟩))) (first | go_keep | trivial)
  (first
   | (go_at_call 116; refine (hEnd_any _ H1.out.drew).mono ?_; rintro e w4 ⟨rfl, b4⟩; have hd4 := fun o => b4.cell (p := ⟨pb, o, none⟩) (by simpa using l1))
   | (go_at_call 36; refine (cLoad_any q _ _ _ (m.b + m.s + 16) 8 _ _ _ ((H1.out.drew).below b4).mch).mono ?_; rintro e w5 ⟨rfl, t5, m5, l5, k5⟩; have hd0 := fun o => k5.cell (b := pb) o (by have := b4.size; simp at this; omega) np))
 all_goals
  have z4 := b4.size
  have z5 := k5.size
  have z1 := K1.out.size
  simp at z4
  clear hd4 hd0
  go_wp2
  go_end0
  have K5 : Keep (· = q) w1 w5 := (((Keep.refl (· = q) w1).drew).trans (Below.keeps b4)).trans k5
  refine ⟨rfl, (HeaTo.made (H1.out.c .lt) K5 (by nofun) (t := t5) m5 ⟨_, l5.mono (fun i hi => .inr ⟨by omega, hi.2⟩), Clo.mk1 ?_ (.inl op)⟩).after (K1.out.mono (fun i _ e => .inl e))⟩
  exact ((P1.out.drew).below b4 (by simpa using l1)).keep k5 np
end Go.Proofs.YtggjhleomocojaaGreat
