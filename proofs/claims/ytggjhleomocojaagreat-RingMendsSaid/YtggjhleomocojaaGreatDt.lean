/- ring.Mender: its plain machine, where it lies in memory; it as a chain's owner. Conditions: as each says. -/
import Derived.Test.YtggjhleomocojaaGreatDk
import Derived.Test.YtggjhleomocojaaGreatFj
import Derived.Deep.RegionHeld3
namespace Go.Proofs.YtggjhleomocojaaGreat
set_option maxRecDepth 100000
open Go.RowKit
set_option linter.unusedVariables false
set_option linter.unusedSimpArgs false
structure MenT where
 b : Int
 s : Int
 times : Int
 sum : Int
def MenT.mo (t : MenT) : Option FixM × MenT := if t.times < 1 then (none, t) else (some (FixC.init ⟨t.b, t.s⟩), { t with times := t.times - 1 })
def menC : ChP fixMac where
 τ := MenT
 mo := MenT.mo
 en := fun m t => { t with sum := IntKind.i64.wrap (t.sum + m.n) }
 fu := fun t => t.times.toNat + 2
 ok := fun _ => True
def fixFamS : Fam where
 M := fixMac
 inv := fun w F q s => FixF w F q s
 ty := fun _ => 159
 fn := fun _ => 216
 ft := fun _ => 217
 mn := fun _ b w => fM_next b w
 mt := fun _ b w => fM_take b w
 en := fun _ args w => enfN args w
 et := fun _ args w => enfT args w
 ts := fun _ _ => rfl
 dom := fun h => ⟨h.1, h.2.1⟩
 mono := fun h h1 h2 => h.mono h1 h2
 keep := fun h k hd => h.keep k hd
 wf := fun {w F q s} h => by
  obtain ⟨_, _, O, hO, hI⟩ := h
  exact hI.fine.wf
 next := fun {w F q s} h => by
  obtain ⟨_, _, O, hO, hI⟩ := h
  exact fNext_any w hI
 take := fun {w F q s x s0 sl sc} h hl hx hr => fTake_f x s0 sl sc w h hl ⟨hx.v0, hx.v1⟩
def menV (q bx : Nat) (nv : Value) (g : Bool) (t : MenT) : List Value :=
 [nv, .func (.func 60) #[ptr q] #[], .func (.func 61) #[] #[ptr bx], .bool g, .int .i64 t.b, .int .i64 t.s, .int .i64 t.times, .int .i64 t.sum]
def MenN (w : World) (F1 : Nat → Prop) (nv : Value) (cur : Option FixM) : Prop := match cur with
 | none => nv = .pointer none
 | some m => ∃ p, nv = ptr p ∧ FixF w F1 p m
variable {nv : Value} {cur : Option FixM}
theorem MenN.keep {w w' : World} {F1 K : Nat → Prop} (h : MenN w F1 nv cur) (k : Keep K w w') (hd : ∀ i, F1 i → ¬ K i) : MenN w' F1 nv cur := by
 cases cur with
 | none => exact h
 | some m =>
  obtain ⟨p, e, h⟩ := h
  exact ⟨p, e, h.keep k hd⟩
structure MenP (w : World) (q bx : Nat) (F1 : Nat → Prop) (cur : Option FixM) (t : MenT) (nv : Value) : Prop where
 blk : Blk w q (menV q bx nv cur.isSome t)
 box : Blk w bx [ptr q]
 c : MenN w F1 nv cur
 bd : t.times ≤ 64
 bb : -9223372036854775808 ≤ t.b ∧ t.b ≤ 9223372036854775807
 bs : -9223372036854775808 ≤ t.s ∧ t.s ≤ 9223372036854775807
 lt : ∀ i, F1 i → i < w.heap.size ∧ i ≠ q ∧ i ≠ bx
 ne : bx ≠ q
def MenO (q bx : Nat) (F1 : Nat → Prop) : Nat → Prop := fun i => i = q ∨ i = bx ∨ F1 i
variable {q bx : Nat} {t : MenT}
theorem MenP.keep {w w' : World} {F1 K : Nat → Prop} (h : MenP w q bx F1 cur t nv) (k : Keep K w w') (hd : ∀ i, MenO q bx F1 i → ¬ K i) : MenP w' q bx F1 cur t nv :=
 ⟨h.blk.keep k (hd q (.inl rfl)), h.box.keep k (hd bx (.inr (.inl rfl))), h.c.keep k (fun i hi => hd i (.inr (.inr hi))), h.bd, h.bb, h.bs, fun i hi => ⟨Nat.lt_of_lt_of_le (h.lt i hi).1 k.size, (h.lt i hi).2⟩, h.ne⟩
variable {F1 : Nat → Prop}
theorem MenP.below {w w' : World} (h : MenP w q bx F1 cur t nv) (b : Below w.heap.size w w') : MenP w' q bx F1 cur t nv :=
 h.keep (K := fun _ => False) (Below.keeps b) (fun _ _ => id)
variable {w : World}
theorem MenP.set {F1 F2 : Nat → Prop} {cur cur' : Option FixM} {t t' : MenT} {nv nv' : Value} (h : MenP w q bx F1 cur t nv) {w' : World} (ks : Keep (fun i => i = q) w w') (hb : Blk w' q (menV q bx nv' cur'.isSome t')) (hc : MenN w F2 nv' cur') (ht : t'.b = t.b ∧ t'.s = t.s ∧ t'.times ≤ t.times)
  (hF : ∀ i, F2 i → i < w.heap.size ∧ i ≠ q ∧ i ≠ bx) : MenP w' q bx F2 cur' t' nv' := by
 obtain ⟨e2, e3, e4⟩ := ht
 have hbd := h.bd
 exact ⟨hb, h.box.keep ks h.ne, hc.keep ks (fun i hi => (hF i hi).2.1), by omega, e2 ▸ h.bb, e3 ▸ h.bs, fun i hi => ⟨Nat.lt_of_lt_of_le (hF i hi).1 ks.size, (hF i hi).2⟩, h.ne⟩
theorem enMenMore : En 60 := enters_of Tryz.func60 (by kernel_rfl) rfl
theorem enMenEnded : En 61 := enters_of Tryz.func61 (by kernel_rfl) rfl
set_option maxHeartbeats 2000000 in
theorem menMore_any (h : MenP w q bx F1 cur t nv) :
  Calls Tryz.prog 60 #[ptr q] w fun e w' => Keep (fun i => i = q) w w' ∧ MenP w' q bx F1 cur t.mo.2 nv ∧ ((t.mo.1 = none ∧ e = .returned (.tuple #[.pointer none, .bool false])) ∨ ∃ m p, t.mo.1 = some m ∧ e = .returned (.tuple #[ptr p, .bool true]) ∧ FixF w' (fun i => w.heap.size ≤ i ∧ i < w'.heap.size) p m) := by
 have c4 : w.cell? ⟨q, 4, none⟩ = some (.int .i64 t.b) := Blk.cell h.blk 4
 have c5 : w.cell? ⟨q, 5, none⟩ = some (.int .i64 t.s) := Blk.cell h.blk 5
 have c6 : w.cell? ⟨q, 6, none⟩ = some (.int .i64 t.times) := Blk.cell h.blk 6
 have f6 : w.frozen? ⟨q, 6, none⟩ = false := h.blk.frozen 6
 have hlt := h.blk.lt
 have H := Lib.hid h
 unfold ptr
 by_cases hz : t.times < 1
 ·have hmo : t.mo = (none, t) := if_pos hz
  rw [hmo]
  have hle : t.times ≤ 0 := by omega
  clear h hmo
  go_enter Tryz.func60, Tryz.ntmps60
  go_wp2
  go_ret2
  exact ⟨Keep.refl _ _, H.out, .inl ⟨trivial, rfl⟩⟩
 ·have hmo : t.mo = (some (FixC.init ⟨t.b, t.s⟩), { t with times := t.times - 1 }) := if_neg hz
  rw [hmo]
  have hle : ¬ t.times ≤ 0 := by omega
  have hbd := h.bd
  have W1 : IntKind.i64.wrap (t.times - 1) = t.times - 1 := IntWalk.i64_in _ ⟨by omega, by omega⟩
  have ks : Keep (fun i => i = q) w (w.setCell ⟨q, 6, none⟩ (.int .i64 (t.times - 1))) := (Keep.refl (fun i => i = q) w).setCell (p := ⟨q, 6, none⟩) (.inl rfl) _
  have hP := h.set (t' := { t with times := t.times - 1 }) (nv' := nv) (cur' := cur) (F2 := F1) ks (h.blk.set 6 (.int .i64 (t.times - 1))) h.c ⟨rfl, rfl, by show t.times - 1 ≤ t.times; omega⟩ (fun i hi => h.lt i hi)
  have HP := Lib.hid hP
  have KS := Lib.hid ks
  have zs := ks.size
  clear h hmo hbd ks hP
  go_enter Tryz.func60, Tryz.ntmps60
  have d4 : (w.setCell ⟨q, 6, none⟩ (.int .i64 (t.times - 1))).cell? ⟨q, 4, none⟩ = some (.int .i64 t.b) := Blk.cell HP.out.blk 4
  have d5 : (w.setCell ⟨q, 6, none⟩ (.int .i64 (t.times - 1))).cell? ⟨q, 5, none⟩ = some (.int .i64 t.s) := Blk.cell HP.out.blk 5
  go_wp2_with fail
  refine (fNew_f t.b t.s _ H.out.bb.1 H.out.bb.2 H.out.bs.1 H.out.bs.2).mono ?_
  rintro e w2 ⟨p, rfl, hp, hf, b2⟩
  have HB3 := Lib.hid b2
  have HF : Hid (FixF w2 (fun k => w.heap.size ≤ k ∧ k < w2.heap.size) p (FixC.init ⟨t.b, t.s⟩)) := Lib.hid (by simpa using hf)
  clear b2 hf hp d4 d5
  go_wp2
  go_ret2
  exact ⟨KS.out.trans (Below.keeps HB3.out), HP.out.below HB3.out, .inr ⟨_, p, rfl, rfl, HF.out⟩⟩
set_option maxHeartbeats 2000000 in
theorem menEnded_any {q bx p : Nat} {m : FixM} (h : MenP w q bx F1 (some m) t (ptr p)) (hp : FixF w F1 p m) :
  Calls Tryz.prog 61 #[ptr p, ptr bx] w fun e w' => e = .returned (.tuple #[]) ∧ Keep (fun i => i = q) w w' ∧ MenP w' q bx F1 (some m) { t with sum := IntKind.i64.wrap (t.sum + m.n) } (ptr p) := by
 have p0 : w.cell? ⟨bx, 0, none⟩ = some (.pointer (some ⟨q, 0, none⟩)) := Blk.cell h.box 0
 have c7 : w.cell? ⟨q, 7, none⟩ = some (.int .i64 t.sum) := Blk.cell h.blk 7
 have f7 : w.frozen? ⟨q, 7, none⟩ = false := h.blk.frozen 7
 have hlt := h.blk.lt
 have hbx := h.box.lt
 obtain ⟨_, _, O, hO, hI⟩ := hp
 have HI := Lib.hid hI
 have H := Lib.hid h
 obtain ⟨v, hv⟩ : ∃ v, v = IntKind.i64.wrap (t.sum + m.n) := ⟨_, rfl⟩
 rw [← hv]
 have HV := Lib.hid hv
 have W1 := hv.symm
 clear h hI hv hO
 unfold ptr
 go_enter Tryz.func61, Tryz.ntmps61
 go_wp2_with fail
 refine (fResult_any w HI.out.at_).mono ?_
 rintro e w2 ⟨rfl, b2⟩
 have d0 := (b2.cell (p := ⟨bx, 0, none⟩) hbx).trans p0
 have d7 := (b2.cell (p := ⟨q, 7, none⟩) hlt).trans c7
 have g7 : w2.frozen? ⟨q, 7, none⟩ = false := (H.out.below b2).blk.frozen 7
 have B2 := Lib.hid b2
 clear b2 p0 c7 f7
 go_wp2
 have ks : Keep (fun i => i = q) w2 (w2.setCell ⟨q, 7, none⟩ (.int .i64 v)) := (Keep.refl (fun i => i = q) w2).setCell (p := ⟨q, 7, none⟩) (.inl rfl) _
 have h2 := H.out.below B2.out
 refine bodyPost_end (results_none rfl _ _ _) rfl ⟨rfl, (Below.keeps B2.out).trans ks, h2.set ks (h2.blk.set 7 (.int .i64 v)) h2.c ⟨rfl, rfl, Int.le_refl _⟩ h2.lt⟩
def MenQ (bx : Nat) (w : World) (q : Nat) (F : Nat → Prop) (cur : Option FixM) (t : MenT) : Prop := ∃ F1 nv, MenP w q bx F1 cur t nv ∧ (∀ i, MenO q bx F1 i → F i) ∧ ∀ i, F i → i < w.heap.size
theorem MenP.cells (h : MenP w q bx F1 cur t nv) :
  w.cell? ⟨q, 0, none⟩ = some nv ∧ w.cell? ⟨q, 1, none⟩ = some (.func (.func 60) #[ptr q] #[]) ∧ w.cell? ⟨q, 2, none⟩ = some (.func (.func 61) #[] #[ptr bx]) ∧ w.cell? ⟨q, 3, none⟩ = some (.bool cur.isSome) :=
 ⟨Blk.cell h.blk 0, Blk.cell h.blk 1, Blk.cell h.blk 2, Blk.cell h.blk 3⟩
theorem MenP.put {F1 F2 : Nat → Prop} (h : MenP w q bx F1 cur t nv) (cur' : Option FixM) (nv' : Value) (hc : MenN w F2 nv' cur') (hd : ∀ i, F2 i → i < w.heap.size ∧ ¬ MenO q bx F1 i) :
  MenP ((w.setCell ⟨q, 0, none⟩ nv').setCell ⟨q, 3, none⟩ (.bool cur'.isSome)) q bx F2 cur' t nv' :=
 h.set (((Keep.refl (fun i => i = q) w).setCell (p := ⟨q, 0, none⟩) (.inl rfl) _).setCell (p := ⟨q, 3, none⟩) (.inl rfl) _) ((h.blk.set 0 nv').set 3 (.bool cur'.isSome)) hc ⟨rfl, rfl, Int.le_refl _⟩
  (fun i hi => ⟨(hd i hi).1, fun e => (hd i hi).2 (.inl e), fun e => (hd i hi).2 (.inr (.inl e))⟩)
def menK (bx : Nat) : ChK where
 C := fixFamS
 c := menC
 mor := 60
 enf := 61
 enm := enMenMore
 ene := enMenEnded
 xok := fun x => inU x.v
 xan := fun _ _ hx => ⟨hx.v0, hx.v1⟩
 xtk := fun {w F q s x s0 sl sc} h hl hx hr => fTake_f x s0 sl sc w h hl hx
 a1 := fun _ _ => #[]
 a2 := fun _ _ => #[ptr bx]
 P := MenQ bx
 dom := fun {w q F cur t} ⟨F1, nv, h, hO, hF⟩ => ⟨hO q (.inl rfl), hF⟩
 mono := fun {w q cur t F F'} ⟨F1, nv, h, hO, hF⟩ h1 h2 => ⟨F1, nv, h, fun i hi => h1 i (hO i hi), h2⟩
 keep := fun {w w' q F cur t K} ⟨F1, nv, h, hO, hF⟩ k hd => ⟨F1, nv, h.keep k (fun i hi => hd i (hO i hi)), hO, fun i hi => Nat.lt_of_lt_of_le (hF i hi) k.size⟩
 cells := fun {w q F cur t} ⟨F1, nv, h, hO, hF⟩ => by
  obtain ⟨c0, c1, c2, c3⟩ := h.cells
  exact ⟨nv, 0, c0, c1, c2, c3, h.blk.frozen 0, h.blk.frozen 3⟩
 mach := fun {w q F m t nv0} ⟨F1, nv, h, hO, hF⟩ hc => by
  obtain ⟨c0, _⟩ := h.cells
  rw [c0] at hc
  obtain rfl : nv = nv0 := Option.some.inj hc
  obtain ⟨p, e, hp⟩ := h.c
  have lo := h.lt
  refine ⟨p, F1, e, hp, fun i hi => ⟨hO i (.inr (.inr hi)), (lo i hi).2.1⟩, ?_⟩
  intro w' m' F1' k hp' hg
  have hp2 : FixF w' F1' p m' := hp'
  have hq := h.blk.lt
  have hb := h.box.lt
  refine ⟨F1', nv, ⟨h.blk.keep k (fun hi => (lo q hi).2.1 rfl), h.box.keep k (fun hi => (lo bx hi).2.2 rfl), ⟨p, e, hp2⟩, h.bd, h.bb, h.bs, ?_, h.ne⟩, ?_, ?_⟩
  ·intro i hi
   refine ⟨hp2.2.1 i hi, ?_⟩
   rcases hg i hi with h4 | h4
   ·exact (lo i h4).2
   ·exact ⟨by omega, by omega⟩
  ·rintro i (hi | hi | hi)
   ·exact .inl (hO i (.inl hi))
   ·exact .inl (hO i (.inr (.inl hi)))
   ·exact .inr hi
  ·rintro i (hi | hi)
   ·exact Nat.lt_of_lt_of_le (hF i hi) k.size
   ·exact hp2.2.1 i hi
 more := fun {w q F cur t} ⟨F1, nv, h, hO, hF⟩ => by
  refine (menMore_any h).mono ?_
  rintro e w' ⟨k, hp, hx⟩
  refine ⟨k.mono (fun i _ e => e ▸ hO q (.inl rfl)), ⟨F1, nv, hp, hO, fun i hi => Nat.lt_of_lt_of_le (hF i hi) k.size⟩, ?_⟩
  rcases hx with hx | ⟨m, p, h1, h2, h3⟩
  ·exact .inl hx
  ·exact .inr ⟨m, p, (fun i => w.heap.size ≤ i ∧ i < w'.heap.size), h1, h2, h3, fun i hi => hi.1, trivial⟩
 ended := fun {w q F m t p _} ⟨F1, nv, h, hO, hF⟩ ok hc hc2 => by
  obtain ⟨c0, _, c2, _⟩ := h.cells
  rw [c0] at hc
  obtain rfl : nv = ptr p := Option.some.inj hc
  obtain ⟨p', e, hp⟩ := h.c
  obtain rfl : p = p' := by unfold ptr at e; injection e with e; injection e with e; injection e
  show Calls Tryz.prog 61 (#[] ++ #[ptr p] ++ #[ptr bx]) w _
  rw [show (#[] ++ #[ptr p] ++ #[ptr bx] : Array Value) = #[ptr p, ptr bx] from rfl]
  refine Calls.mono (menEnded_any h hp) ?_
  rintro e w' ⟨rfl, k, hd⟩
  obtain ⟨d0, _, d2, _⟩ := hd.cells
  exact ⟨rfl, d0, d2, F, ⟨F1, ptr p, hd, hO, fun i hi => Nat.lt_of_lt_of_le (hF i hi) k.size⟩, fun i hi => .inl hi, k.mono (fun i _ e => e ▸ hO q (.inl rfl))⟩
 setN := fun {w q F cur t} ⟨F1, nv, h, hO, hF⟩ => by
  have h' := h.put (F2 := fun _ => False) none (.pointer none) rfl (fun i hi => hi.elim)
  refine ⟨_, _, h', ?_, fun i hi => by have := hF i hi; simpa using this⟩
  rintro i (hi | hi | hi)
  ·exact hO i (.inl hi)
  ·exact hO i (.inr (.inl hi))
  ·exact hi.elim
 setS := fun {w q F cur t m p F2} ⟨F1, nv, h, hO, hF⟩ hp hd => by
  have hp2 : FixF w F2 p m := hp
  have h' := h.put (F2 := F2) (some m) (ptr p) ⟨p, rfl, hp2⟩ (fun i hi => ⟨hp2.2.1 i hi, fun ho => hd i hi (hO i ho)⟩)
  refine ⟨F2, _, h', ?_, ?_⟩
  ·rintro i (hi | hi | hi)
   ·exact .inl (hO i (.inl hi))
   ·exact .inl (hO i (.inr (.inl hi)))
   ·exact .inr hi
  ·rintro i (hi | hi)
   ·have := hF i hi; simpa using this
   ·have := hp2.2.1 i hi; simpa using this
theorem men_settle (n : Nat) : ∀ t : MenT, t.times ≤ n → menC.fin (menC.settle n (menC.mo t)) := by
 induction n with
 | zero => exact fun t h => menC.fin_mo 0 (f := (none, t)) (if_pos (by omega)) (menC.fin_none 0 t)
 | succ n ih =>
  intro t h
  by_cases hz : t.times < 1
  ·exact menC.fin_mo _ (f := (none, t)) (if_pos hz) (menC.fin_none _ t)
  ·refine menC.fin_mo _ (f := (some (FixC.init ⟨t.b, t.s⟩), { t with times := t.times - 1 })) (if_neg hz) ?_
   by_cases hv : (FixC.init ⟨t.b, t.s⟩).live = true
   ·exact menC.fin_live _ _ _ hv
   ·refine menC.fin_dead _ _ _ (Bool.eq_false_iff.2 hv) (ih _ ?_)
    show t.times - 1 ≤ n
    omega
theorem men_enough : menC.Enough where
 all := fun m t _ => by
  show menC.fin (menC.settle (MenT.times t).toNat.succ.succ (some m, t))
  by_cases hv : FixM.live m = true
  ·exact menC.fin_live _ m t hv
  ·refine menC.fin_dead _ m t (Bool.eq_false_iff.2 hv) (men_settle _ _ ?_)
   show MenT.times t ≤ _
   omega
 mo := fun t => men_settle _ _ (by show MenT.times t ≤ ((MenT.times t).toNat + 2 : Nat); omega)
end Go.Proofs.YtggjhleomocojaaGreat
