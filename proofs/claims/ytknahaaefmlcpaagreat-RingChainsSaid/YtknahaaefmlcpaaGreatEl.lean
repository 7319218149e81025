/- The walk of the law RingChains. Conditions: the numbers are in their kinds' ranges. -/
import Derived.Test.YtknahaaefmlcpaaGreatEk
namespace Go.Proofs.YtknahaaefmlcpaaGreat
set_option maxRecDepth 100000
open Go.RowKit
set_option linter.unusedVariables false
set_option linter.unusedSimpArgs false
structure ChW (B : Nat) (wr : World) (rb : Nat) (b s : Int) (qf qd qm : Nat) (Ff Fd Fm : Nat → Prop) (sf : filC.mac.σ) (sd : draC.mac.σ) (sm : menC.mac.σ) : Prop where
 bx : Blk wr rb [.int .i64 b, .int .i64 s]
 f : filFam.inv wr Ff qf sf
 d : draFam.inv wr Fd qd sd
 m : menFam.inv wr Fm qm sm
 lo : ∀ j, Ff j ∨ Fd j ∨ Fm j → B ≤ j ∧ j ≠ rb
 df : ∀ j, Ff j → ¬ Fd j ∧ ¬ Fm j
 dd : ∀ j, Fd j → ¬ Fm j
theorem ChW.keep {B : Nat} {wr w' : World} {rb : Nat} {b s : Int} {qf qd qm : Nat} {Ff Fd Fm K : Nat → Prop} {sf : filC.mac.σ} {sd : draC.mac.σ} {sm : menC.mac.σ} (h : ChW B wr rb b s qf qd qm Ff Fd Fm sf sd sm) (k : Keep K wr w') (hr : ¬ K rb) (hd : ∀ j, Ff j ∨ Fd j ∨ Fm j → ¬ K j) : ChW B w' rb b s qf qd qm Ff Fd Fm sf sd sm :=
 ⟨h.bx.keep k hr, filFam.keep h.f k (fun j hj => hd j (.inl hj)), draFam.keep h.d k (fun j hj => hd j (.inr (.inl hj))), menFam.keep h.m k (fun j hj => hd j (.inr (.inr hj))), h.lo, h.df, h.dd⟩
theorem ChW.below {B : Nat} {wr w' : World} {rb : Nat} {b s : Int} {qf qd qm : Nat} {Ff Fd Fm : Nat → Prop} {sf : filC.mac.σ} {sd : draC.mac.σ} {sm : menC.mac.σ} (h : ChW B wr rb b s qf qd qm Ff Fd Fm sf sd sm) (k : Below wr.heap.size wr w') : ChW B w' rb b s qf qd qm Ff Fd Fm sf sd sm :=
 h.keep (K := fun _ => False) (Below.keeps k) id (fun _ _ => id)
theorem ChW.lt {B : Nat} {wr : World} {rb : Nat} {b s : Int} {qf qd qm : Nat} {Ff Fd Fm : Nat → Prop} {sf : filC.mac.σ} {sd : draC.mac.σ} {sm : menC.mac.σ} (h : ChW B wr rb b s qf qd qm Ff Fd Fm sf sd sm) : ∀ j, Ff j ∨ Fd j ∨ Fm j → j < wr.heap.size := by
 rintro j (hj | hj | hj)
 ·exact (filFam.dom h.f).2 j hj
 ·exact (draFam.dom h.d).2 j hj
 ·exact (menFam.dom h.m).2 j hj
theorem ChW.goF {B : Nat} {wr w' : World} {rb : Nat} {b s : Int} {qf qd qm : Nat} {Ff Fd Fm F' : Nat → Prop} {sf sf' : filC.mac.σ} {sd : draC.mac.σ} {sm : menC.mac.σ} (h : ChW B wr rb b s qf qd qm Ff Fd Fm sf sd sm) (hB : B ≤ wr.heap.size) (hrb : rb < wr.heap.size) (k : Keep Ff wr w') (hi : filFam.inv w' F' qf sf') (hg : ∀ j, F' j → Ff j ∨ wr.heap.size ≤ j) : ChW B w' rb b s qf qd qm F' Fd Fm sf' sd sm := by
 have hlt := h.lt
 refine ⟨h.bx.keep k (fun hh => (h.lo rb (.inl hh)).2 rfl), hi, draFam.keep h.d k (fun j hj hh => (h.df j hh).1 hj), menFam.keep h.m k (fun j hj hh => (h.df j hh).2 hj), ?_, ?_, h.dd⟩
 ·rintro j (hj | hj | hj)
  ·rcases hg j hj with hh | hh
   ·exact h.lo j (.inl hh)
   ·exact ⟨by omega, by omega⟩
  ·exact h.lo j (.inr (.inl hj))
  ·exact h.lo j (.inr (.inr hj))
 ·intro j hj
  rcases hg j hj with hh | hh
  ·exact h.df j hh
  ·exact ⟨fun h9 => by have := hlt j (.inr (.inl h9)); omega, fun h9 => by have := hlt j (.inr (.inr h9)); omega⟩
theorem ChW.goD {B : Nat} {wr w' : World} {rb : Nat} {b s : Int} {qf qd qm : Nat} {Ff Fd Fm F' : Nat → Prop} {sf : filC.mac.σ} {sd sd' : draC.mac.σ} {sm : menC.mac.σ} (h : ChW B wr rb b s qf qd qm Ff Fd Fm sf sd sm) (hB : B ≤ wr.heap.size) (hrb : rb < wr.heap.size) (k : Keep Fd wr w') (hi : draFam.inv w' F' qd sd') (hg : ∀ j, F' j → Fd j ∨ wr.heap.size ≤ j) : ChW B w' rb b s qf qd qm Ff F' Fm sf sd' sm := by
 have hlt := h.lt
 refine ⟨h.bx.keep k (fun hh => (h.lo rb (.inr (.inl hh))).2 rfl), filFam.keep h.f k (fun j hj hh => (h.df j hj).1 hh), hi, menFam.keep h.m k (fun j hj hh => h.dd j hh hj), ?_, ?_, ?_⟩
 ·rintro j (hj | hj | hj)
  ·exact h.lo j (.inl hj)
  ·rcases hg j hj with hh | hh
   ·exact h.lo j (.inr (.inl hh))
   ·exact ⟨by omega, by omega⟩
  ·exact h.lo j (.inr (.inr hj))
 ·intro j hj
  refine ⟨fun h9 => ?_, (h.df j hj).2⟩
  rcases hg j h9 with hh | hh
  ·exact (h.df j hj).1 hh
  ·have := hlt j (.inl hj)
   omega
 ·intro j hj h9
  rcases hg j hj with hh | hh
  ·exact h.dd j hh h9
  ·have := hlt j (.inr (.inr h9))
   omega
theorem ChW.goM {B : Nat} {wr w' : World} {rb : Nat} {b s : Int} {qf qd qm : Nat} {Ff Fd Fm F' : Nat → Prop} {sf : filC.mac.σ} {sd : draC.mac.σ} {sm sm' : menC.mac.σ} (h : ChW B wr rb b s qf qd qm Ff Fd Fm sf sd sm) (hB : B ≤ wr.heap.size) (hrb : rb < wr.heap.size) (k : Keep Fm wr w') (hi : menFam.inv w' F' qm sm') (hg : ∀ j, F' j → Fm j ∨ wr.heap.size ≤ j) : ChW B w' rb b s qf qd qm Ff Fd F' sf sd sm' := by
 have hlt := h.lt
 refine ⟨h.bx.keep k (fun hh => (h.lo rb (.inr (.inr hh))).2 rfl), filFam.keep h.f k (fun j hj hh => (h.df j hj).2 hh), draFam.keep h.d k (fun j hj hh => h.dd j hj hh), hi, ?_, ?_, ?_⟩
 ·rintro j (hj | hj | hj)
  ·exact h.lo j (.inl hj)
  ·exact h.lo j (.inr (.inl hj))
  ·rcases hg j hj with hh | hh
   ·exact h.lo j (.inr (.inr hh))
   ·exact ⟨by omega, by omega⟩
 ·intro j hj
  refine ⟨(h.df j hj).1, fun h9 => ?_⟩
  rcases hg j h9 with hh | hh
  ·exact (h.df j hj).2 hh
  ·have := hlt j (.inl hj)
   omega
 ·intro j hj h9
  rcases hg j h9 with hh | hh
  ·exact h.dd j hj hh
  ·have := hlt j (.inr (.inl hj))
   omega
def tapeO (sv : Value) : Obj := Obj.cells #[sv, .int .i64 0, .int .i64 0, .int .i64 0, .int .i64 0, .int .u64 0, .int .u64 0, .slice none 0 0, .bool false] 101
theorem tapes3 (wr : World) (sv : Value) : Tp (((wr.alloc (tapeO sv)).alloc (tapeO sv)).alloc (tapeO sv)).drew wr.heap.size sv 0 accZ false ∧ Tp (((wr.alloc (tapeO sv)).alloc (tapeO sv)).alloc (tapeO sv)).drew (wr.heap.size + 1) sv 0 accZ false ∧ Tp (((wr.alloc (tapeO sv)).alloc (tapeO sv)).alloc (tapeO sv)).drew (wr.heap.size + 1 + 1) sv 0 accZ false ∧ Below wr.heap.size wr (((wr.alloc (tapeO sv)).alloc (tapeO sv)).alloc (tapeO sv)).drew := by
 have h1 : Tp (wr.alloc (tapeO sv)) wr.heap.size sv 0 accZ false := Blk.made wr _ _
 have h2 : Tp ((wr.alloc (tapeO sv)).alloc (tapeO sv)) (wr.heap.size + 1) sv 0 accZ false := by have := Blk.made (wr.alloc (tapeO sv)) #[sv, .int .i64 0, .int .i64 0, .int .i64 0, .int .i64 0, .int .u64 0, .int .u64 0, .slice none 0 0, .bool false] 101; rw [World.size_alloc] at this; exact this
 have h3 : Tp (((wr.alloc (tapeO sv)).alloc (tapeO sv)).alloc (tapeO sv)) (wr.heap.size + 1 + 1) sv 0 accZ false := by have := Blk.made ((wr.alloc (tapeO sv)).alloc (tapeO sv)) #[sv, .int .i64 0, .int .i64 0, .int .i64 0, .int .i64 0, .int .u64 0, .int .u64 0, .slice none 0 0, .bool false] 101; rw [World.size_alloc, World.size_alloc] at this; exact this
 have q1 := Blk.alloc (Blk.alloc h1 (tapeO sv)) (tapeO sv)
 have q2 := Blk.alloc h2 (tapeO sv)
 have bd : Below (((wr.alloc (tapeO sv)).alloc (tapeO sv)).alloc (tapeO sv)).heap.size (((wr.alloc (tapeO sv)).alloc (tapeO sv)).alloc (tapeO sv)) (((wr.alloc (tapeO sv)).alloc (tapeO sv)).alloc (tapeO sv)).drew := bel_drewN 1 (Below.refl _ _)
 exact ⟨Blk.below q1 bd q1.lt, Blk.below q2 bd q2.lt, Blk.below h3 bd h3.lt, bel_drewN 1 ((((Below.refl wr.heap.size wr).alloc (Nat.le_refl _) _).alloc (by simp) _).alloc (by simp; omega) _)⟩
theorem fil_all (m : PutM) (t : FilT) : filC.fin (filC.settle (filC.fu t) (some m, t)) := by
 show filC.fin (filC.settle (FilT.left t).length.succ.succ (some m, t))
 by_cases hv : PutM.live m = true
 ·exact filC.fin_live _ m t hv
 ·refine filC.fin_dead _ m t (Bool.eq_false_iff.2 hv) (fil_settle _ _ ?_)
  show (FilT.en t m).left.length ≤ _
  unfold FilT.en
  split
  ·show (FilT.left t).length ≤ _
   omega
  ·show (FilT.left t).tail.length ≤ _
   simp only [List.length_tail]
   omega
theorem fil_aft {t0 : FilT} {T : List AnsV} {cur : Option PutM} {t1 : FilT} {L : List AN} (hE : filC.Eat (filC.mo t0) (ans T 0) ((cur, t1), L)) : (cur, t1) = filC.aft t0 T := ChP.aft_eat fil_all fil_enough.mo hE
theorem dra_all (m : GetM) (t : DraT) : draC.fin (draC.settle (draC.fu t) (some m, t)) := by
 show draC.fin (draC.settle (DraT.times t).toNat.succ.succ (some m, t))
 by_cases hv : GetM.live m = true
 ·exact draC.fin_live _ m t hv
 ·refine draC.fin_dead _ m t (Bool.eq_false_iff.2 hv) (dra_settle _ _ ?_)
  show DraT.times t ≤ _
  omega
theorem men_all (m : FixM) (t : MenT) : menC.fin (menC.settle (menC.fu t) (some m, t)) := by
 show menC.fin (menC.settle (MenT.times t).toNat.succ.succ (some m, t))
 by_cases hv : FixM.live m = true
 ·exact menC.fin_live _ m t hv
 ·refine menC.fin_dead _ m t (Bool.eq_false_iff.2 hv) (men_settle _ _ ?_)
  show MenT.times t ≤ _
  omega
theorem dra_aft {t0 : DraT} {T : List AnsV} {cur : Option GetM} {t1 : DraT} {L : List AN} (hE : draC.Eat (draC.mo t0) (ans T 0) ((cur, t1), L)) : (cur, t1) = draC.aft t0 T := ChP.aft_eat dra_all dra_enough.mo hE
theorem men_aft {t0 : MenT} {T : List AnsV} {cur : Option FixM} {t1 : MenT} {L : List AN} (hE : menC.Eat (menC.mo t0) (ans T 0) ((cur, t1), L)) : (cur, t1) = menC.aft t0 T := ChP.aft_eat men_all men_enough.mo hE
def TpR (w : World) (tb : Nat) (tv : Value) (W : AA) (L : Bool) : Prop := ∃ K s0 sl sc, Tp w tb tv K ⟨W.k, W.a, W.n, W.v, W.x, .slice s0 sl sc⟩ L ∧ RdB w (.slice s0 sl sc) W.b
theorem TpR.below {w w' : World} {tb : Nat} {tv : Value} {W : AA} {L : Bool} (h : TpR w tb tv W L) (b : Below w.heap.size w w') : TpR w' tb tv W L := by
 obtain ⟨K, s0, sl, sc, h1, h2⟩ := h
 exact ⟨K, s0, sl, sc, Blk.below h1 b h1.lt, h2.below b⟩
theorem TpR.keepT {w w' : World} {tb tu n cc kk : Nat} {a : Option Addr} {tv : Value} {W : AA} {L : Bool} (h : TpR w tb tv W L) (k : Keep (· = tu) w w') (hu : Tp w tu (.slice a n cc) kk accZ false) (ne : tb ≠ tu) : TpR w' tb tv W L := by
 obtain ⟨K, s0, sl, sc, h1, h2⟩ := h
 exact ⟨K, s0, sl, sc, Blk.keep h1 k ne, h2.keep k (fun hn j hj => h2.apart hn hu rfl j hj)⟩
structure A3 (w : World) (af ad am ta tu tv : Nat) (tx : Value) (WF WD WM : AA) (lf ld lm : Bool) (fv dv mv uf ud um : Value) : Prop where
 a : Blk w af [.int .i64 WF.k, .int .i64 WF.a, .int .i64 WF.n, .int .u64 WF.v, .int .u64 WF.x, fv]
 b : Blk w ad [.int .i64 WD.k, .int .i64 WD.a, .int .i64 WD.n, .int .u64 WD.v, .int .u64 WD.x, dv]
 c : Blk w am [.int .i64 WM.k, .int .i64 WM.a, .int .i64 WM.n, .int .u64 WM.v, .int .u64 WM.x, mv]
 x : ∃ K, Tp w ta tx K ⟨WF.k, WF.a, WF.n, WF.v, WF.x, uf⟩ lf
 y : ∃ K, Tp w tu tx K ⟨WD.k, WD.a, WD.n, WD.v, WD.x, ud⟩ ld
 z : ∃ K, Tp w tv tx K ⟨WM.k, WM.a, WM.n, WM.v, WM.x, um⟩ lm
theorem A3.below {w w' : World} {af ad am ta tu tv : Nat} {tx : Value} {WF WD WM : AA} {lf ld lm : Bool} {fv dv mv uf ud um : Value} (h : A3 w af ad am ta tu tv tx WF WD WM lf ld lm fv dv mv uf ud um) (b : Below w.heap.size w w') : A3 w' af ad am ta tu tv tx WF WD WM lf ld lm fv dv mv uf ud um :=
 ⟨h.a.below b h.a.lt, h.b.below b h.b.lt, h.c.below b h.c.lt, h.x.imp (fun _ h => Blk.below h b h.lt), h.y.imp (fun _ h => Blk.below h b h.lt), h.z.imp (fun _ h => Blk.below h b h.lt)⟩
theorem A3.cells {w' : World} {af ad am ta tu tv : Nat} {tx : Value} {WF WD WM : AA} {lf ld lm : Bool} {fv dv mv uf ud um : Value} (h : A3 w' af ad am ta tu tv tx WF WD WM lf ld lm fv dv mv uf ud um) :
  w'.cell? ⟨af, 0, none⟩ = some (.int .i64 WF.k) ∧ w'.cell? ⟨af, 1, none⟩ = some (.int .i64 WF.a) ∧ w'.cell? ⟨af, 2, none⟩ = some (.int .i64 WF.n) ∧ w'.cell? ⟨af, 3, none⟩ = some (.int .u64 WF.v) ∧ w'.cell? ⟨af, 4, none⟩ = some (.int .u64 WF.x) ∧ w'.cell? ⟨af, 5, none⟩ = some (fv) ∧ w'.cell? ⟨ad, 0, none⟩ = some (.int .i64 WD.k) ∧ w'.cell? ⟨ad, 1, none⟩ = some (.int .i64 WD.a) ∧ w'.cell? ⟨ad, 2, none⟩ = some (.int .i64 WD.n) ∧ w'.cell? ⟨ad, 3, none⟩ = some (.int .u64 WD.v) ∧ w'.cell? ⟨ad, 4, none⟩ = some (.int .u64 WD.x) ∧ w'.cell? ⟨ad, 5, none⟩ = some (dv) ∧ w'.cell? ⟨am, 0, none⟩ = some (.int .i64 WM.k) ∧ w'.cell? ⟨am, 1, none⟩ = some (.int .i64 WM.a) ∧ w'.cell? ⟨am, 2, none⟩ = some (.int .i64 WM.n) ∧ w'.cell? ⟨am, 3, none⟩ = some (.int .u64 WM.v) ∧ w'.cell? ⟨am, 4, none⟩ = some (.int .u64 WM.x) ∧ w'.cell? ⟨am, 5, none⟩ = some (mv) ∧ w'.cell? ⟨ta, 2, none⟩ = some (.int .i64 WF.k) ∧ w'.cell? ⟨ta, 3, none⟩ = some (.int .i64 WF.a) ∧ w'.cell? ⟨ta, 4, none⟩ = some (.int .i64 WF.n) ∧ w'.cell? ⟨ta, 5, none⟩ = some (.int .u64 WF.v) ∧ w'.cell? ⟨ta, 6, none⟩ = some (.int .u64 WF.x) ∧ w'.cell? ⟨ta, 7, none⟩ = some (uf) ∧ w'.cell? ⟨ta, 8, none⟩ = some (.bool lf) ∧ w'.cell? ⟨tu, 2, none⟩ = some (.int .i64 WD.k) ∧ w'.cell? ⟨tu, 3, none⟩ = some (.int .i64 WD.a) ∧ w'.cell? ⟨tu, 4, none⟩ = some (.int .i64 WD.n) ∧ w'.cell? ⟨tu, 5, none⟩ = some (.int .u64 WD.v) ∧ w'.cell? ⟨tu, 6, none⟩ = some (.int .u64 WD.x) ∧ w'.cell? ⟨tu, 7, none⟩ = some (ud) ∧ w'.cell? ⟨tu, 8, none⟩ = some (.bool ld) ∧ w'.cell? ⟨tv, 2, none⟩ = some (.int .i64 WM.k) ∧ w'.cell? ⟨tv, 3, none⟩ = some (.int .i64 WM.a) ∧ w'.cell? ⟨tv, 4, none⟩ = some (.int .i64 WM.n) ∧ w'.cell? ⟨tv, 5, none⟩ = some (.int .u64 WM.v) ∧ w'.cell? ⟨tv, 6, none⟩ = some (.int .u64 WM.x) ∧ w'.cell? ⟨tv, 7, none⟩ = some (um) ∧ w'.cell? ⟨tv, 8, none⟩ = some (.bool lm) := by
 obtain ⟨a0, a1, a2, a3, a4, a5⟩ := Blk.c6g h.a
 obtain ⟨b0, b1, b2, b3, b4, b5⟩ := Blk.c6g h.b
 obtain ⟨c0, c1, c2, c3, c4, c5⟩ := Blk.c6g h.c
 obtain ⟨_, hx⟩ := h.x
 obtain ⟨_, hy⟩ := h.y
 obtain ⟨_, hz⟩ := h.z
 obtain ⟨-, -, x2, x3, x4, x5, x6, x7, x8⟩ := Tp.cells hx
 obtain ⟨-, -, y2, y3, y4, y5, y6, y7, y8⟩ := Tp.cells hy
 obtain ⟨-, -, z2, z3, z4, z5, z6, z7, z8⟩ := Tp.cells hz
 exact ⟨a0, a1, a2, a3, a4, a5, b0, b1, b2, b3, b4, b5, c0, c1, c2, c3, c4, c5, x2, x3, x4, x5, x6, x7, x8, y2, y3, y4, y5, y6, y7, y8, z2, z3, z4, z5, z6, z7, z8⟩
theorem ChW.takeF {B : Nat} {wr : World} {rb : Nat} {b s : Int} {qf qd qm : Nat} {Ff Fd Fm : Nat → Prop} {sf : filC.mac.σ} {sd : draC.mac.σ} {sm : menC.mac.σ} (h : ChW B wr rb b s qf qd qm Ff Fd Fm sf sd sm) (hB : B ≤ wr.heap.size) (x : AN) (hx : inU x.v) (s0 : Option Addr) (sl sc : Nat) (hr : RdB wr (.slice s0 sl sc) x.b) :
  Calls Tryz.prog 34 #[ptr qf, .agg #[.int .u64 x.v, .bool x.d, .slice s0 sl sc]] wr fun e w' => e = .returned (.tuple #[]) ∧ ∃ F', ChW B w' rb b s qf qd qm F' Fd Fm (filC.step sf x) sd sm ∧ Keep Ff wr w' := by
 refine (filTake_any (cur := sf.1) (t := sf.2) x s0 sl sc h.f.1 h.f.2.2 h.f.2.1 (fun _ => hx) hr).mono ?_
 rintro e w' ⟨rfl, h0, F', g1, g2, g3⟩
 exact ⟨rfl, F', h.goF hB h.bx.lt g3 ⟨g1, filC.fin_step fil_enough _ _ h.f.2.1 h.f.2.2, h0⟩ g2, g3⟩
theorem ChW.takeD {B : Nat} {wr : World} {rb : Nat} {b s : Int} {qf qd qm : Nat} {Ff Fd Fm : Nat → Prop} {sf : filC.mac.σ} {sd : draC.mac.σ} {sm : menC.mac.σ} (h : ChW B wr rb b s qf qd qm Ff Fd Fm sf sd sm) (hB : B ≤ wr.heap.size) (x : AN) (hx : inU x.v) (hl : x.b.length ≤ 1000) (s0 : Option Addr) (sl sc : Nat) (hr : RdB wr (.slice s0 sl sc) x.b) :
  Calls Tryz.prog 35 #[ptr qd, .agg #[.int .u64 x.v, .bool x.d, .slice s0 sl sc]] wr fun e w' => e = .returned (.tuple #[]) ∧ ∃ F', ChW B w' rb b s qf qd qm Ff F' Fm sf (draC.step sd x) sm ∧ Keep Fd wr w' := by
 obtain ⟨⟨bx, h1⟩, h2, h3⟩ := h.d
 refine (draTake_any (bx := bx) (cur := sd.1) (t := sd.2) x s0 sl sc h1 h3 h2 (fun _ => ⟨hx, hl⟩) hr).mono ?_
 rintro e w' ⟨rfl, h0, F', g1, g2, g3⟩
 exact ⟨rfl, F', h.goD hB h.bx.lt g3 ⟨⟨bx, g1⟩, draC.fin_step dra_enough _ _ h2 h3, h0⟩ g2, g3⟩
theorem ChW.takeM {B : Nat} {wr : World} {rb : Nat} {b s : Int} {qf qd qm : Nat} {Ff Fd Fm : Nat → Prop} {sf : filC.mac.σ} {sd : draC.mac.σ} {sm : menC.mac.σ} (h : ChW B wr rb b s qf qd qm Ff Fd Fm sf sd sm) (hB : B ≤ wr.heap.size) (x : AN) (hx : inU x.v) (s0 : Option Addr) (sl sc : Nat) (hr : RdB wr (.slice s0 sl sc) x.b) :
  Calls Tryz.prog 36 #[ptr qm, .agg #[.int .u64 x.v, .bool x.d, .slice s0 sl sc]] wr fun e w' => e = .returned (.tuple #[]) ∧ ∃ F', ChW B w' rb b s qf qd qm Ff Fd F' sf sd (menC.step sm x) ∧ Keep Fm wr w' := by
 obtain ⟨⟨bx, h1⟩, h2, h3⟩ := h.m
 refine (menTake_any (bx := bx) (cur := sm.1) (t := sm.2) x s0 sl sc h1 h3 h2 (fun _ => hx) hr).mono ?_
 rintro e w' ⟨rfl, h0, F', g1, g2, g3⟩
 exact ⟨rfl, F', h.goM hB h.bx.lt g3 ⟨⟨bx, g1⟩, menC.fin_step men_enough _ _ h2 h3, h0⟩ g2, g3⟩
theorem take_one {α : Type} {l : List α} {k : Nat} (d : α) (h : k < l.length) : l.take (k + 1) = l.take k ++ [l.getD k d] := by
 rw [List.take_add_one, List.getElem?_eq_getElem h, List.getD_eq_getElem?_getD, List.getElem?_eq_getElem h]
 rfl
set_option maxHeartbeats 8000000 in
theorem chains_any {w : World} {lv : Value} {l : List (Int × List Int)} {t0 : Option Addr} {tc : Nat} {T : List AnsV} (b s tr tm mo : Int) (hr : RdMs w (fun i => i < w.heap.size) lv l) (hib : ∀ x ∈ l, x.1 ≤ 2147483647 ∧ IsB x.2) (hT : RdA w (.slice t0 T.length tc) T) (hS : Sls T) (hTs : RdAs w T) (hu : ∀ i, i < T.length → inU (gA T i).v)
  (hb0 : -9223372036854775808 ≤ b) (hb1 : b ≤ 9223372036854775807) (hs0 : -9223372036854775808 ≤ s) (hs1 : s ≤ 9223372036854775807) (ht1 : tr ≤ 9223372036854775807) (hm1 : mo ≤ 9223372036854775807) :
  Calls Tryz.prog 8 #[.agg #[.int .i64 b, .int .i64 s], lv, .int .i64 tr, .int .i64 tm, .int .i64 mo, .slice t0 T.length tc] w fun e w' => e = .returned (.bool true) ∧ Below w.heap.size w w' := by
 have HR := Lib.hid hr
 have HIB := Lib.hid hib
 have HT := Lib.hid hT
 have HS := Lib.hid hS
 have HTS := Lib.hid hTs
 have HU := Lib.hid hu
 obtain ⟨la, lc, rfl, hlc, hlm⟩ := hr.sl
 obtain ⟨ln, hln⟩ : ∃ ln, ln = l.length := ⟨_, rfl⟩
 have HLN := Lib.hid hln
 obtain ⟨n, hn⟩ : ∃ n, n = T.length := ⟨_, rfl⟩
 have HN := Lib.hid hn
 have hntc : n ≤ tc := by
  rw [hn]
  rcases hT with ⟨e, e2⟩ | ⟨a, c, e, e2, _⟩ | ⟨g, off, cap, e1, e2, _⟩
  ·rw [e2]; exact Nat.zero_le _
  ·rw [e2]; exact Nat.zero_le _
  ·cases e1; exact e2
 rw [← hln] at hlc ⊢
 rw [← hn]
 clear hr hib hT hS hTs hu hln hn
 go_enter Tryz.func8, Tryz.ntmps8
 go_wp2_with fail
 obtain ⟨w0, hw0⟩ : ∃ w0, w0 = w.alloc (Obj.cells #[.int .i64 b, .int .i64 s] 26) := ⟨_, rfl⟩
 have b0 : Below w.heap.size w w0 := by rw [hw0]; go_grown
 have R0 := Lib.hid (show Blk w0 w.heap.size [.int .i64 b, .int .i64 s] by rw [hw0]; exact Blk.made _ _ _)
 have B0 := Lib.hid b0
 have y0 := R0.out.lt
 rw [← hw0]
 clear hw0 b0
 refine (fixed10_any w0).mono ?_
 rintro e w1 ⟨rfl, b1⟩
 have B1 := Lib.hid (B0.out.trans (b1.mono B0.out.size))
 have R1 := Lib.hid (R0.out.below b1 y0)
 clear b1 R0 B0 y0
 go_wp2_with fail
 have hfew := few_any (HR.out.below B1.out)
 rw [← HLN.out] at hfew
 refine hfew.mono ?_
 rintro e w2 ⟨rfl, b2⟩
 obtain ⟨bo, hbo⟩ : ∃ bo, bo = fewB l := ⟨_, rfl⟩
 rw [← hbo]
 have y1 := R1.out.lt
 have B2 := Lib.hid (B1.out.trans (b2.mono B1.out.size))
 have R2 := Lib.hid (R1.out.below b2 y1)
 have HBO := Lib.hid hbo
 clear b2 R1 B1 y1 hbo hfew
 cases bo with
 | false =>
  go_wp2
  go_ret
  exact ⟨rfl, B2.out⟩
 | true =>
 by_cases h60 : (60 : Int) < (n : Int)
 ·go_wp2
  go_ret
  exact ⟨rfl, B2.out⟩
 have hn60 : n ≤ 60 := by omega
 have hsm : (∀ x ∈ l, x.2.length ≤ 300) ∧ l.length ≤ 12 := fewB_true HBO.out.symm
 have HSM := Lib.hid hsm
 clear hsm
 go_wp2_with fail
 go_loopg [46] (n + 1) (fun gk iv wr => ∃ i : Nat, gk + i = n + 1 ∧ i ≤ n ∧ iv = .int .i64 i ∧ (∀ j, j < i → (gA T j).b.length ≤ 100) ∧ Below w2.heap.size w2 wr)
 case atStart => exact ⟨0, by omega, by omega, rfl, fun j h => absurd h (Nat.not_lt_zero _), Below.refl _ _⟩
 case round =>
  obtain ⟨i, hgk, hi, rfl, hsm, hb⟩ := hrel
  have HGK := Lib.hid hgk
  have HSL := Lib.hid hsm
  have HB := Lib.hid hb
  have HBW := Lib.hid (B2.out.trans (hb.mono B2.out.size))
  have W1 : IntKind.i64.wrap ((i : Int) + 1) = (i : Int) + 1 := IntWalk.i64_in _ ⟨by omega, by omega⟩
  clear hgk hsm hb
  by_cases hin : i < n
  ·have hii : (i : Int) < (n : Int) := by omega
   have hiT : i < T.length := by have := HN.out; omega
   have hic : i < T.length := hiT
   obtain ⟨bk, off, rfl, hcell⟩ : ∃ b off, t0 = some ⟨b, off, none⟩ ∧ ∀ i, i < T.length → wr.cell? ⟨b, off + i * 3, none⟩ = some (.int .u64 (gA T i).v) ∧ wr.cell? ⟨b, off + i * 3 + 1, none⟩ = some (.bool (gA T i).d) ∧ wr.cell? ⟨b, off + i * 3 + 2, none⟩ = some (gA T i).s := by
    rcases HT.out.below HBW.out with ⟨_, e⟩ | ⟨_, _, _, e, _⟩ | ⟨b, off, cap, e1, e2, e3, e4⟩
    ·rw [e] at hiT; cases hiT
    ·rw [e] at hiT; cases hiT
    ·cases e1
     exact ⟨b, off, rfl, e4⟩
   obtain ⟨y0, y1, y2⟩ := hcell i hiT
   obtain ⟨sa, sn, scc, hsv⟩ := HS.out i hiT
   have hrj : RdB w (.slice sa sn scc) (gA T i).b := by rw [← hsv]; exact HTS.out i hiT
   rw [hsv] at y2
   have HSN := Lib.hid (rd_len hrj)
   clear hcell hsv hrj
   by_cases hbig : (100 : Int) < (sn : Int)
   ·go_wp2
    go_ret
    exact ⟨rfl, HBW.out.alloc HBW.out.size _⟩
   ·go_wp2_with fail
    go_roundg (n - i)
    case measure => have := HGK.out; omega
    case rel =>
     refine ⟨i + 1, by omega, by omega, by go_num, fun j hj => ?_, HB.out.alloc HB.out.size _⟩
     by_cases hji : j < i
     ·exact HSL.out j hji
     ·obtain rfl : j = i := by omega
      have := HSN.out
      omega
  ·obtain rfl : i = n := by omega
   have hnl : ¬ (i : Int) < (i : Int) := by omega
   have R3 := Lib.hid (R2.out.below HB.out R2.out.lt)
   have r0 := R3.out.cell 0
   have r1 := R3.out.cell 1
   have lr := R3.out.lt
   simp only [List.getElem?_cons_zero, List.getElem?_cons_succ] at r0 r1
   have M3 := Lib.hid (HR.out.below HBW.out)
   rw [← HLN.out] at M3
   have HIB3 : Hid (∀ x ∈ l, IsB x.2 ∧ x.2.length ≤ 70368744177664) := Lib.hid (fun x hx => ⟨(HIB.out x hx).2, by have := HSM.out.1 x hx; omega⟩)
   go_upto_region 11 with fail
   go_cut [15, 16, 17] (fun x y z wx => ∃ qf qd qm Ff Fd Fm, x = ptr qf ∧ y = ptr qd ∧ z = ptr qm ∧ ChW (w.heap.size + 1) wx w.heap.size b s qf qd qm Ff Fd Fm (filC.aft (⟨b, s, l.take 64, max tr 0, [], []⟩ : FilT) []) (draC.aft (⟨b, s, min tm 64, mo, []⟩ : DraT) []) (menC.aft (⟨b, s, min tm 64, 0⟩ : MenT) []) ∧ Below w.heap.size w wx)
   case first =>
    as_aux_lemma =>
     go_region_held3 (fun w' => w'.cell? ⟨w.heap.size, 0, none⟩ = some (.int .i64 b) ∧ w'.cell? ⟨w.heap.size, 1, none⟩ = some (.int .i64 s)) (first | go_keep | trivial)
      (first
       | (go_at_call 29; refine (filNew_any b s tr _ l _ _ (M3.out.below (bel_drewN 1 (Below.refl _ _))) HIB3.out hb0 hb1 hs0 hs1 ht1).mono ?_; rintro e w4 ⟨qf, Ff, rfl, hqf, hif, hFf, b4⟩; have BB4 := Lib.hid (bel_drewP b4); have HIF := Lib.hid hif; have HFF := Lib.hid hFf; have hc4 := fun o => BB4.out.cell (p := ⟨w.heap.size, o, none⟩) lr; have z4 := BB4.out.size; clear hif hFf)
       | (go_at_call 30; refine (draNew_any b s tm mo w4 hb0 hb1 hs0 hs1).mono ?_; rintro e w5 ⟨qd, Fd, rfl, hqd, hid, hFd, b5⟩; have BB5 := Lib.hid b5; have HID := Lib.hid hid; have HFD := Lib.hid hFd; have hc5 := fun o => BB5.out.cell (p := ⟨w.heap.size, o, none⟩) (by show w.heap.size < _; omega); have z5 := BB5.out.size; clear hid hFd)
       | (go_at_call 43; refine (menNew_any b s tm w5 hb0 hb1 hs0 hs1).mono ?_; rintro e w6 ⟨qm, Fm, rfl, hqm, him, hFm, b6⟩; have BB6 := Lib.hid b6; have HIM := Lib.hid him; have HFM := Lib.hid hFm; have hc6 := fun o => BB6.out.cell (p := ⟨w.heap.size, o, none⟩) (by show w.heap.size < _; omega); have z6 := BB6.out.size; clear him hFm))
     all_goals (
      have HFS := Lib.hid (filFam.dom HIF.out).2
      have HDS := Lib.hid (draFam.dom HID.out).2
      have HC : Hid (ChW (w.heap.size + 1) w6 w.heap.size b s qf qd qm Ff Fd Fm (filC.aft (⟨b, s, l.take 64, max tr 0, [], []⟩ : FilT) []) (draC.aft (⟨b, s, min tm 64, mo, []⟩ : DraT) []) (menC.aft (⟨b, s, min tm 64, 0⟩ : MenT) [])) := Lib.hid ⟨((R3.out.below BB4.out lr).below BB5.out (by omega)).below BB6.out (by omega), filFam.keep (filFam.keep HIF.out (Below.keeps (M := fun _ => False) BB5.out) (fun _ _ => id)) (Below.keeps (M := fun _ => False) BB6.out) (fun _ _ => id), draFam.keep HID.out (Below.keeps (M := fun _ => False) BB6.out) (fun _ _ => id), HIM.out, by
       rintro j (hj | hj | hj)
       ·have := HFF.out j hj
        simp at this
        exact ⟨by omega, by omega⟩
       ·have := HFD.out j hj
        exact ⟨by omega, by omega⟩
       ·have := HFM.out j hj
        exact ⟨by omega, by omega⟩, fun j hj => ⟨fun h => by have := HFS.out j hj; have := HFD.out j h; omega, fun h => by have := HFS.out j hj; have := HFM.out j h; omega⟩, fun j hj h => by have := HDS.out j hj; have := HFM.out j h; omega⟩
      have HBB : Hid (Below w.heap.size w w6) := Lib.hid (((HBW.out.trans (BB4.out.mono HBW.out.size)).trans (BB5.out.mono (by omega))).trans (BB6.out.mono (by omega)))
      clear hc4 hc5 hc6
      unfold ptr
      go_wp2_with fail
      go_meet
      exact ⟨qf, qd, qm, Ff, Fd, Fm, rfl, rfl, rfl, HC.out, HBB.out⟩)
   case rest =>
    obtain ⟨qf, qd, qm, Ff, Fd, Fm, rfl, rfl, rfl, hcw, hbw⟩ := hcut
    have HCW := Lib.hid hcw
    have HBW2 := Lib.hid hbw
    clear hcw hbw r0 r1
    unfold ptr
    go_wp2_with fail
    go_loopg [18] (i + 2) (fun gk iv wr => ∃ (k : Nat) (Ff Fd Fm : Nat → Prop), gk + k = i + 2 ∧ k ≤ i + 1 ∧ iv = .int .i64 k ∧ ChW (w.heap.size + 1) wr w.heap.size b s qf qd qm Ff Fd Fm (filC.aft (⟨b, s, l.take 64, max tr 0, [], []⟩ : FilT) (T.take k)) (draC.aft (⟨b, s, min tm 64, mo, []⟩ : DraT) (T.take k)) (menC.aft (⟨b, s, min tm 64, 0⟩ : MenT) (T.take k)) ∧ Below w.heap.size w wr)
    case atStart => exact ⟨0, Ff, Fd, Fm, by omega, by omega, rfl, by simpa using HCW.out, HBW2.out⟩
    case round =>
     clear HCW HBW2
     obtain ⟨k, Ff, Fd, Fm, hgk, hki, rfl, hcw, hbw⟩ := hrel
     have HCW := Lib.hid hcw
     have HBW := Lib.hid hbw
     have HGK := Lib.hid hgk
     clear hgk hcw hbw
     by_cases hkn : k ≤ i
     ·have hkn' : (k : Int) ≤ (i : Int) := by omega
      have hkc : (k : Int) ≤ (tc : Int) := by omega
      go_upto_region 15 with fail
      go_cut [19, 20, 21] (fun x y z wx => ∃ ta tu tv, x = ptr ta ∧ y = ptr tu ∧ z = ptr tv ∧ Tp wx ta (.slice t0 k tc) 0 accZ false ∧ Tp wx tu (.slice t0 k tc) 0 accZ false ∧ Tp wx tv (.slice t0 k tc) 0 accZ false ∧ wr.heap.size ≤ ta ∧ wr.heap.size ≤ tu ∧ wr.heap.size ≤ tv ∧ ta ≠ tu ∧ ta ≠ tv ∧ tu ≠ tv ∧ Below wr.heap.size wr wx)
      case first =>
       as_aux_lemma =>
        obtain ⟨p1, p2, p3, p4⟩ := tapes3 wr (.slice t0 k tc)
        have P1 := Lib.hid p1
        have P2 := Lib.hid p2
        have P3 := Lib.hid p3
        have P4 := Lib.hid p4
        clear p1 p2 p3 p4
        go_region
        all_goals (
         go_wp2_with fail
         go_meet
         exact ⟨_, _, _, rfl, rfl, rfl, by first | exact P1.out | exact P2.out | exact P3.out, by first | exact P1.out | exact P2.out | exact P3.out, by first | exact P1.out | exact P2.out | exact P3.out, by omega, by omega, by omega, by omega, by omega, by omega, P4.out⟩)
      case rest =>
       obtain ⟨ta, tu, tv, rfl, rfl, rfl, ha, hu1, hv, la1, lu1, lv1, n1, n2, n3, b4⟩ := hcut
       have HA := Lib.hid ha
       have HU1 := Lib.hid hu1
       have HV := Lib.hid hv
       have C4 := Lib.hid (HCW.out.below b4)
       have B4 := Lib.hid (HBW.out.trans (b4.mono HBW.out.size))
       have hts : (T.take k).length = k := by rw [List.length_take]; have := HN.out; omega
       have HTK := Lib.hid hts
       have TA : Hid (∀ w' t, Below w.heap.size w w' → w.heap.size ≤ t → TOk w' t (.slice t0 k tc) (T.take k)) := Lib.hid (fun w' t bb ht => by
        have hd : RdA w (.slice t0 (T.take k).length tc) (T.take k) := by rw [hts]; exact rdA_take HT.out k (by have := HN.out; omega)
        have := TOk.mk1 hd (fun i hi => by rw [hts] at hi; rw [gA_take _ _ _ hi]; exact HS.out i (by have := HN.out; omega)) (HTS.out.take k) (by rw [hts]; omega) bb ht
        rw [hts] at this
        exact this)
       have HUK : Hid (∀ i, i < (T.take k).length → inU (gA (T.take k) i).v) := Lib.hid (fun i hi => by rw [hts] at hi; rw [gA_take _ _ _ hi]; exact HU.out i (by have := HN.out; omega))
       have HLK : Hid (∀ i, i < (T.take k).length → (gA (T.take k) i).b.length ≤ 1000) := Lib.hid (fun i hi => by rw [hts] at hi; rw [gA_take _ _ _ hi]; have := HSL.out i (by omega); omega)
       have z4 := b4.size
       clear ha hu1 hv b4 hts
       have r0 := C4.out.bx.cell 0
       have r1 := C4.out.bx.cell 1
       have lr4 := C4.out.bx.lt
       simp only [List.getElem?_cons_zero, List.getElem?_cons_succ] at r0 r1
       unfold ptr
       obtain ⟨sf, hsf⟩ : ∃ sf, sf = filC.aft (⟨b, s, l.take 64, max tr 0, [], []⟩ : FilT) (T.take k) := ⟨_, rfl⟩
       obtain ⟨sd, hsd⟩ : ∃ sd, sd = draC.aft (⟨b, s, min tm 64, mo, []⟩ : DraT) (T.take k) := ⟨_, rfl⟩
       obtain ⟨sm, hsm2⟩ : ∃ sm, sm = menC.aft (⟨b, s, min tm 64, 0⟩ : MenT) (T.take k) := ⟨_, rfl⟩
       rw [← hsf, ← hsd, ← hsm2] at C4
       have HSF := Lib.hid hsf
       have HSD := Lib.hid hsd
       have HSM2 := Lib.hid hsm2
       have ltw : w.heap.size < wr.heap.size := HCW.out.bx.lt
       have FL := Lib.hid (refFill_any (tb := ta) (k0 := 0) (T := T.take k) (tr := tr) HA.out (TA.out wc ta B4.out (by omega)) (Nat.zero_le _) HUK.out (HR.out.below B4.out) (by omega) (fun x hx => (HIB.out x hx).1) hb0 hb1 hs0 hs1 ht1)
       rw [← HLN.out] at FL
       have HCLT := Lib.hid HCW.out.lt
       clear hsf hsd hsm2 HCW
       go_wp2_with fail
       refine FL.out.mono ?_
       rintro e w5 ⟨k5, cur, t1, L1, dv, pv, hE, rfl, hfr, hd1, hp1, hat⟩
       have hst : (cur, t1) = sf := HSF.out ▸ fil_aft hE
       subst hst
       obtain ⟨da, dl, dc, rfl⟩ := own_isSl hfr.od
       obtain ⟨pa, pl, pc, rfl⟩ := own_isSl hfr.op
       have z5 := k5.size
       have lta : ta < wc.heap.size := HA.out.lt
       have ltu : tu < wc.heap.size := HU1.out.lt
       have ltv : tv < wc.heap.size := HV.out.lt
       have X1 : Hid (TpR w5 ta (.slice t0 k tc) (filC.want (cur, t1)) cur.isSome) := Lib.hid hat.allC
       have HFR1 : Hid (FiR wc.heap.size w5 (.slice da dl dc) (.slice pa pl pc) (FilT.done t1) (FilT.places t1)) := Lib.hid hfr
       have HL1 := Lib.hid (And.intro hd1 hp1)
       have C5 := Lib.hid (C4.out.keep k5 (by show ¬ w.heap.size = ta; omega) (fun j hj e => by have e : j = ta := e; have := HCLT.out j hj; omega))
       have U5 := Lib.hid (Blk.keep HU1.out k5 (fun e => n1 e.symm))
       have V5 := Lib.hid (Blk.keep HV.out k5 (fun e => n2 e.symm))
       have B5 := Lib.hid (B4.out.trans (k5.below B4.out.size (fun j hj e => by have e : j = ta := e; omega)))
       have l5 : w.heap.size < w5.heap.size := by omega
       have DR := Lib.hid (refDrain_any (tb := tu) (k0 := 0) (T := T.take k) (tm := tm) (mo := mo) U5.out (TA.out w5 tu B5.out (by omega)) (Nat.zero_le _) HUK.out HLK.out hb0 hb1 hs0 hs1 hm1)
       have r0 := C5.out.bx.cell 0
       have r1 := C5.out.bx.cell 1
       simp only [List.getElem?_cons_zero, List.getElem?_cons_succ] at r0 r1
       clear hat hfr hd1 hp1 hE k5 FL HA HU1 HV C4 B4
       go_wp2_with fail
       refine DR.out.mono ?_
       rintro e w6 ⟨k6, cur2, t2, L2, ov, hE, rfl, hms, hml, hat⟩
       have hst : (cur2, t2) = sd := HSD.out ▸ dra_aft hE
       subst hst
       have z6 := k6.size
       have X2 : Hid (TpR w6 tu (.slice t0 k tc) (draC.want (cur2, t2)) cur2.isSome) := Lib.hid hat.allC
       have X1 := Lib.hid (X1.out.keepT k6 U5.out n1)
       have HFR1 := Lib.hid (HFR1.out.keep k6 (fun j hj e => by have e : j = tu := e; omega))
       have HMS1 := Lib.hid (And.intro hms hml)
       have C6 := Lib.hid (C5.out.keep k6 (by show ¬ w.heap.size = tu; omega) (fun j hj e => by have e : j = tu := e; have := HCLT.out j hj; omega))
       have V6 := Lib.hid (Blk.keep V5.out k6 (fun e => n3 e.symm))
       have B6 := Lib.hid (B5.out.trans (k6.below B5.out.size (fun j hj e => by have e : j = tu := e; omega)))
       have l6 : w.heap.size < w6.heap.size := by omega
       have MR := Lib.hid (refMend_any (tb := tv) (k0 := 0) (T := T.take k) (tm := tm) V6.out (TA.out w6 tv B6.out (by omega)) (Nat.zero_le _) HUK.out hb0 hb1 hs0 hs1)
       have r0 := C6.out.bx.cell 0
       have r1 := C6.out.bx.cell 1
       simp only [List.getElem?_cons_zero, List.getElem?_cons_succ] at r0 r1
       clear hat hms hml hE k6 DR C5 B5 U5
       go_wp2_with fail
       refine MR.out.mono ?_
       rintro e w7 ⟨k7, cur3, t3, L3, hE, rfl, hat⟩
       have hst : (cur3, t3) = sm := HSM2.out ▸ men_aft hE
       subst hst
       have z7 := k7.size
       have X3 : Hid (TpR w7 tv (.slice t0 k tc) (menC.want (cur3, t3)) cur3.isSome) := Lib.hid hat.allC
       have X1 := Lib.hid (X1.out.keepT k7 V6.out n2)
       have X2 := Lib.hid (X2.out.keepT k7 V6.out n3)
       have HFR1 := Lib.hid (HFR1.out.keep k7 (fun j hj e => by have e : j = tv := e; omega))
       have HMS1 := Lib.hid (And.intro (HMS1.out.1.keep k7 (fun j hj e => by have e : j = tv := e; omega)) HMS1.out.2)
       have C7 := Lib.hid (C6.out.keep k7 (by show ¬ w.heap.size = tv; omega) (fun j hj e => by have e : j = tv := e; have := HCLT.out j hj; omega))
       have B7 := Lib.hid (B6.out.trans (k7.below B6.out.size (fun j hj e => by have e : j = tv := e; omega)))
       clear hat hE k7 MR C6 B6 V5 V6 r0 r1
       obtain ⟨WF, hWF⟩ : ∃ W : AA, W = filC.want (cur, t1) := ⟨_, rfl⟩
       obtain ⟨lf, hlf⟩ : ∃ lv : Bool, lv = cur.isSome := ⟨_, rfl⟩
       rw [← hWF, ← hlf] at X1
       have HWF := Lib.hid hWF
       have Hlf := Lib.hid hlf
       obtain ⟨WD, hWD⟩ : ∃ W : AA, W = draC.want (cur2, t2) := ⟨_, rfl⟩
       obtain ⟨ld, hld⟩ : ∃ lv : Bool, lv = cur2.isSome := ⟨_, rfl⟩
       rw [← hWD, ← hld] at X2
       have HWD := Lib.hid hWD
       have Hld := Lib.hid hld
       obtain ⟨WM, hWM⟩ : ∃ W : AA, W = menC.want (cur3, t3) := ⟨_, rfl⟩
       obtain ⟨lm, hlm⟩ : ∃ lv : Bool, lv = cur3.isSome := ⟨_, rfl⟩
       rw [← hWM, ← hlm] at X3
       have HWM := Lib.hid hWM
       have Hlm := Lib.hid hlm
       have NF : Hid (∀ w', Below w7.heap.size w7 w' → Calls Tryz.prog 37 #[.pointer (some ⟨qf, 0, none⟩)] w' fun e w'' => ∃ s0 sl sc, e = .returned (.tuple #[WF.V (.slice s0 sl sc), .bool lf]) ∧ RdB w'' (.slice s0 sl sc) WF.b ∧ Below w'.heap.size w' w'') := Lib.hid (fun w' bb => by rw [HWF.out, Hlf.out]; exact filNext_any (C7.out.below bb).f.1 C7.out.f.2.1)
       have ND : Hid (∀ w', Below w7.heap.size w7 w' → Calls Tryz.prog 38 #[.pointer (some ⟨qd, 0, none⟩)] w' fun e w'' => ∃ s0 sl sc, e = .returned (.tuple #[WD.V (.slice s0 sl sc), .bool ld]) ∧ RdB w'' (.slice s0 sl sc) WD.b ∧ Below w'.heap.size w' w'') := Lib.hid (fun w' bb => by rw [HWD.out, Hld.out]; obtain ⟨⟨bx, h1⟩, h2, _⟩ := (C7.out.below bb).d; exact draNext_any h1 h2)
       have NM : Hid (∀ w', Below w7.heap.size w7 w' → Calls Tryz.prog 39 #[.pointer (some ⟨qm, 0, none⟩)] w' fun e w'' => ∃ s0 sl sc, e = .returned (.tuple #[WM.V (.slice s0 sl sc), .bool lm]) ∧ RdB w'' (.slice s0 sl sc) WM.b ∧ Below w'.heap.size w' w'') := Lib.hid (fun w' bb => by rw [HWM.out, Hlm.out]; obtain ⟨⟨bx, h1⟩, h2, _⟩ := (C7.out.below bb).m; exact menNext_any h1 h2)
       clear hWF hWD hWM hlf hld hlm
       go_wp2_with fail
       refine (NF.out w7 (Below.refl _ _)).mono ?_
       rintro e w8 ⟨a0, an, ac, rfl, hr8, b8⟩
       unfold AA.V
       dsimp only
       have B8 := Lib.hid b8
       have RF8 := Lib.hid hr8
       clear hr8 b8 NF
       go_wp2_with fail
       obtain ⟨w9, hw9⟩ : ∃ w9, w9 = w8.alloc (Obj.cells #[.int .i64 WF.k, .int .i64 WF.a, .int .i64 WF.n, .int .u64 WF.v, .int .u64 WF.x, .slice a0 an ac] 37) := ⟨_, rfl⟩
       have b9 : Below w8.heap.size w8 w9 := by rw [hw9]; exact (Below.refl _ _).alloc (Nat.le_refl _) _
       have AF9 := Lib.hid (show Blk w9 w8.heap.size [.int .i64 WF.k, .int .i64 WF.a, .int .i64 WF.n, .int .u64 WF.v, .int .u64 WF.x, .slice a0 an ac] by rw [hw9]; exact Blk.made w8 _ _)
       have z9 : w9.heap.size = w8.heap.size + 1 := by rw [hw9]; simp
       rw [← hw9]
       have B9 := Lib.hid (B8.out.trans (b9.mono B8.out.size))
       have RF9 := Lib.hid (RF8.out.below b9)
       obtain ⟨af, haf⟩ : ∃ af, af = w8.heap.size := ⟨_, rfl⟩
       rw [← haf] at AF9 ⊢
       clear hw9 b9 B8 RF8
       refine (ND.out w9 B9.out).mono ?_
       rintro e w10 ⟨d0, dn, dcc, rfl, hr10, b10⟩
       unfold AA.V
       dsimp only
       have B10 := Lib.hid (B9.out.trans (b10.mono B9.out.size))
       have RD10 := Lib.hid hr10
       have AF10 := Lib.hid (AF9.out.below b10 AF9.out.lt)
       have RF10 := Lib.hid (RF9.out.below b10)
       clear hr10 b10 ND AF9 RF9 B9
       go_wp2_with fail
       obtain ⟨w11, hw11⟩ : ∃ w11, w11 = w10.alloc (Obj.cells #[.int .i64 WD.k, .int .i64 WD.a, .int .i64 WD.n, .int .u64 WD.v, .int .u64 WD.x, .slice d0 dn dcc] 37) := ⟨_, rfl⟩
       have b11 : Below w10.heap.size w10 w11 := by rw [hw11]; exact (Below.refl _ _).alloc (Nat.le_refl _) _
       have AD11 := Lib.hid (show Blk w11 w10.heap.size [.int .i64 WD.k, .int .i64 WD.a, .int .i64 WD.n, .int .u64 WD.v, .int .u64 WD.x, .slice d0 dn dcc] by rw [hw11]; exact Blk.made w10 _ _)
       have z11 : w11.heap.size = w10.heap.size + 1 := by rw [hw11]; simp
       rw [← hw11]
       have B11 := Lib.hid (B10.out.trans (b11.mono B10.out.size))
       have RF11 := Lib.hid (RF10.out.below b11)
       have RD11 := Lib.hid (RD10.out.below b11)
       have AF11 := Lib.hid (AF10.out.below b11 AF10.out.lt)
       obtain ⟨ad, had⟩ : ∃ ad, ad = w10.heap.size := ⟨_, rfl⟩
       rw [← had] at AD11 ⊢
       clear hw11 b11 B10 RF10 RD10 AF10
       refine (NM.out w11 B11.out).mono ?_
       rintro e w12 ⟨m0, mn, mc, rfl, hr12, b12⟩
       unfold AA.V
       dsimp only
       have B12 := Lib.hid (B11.out.trans (b12.mono B11.out.size))
       have RM12 := Lib.hid hr12
       have RD12 := Lib.hid (RD11.out.below b12)
       have RF12 := Lib.hid (RF11.out.below b12)
       have AF12 := Lib.hid (AF11.out.below b12 AF11.out.lt)
       have AD12 := Lib.hid (AD11.out.below b12 AD11.out.lt)
       clear hr12 b12 NM AF11 RF11 AD11 RD11 B11
       go_wp2_with fail
       obtain ⟨w13, hw13⟩ : ∃ w13, w13 = w12.alloc (Obj.cells #[.int .i64 WM.k, .int .i64 WM.a, .int .i64 WM.n, .int .u64 WM.v, .int .u64 WM.x, .slice m0 mn mc] 37) := ⟨_, rfl⟩
       have b13 : Below w12.heap.size w12 w13 := by rw [hw13]; exact (Below.refl _ _).alloc (Nat.le_refl _) _
       have AM13 := Lib.hid (show Blk w13 w12.heap.size [.int .i64 WM.k, .int .i64 WM.a, .int .i64 WM.n, .int .u64 WM.v, .int .u64 WM.x, .slice m0 mn mc] by rw [hw13]; exact Blk.made w12 _ _)
       rw [← hw13]
       have B13 := Lib.hid (B12.out.trans (b13.mono B12.out.size))
       have RF13 := Lib.hid (RF12.out.below b13)
       have RD13 := Lib.hid (RD12.out.below b13)
       have RM13 := Lib.hid (RM12.out.below b13)
       have AF13 := Lib.hid (AF12.out.below b13 AF12.out.lt)
       have AD13 := Lib.hid (AD12.out.below b13 AD12.out.lt)
       obtain ⟨am, ham⟩ : ∃ am, am = w12.heap.size := ⟨_, rfl⟩
       rw [← ham] at AM13 ⊢
       clear hw13 b13 B12 RF12 RD12 RM12 AF12 AD12
       have X1 := Lib.hid (X1.out.below B13.out)
       have X2 := Lib.hid (X2.out.below B13.out)
       have X3 := Lib.hid (X3.out.below B13.out)
       have C13 := Lib.hid (C7.out.below B13.out)
       have HFR1 := Lib.hid (HFR1.out.below B13.out)
       have HMS1 := Lib.hid (And.intro (HMS1.out.1.keep (K := fun _ => False) (Below.keeps B13.out) (fun _ _ => id)) HMS1.out.2)
       have z13 := B13.out.size
       have B13w := Lib.hid (B7.out.trans (B13.out.mono B7.out.size))
       obtain ⟨K1, u0, ul, uc, TP1, RU⟩ := X1.out
       obtain ⟨K2, v0, vl, vc, TP2, RV⟩ := X2.out
       obtain ⟨K3, y0, yl, yc, TP3, RY⟩ := X3.out
       have HA3 : Hid (A3 w13 af ad am ta tu tv (.slice t0 k tc) WF WD WM lf ld lm (.slice a0 an ac) (.slice d0 dn dcc) (.slice m0 mn mc) (.slice u0 ul uc) (.slice v0 vl vc) (.slice y0 yl yc)) := Lib.hid ⟨AF13.out, AD13.out, AM13.out, ⟨_, TP1⟩, ⟨_, TP2⟩, ⟨_, TP3⟩⟩
       have RU13 := Lib.hid RU
       have RV13 := Lib.hid RV
       have RY13 := Lib.hid RY
       clear TP1 TP2 TP3 RU RV RY X1 X2 X3 AF13 AD13 AM13 C7 B7 B13 ham had haf
       go_upto_region 22 with fail
       go_cut [167] (fun x wx => x = .bool false ∧ Below w13.heap.size w13 wx)
       case first =>
        as_aux_lemma =>
         refine wp_region_held_drew (S := (fun w' => w'.cell? ⟨af, 0, none⟩ = some (.int .i64 WF.k) ∧ w'.cell? ⟨af, 1, none⟩ = some (.int .i64 WF.a) ∧ w'.cell? ⟨af, 2, none⟩ = some (.int .i64 WF.n) ∧ w'.cell? ⟨af, 3, none⟩ = some (.int .u64 WF.v) ∧ w'.cell? ⟨af, 4, none⟩ = some (.int .u64 WF.x) ∧ w'.cell? ⟨af, 5, none⟩ = some (.slice a0 an ac) ∧ w'.cell? ⟨ad, 0, none⟩ = some (.int .i64 WD.k) ∧ w'.cell? ⟨ad, 1, none⟩ = some (.int .i64 WD.a) ∧ w'.cell? ⟨ad, 2, none⟩ = some (.int .i64 WD.n) ∧ w'.cell? ⟨ad, 3, none⟩ = some (.int .u64 WD.v) ∧ w'.cell? ⟨ad, 4, none⟩ = some (.int .u64 WD.x) ∧ w'.cell? ⟨ad, 5, none⟩ = some (.slice d0 dn dcc) ∧ w'.cell? ⟨am, 0, none⟩ = some (.int .i64 WM.k) ∧ w'.cell? ⟨am, 1, none⟩ = some (.int .i64 WM.a) ∧ w'.cell? ⟨am, 2, none⟩ = some (.int .i64 WM.n) ∧ w'.cell? ⟨am, 3, none⟩ = some (.int .u64 WM.v) ∧ w'.cell? ⟨am, 4, none⟩ = some (.int .u64 WM.x) ∧ w'.cell? ⟨am, 5, none⟩ = some (.slice m0 mn mc) ∧ w'.cell? ⟨ta, 2, none⟩ = some (.int .i64 WF.k) ∧ w'.cell? ⟨ta, 3, none⟩ = some (.int .i64 WF.a) ∧ w'.cell? ⟨ta, 4, none⟩ = some (.int .i64 WF.n) ∧ w'.cell? ⟨ta, 5, none⟩ = some (.int .u64 WF.v) ∧ w'.cell? ⟨ta, 6, none⟩ = some (.int .u64 WF.x) ∧ w'.cell? ⟨ta, 7, none⟩ = some (.slice u0 ul uc) ∧ w'.cell? ⟨ta, 8, none⟩ = some (.bool lf) ∧ w'.cell? ⟨tu, 2, none⟩ = some (.int .i64 WD.k) ∧ w'.cell? ⟨tu, 3, none⟩ = some (.int .i64 WD.a) ∧ w'.cell? ⟨tu, 4, none⟩ = some (.int .i64 WD.n) ∧ w'.cell? ⟨tu, 5, none⟩ = some (.int .u64 WD.v) ∧ w'.cell? ⟨tu, 6, none⟩ = some (.int .u64 WD.x) ∧ w'.cell? ⟨tu, 7, none⟩ = some (.slice v0 vl vc) ∧ w'.cell? ⟨tu, 8, none⟩ = some (.bool ld) ∧ w'.cell? ⟨tv, 2, none⟩ = some (.int .i64 WM.k) ∧ w'.cell? ⟨tv, 3, none⟩ = some (.int .i64 WM.a) ∧ w'.cell? ⟨tv, 4, none⟩ = some (.int .i64 WM.n) ∧ w'.cell? ⟨tv, 5, none⟩ = some (.int .u64 WM.v) ∧ w'.cell? ⟨tv, 6, none⟩ = some (.int .u64 WM.x) ∧ w'.cell? ⟨tv, 7, none⟩ = some (.slice y0 yl yc) ∧ w'.cell? ⟨tv, 8, none⟩ = some (.bool lm))) (by kernel_rfl) ?_ (fun hHeld => ?_)
         ·try dsimp only
          exact (HA3.out.below (bel_drewN 1 (Below.refl w13.heap.size w13))).cells
         refine wpAnyH_take (i := 0) (v := ?_) rfl (by kernel_rfl) (by kernel_rfl) (by kernel_rfl) (fun _ _ _ h => h) (Or.inl ⟨by rfl, ?_⟩) (by assumption) ?_
         rotate_left
         ·intro w0 hSw
          (try dsimp only at hSw)
          go_simp
          try with_reducible rfl
         try simp only [Act.put, List.getElem_toArray, List.getElem_cons_zero, List.getElem_cons_succ, List.setIfInBounds_toArray, List.set_cons_zero, List.set_cons_succ]
         refine wpAnyH_take (i := 1) (v := ?_) rfl (by kernel_rfl) (by kernel_rfl) (by kernel_rfl) (fun _ _ _ h => h) (Or.inl ⟨by rfl, ?_⟩) (by assumption) ?_
         rotate_left
         ·intro w0 hSw
          (try dsimp only at hSw)
          go_simp
          try with_reducible rfl
         try simp only [Act.put, List.getElem_toArray, List.getElem_cons_zero, List.getElem_cons_succ, List.setIfInBounds_toArray, List.set_cons_zero, List.set_cons_succ]
         refine wpAnyH_take (i := 2) (v := ?_) rfl (by kernel_rfl) (by kernel_rfl) (by kernel_rfl) (fun _ _ _ h => h) (Or.inl ⟨by rfl, ?_⟩) (by assumption) ?_
         rotate_left
         ·intro w0 hSw
          (try dsimp only at hSw)
          go_simp
          try with_reducible rfl
         try simp only [Act.put, List.getElem_toArray, List.getElem_cons_zero, List.getElem_cons_succ, List.setIfInBounds_toArray, List.set_cons_zero, List.set_cons_succ]
         refine wpAnyH_take (i := 3) (v := ?_) rfl (by kernel_rfl) (by kernel_rfl) (by kernel_rfl) (fun _ _ _ h => h) (Or.inl ⟨by rfl, ?_⟩) (by assumption) ?_
         rotate_left
         ·intro w0 hSw
          (try dsimp only at hSw)
          go_simp
          try with_reducible rfl
         try simp only [Act.put, List.getElem_toArray, List.getElem_cons_zero, List.getElem_cons_succ, List.setIfInBounds_toArray, List.set_cons_zero, List.set_cons_succ]
         refine wpAnyH_take (i := 4) (v := ?_) rfl (by kernel_rfl) (by kernel_rfl) (by kernel_rfl) (fun _ _ _ h => h) (Or.inl ⟨by rfl, ?_⟩) (by assumption) ?_
         rotate_left
         ·intro w0 hSw
          (try dsimp only at hSw)
          go_simp
          try with_reducible rfl
         try simp only [Act.put, List.getElem_toArray, List.getElem_cons_zero, List.getElem_cons_succ, List.setIfInBounds_toArray, List.set_cons_zero, List.set_cons_succ]
         refine wpAnyH_take (i := 5) (v := ?_) rfl (by kernel_rfl) (by kernel_rfl) (by kernel_rfl) (fun _ _ _ h => h) (Or.inl ⟨by rfl, ?_⟩) (by assumption) ?_
         rotate_left
         ·intro w0 hSw
          (try dsimp only at hSw)
          go_simp
          try with_reducible rfl
         try simp only [Act.put, List.getElem_toArray, List.getElem_cons_zero, List.getElem_cons_succ, List.setIfInBounds_toArray, List.set_cons_zero, List.set_cons_succ]
         refine wpAnyH_take (i := 6) (v := ?_) rfl (by kernel_rfl) (by kernel_rfl) (by kernel_rfl) (fun _ _ _ h => h) (Or.inl ⟨by rfl, ?_⟩) (by assumption) ?_
         rotate_left
         ·intro w0 hSw
          (try dsimp only at hSw)
          go_simp
          try with_reducible rfl
         try simp only [Act.put, List.getElem_toArray, List.getElem_cons_zero, List.getElem_cons_succ, List.setIfInBounds_toArray, List.set_cons_zero, List.set_cons_succ]
         refine wpAnyH_take (i := 7) (v := ?_) rfl (by kernel_rfl) (by kernel_rfl) (by kernel_rfl) (fun _ _ _ h => h) (Or.inl ⟨by rfl, ?_⟩) (by assumption) ?_
         rotate_left
         ·intro w0 hSw
          (try dsimp only at hSw)
          go_simp
          try with_reducible rfl
         try simp only [Act.put, List.getElem_toArray, List.getElem_cons_zero, List.getElem_cons_succ, List.setIfInBounds_toArray, List.set_cons_zero, List.set_cons_succ]
         refine wpAnyH_take (i := 8) (v := ?_) rfl (by kernel_rfl) (by kernel_rfl) (by kernel_rfl) (fun _ _ _ h => h) (Or.inl ⟨by rfl, ?_⟩) (by assumption) ?_
         rotate_left
         ·intro w0 hSw
          (try dsimp only at hSw)
          go_simp
          try with_reducible rfl
         try simp only [Act.put, List.getElem_toArray, List.getElem_cons_zero, List.getElem_cons_succ, List.setIfInBounds_toArray, List.set_cons_zero, List.set_cons_succ]
         refine wpAnyH_take (i := 9) (v := ?_) rfl (by kernel_rfl) (by kernel_rfl) (by kernel_rfl) (fun _ _ _ h => h) (Or.inl ⟨by rfl, ?_⟩) (by assumption) ?_
         rotate_left
         ·intro w0 hSw
          (try dsimp only at hSw)
          go_simp
          try with_reducible rfl
         try simp only [Act.put, List.getElem_toArray, List.getElem_cons_zero, List.getElem_cons_succ, List.setIfInBounds_toArray, List.set_cons_zero, List.set_cons_succ]
         refine wpAnyH_take (i := 10) (v := ?_) rfl (by kernel_rfl) (by kernel_rfl) (by kernel_rfl) (fun _ _ _ h => h) (Or.inl ⟨by rfl, ?_⟩) (by assumption) ?_
         rotate_left
         ·intro w0 hSw
          (try dsimp only at hSw)
          go_simp
          try with_reducible rfl
         try simp only [Act.put, List.getElem_toArray, List.getElem_cons_zero, List.getElem_cons_succ, List.setIfInBounds_toArray, List.set_cons_zero, List.set_cons_succ]
         refine wpAnyH_take (i := 11) (v := ?_) rfl (by kernel_rfl) (by kernel_rfl) (by kernel_rfl) (fun _ _ _ h => h) (Or.inl ⟨by rfl, ?_⟩) (by assumption) ?_
         rotate_left
         ·intro w0 hSw
          (try dsimp only at hSw)
          go_simp
          try with_reducible rfl
         try simp only [Act.put, List.getElem_toArray, List.getElem_cons_zero, List.getElem_cons_succ, List.setIfInBounds_toArray, List.set_cons_zero, List.set_cons_succ]
         refine wpAnyH_take (i := 12) (v := ?_) rfl (by kernel_rfl) (by kernel_rfl) (by kernel_rfl) (fun _ _ _ h => h) (Or.inl ⟨by rfl, ?_⟩) (by assumption) ?_
         rotate_left
         ·intro w0 hSw
          (try dsimp only at hSw)
          go_simp
          try with_reducible rfl
         try simp only [Act.put, List.getElem_toArray, List.getElem_cons_zero, List.getElem_cons_succ, List.setIfInBounds_toArray, List.set_cons_zero, List.set_cons_succ]
         refine wpAnyH_take (i := 13) (v := ?_) rfl (by kernel_rfl) (by kernel_rfl) (by kernel_rfl) (fun _ _ _ h => h) (Or.inl ⟨by rfl, ?_⟩) (by assumption) ?_
         rotate_left
         ·intro w0 hSw
          (try dsimp only at hSw)
          go_simp
          try with_reducible rfl
         try simp only [Act.put, List.getElem_toArray, List.getElem_cons_zero, List.getElem_cons_succ, List.setIfInBounds_toArray, List.set_cons_zero, List.set_cons_succ]
         refine wpAnyH_take (i := 14) (v := ?_) rfl (by kernel_rfl) (by kernel_rfl) (by kernel_rfl) (fun _ _ _ h => h) (Or.inl ⟨by rfl, ?_⟩) (by assumption) ?_
         rotate_left
         ·intro w0 hSw
          (try dsimp only at hSw)
          go_simp
          try with_reducible rfl
         try simp only [Act.put, List.getElem_toArray, List.getElem_cons_zero, List.getElem_cons_succ, List.setIfInBounds_toArray, List.set_cons_zero, List.set_cons_succ]
         refine wpAnyH_take (i := 15) (v := ?_) rfl (by kernel_rfl) (by kernel_rfl) (by kernel_rfl) (fun _ _ _ h => h) (Or.inl ⟨by rfl, ?_⟩) (by assumption) ?_
         rotate_left
         ·intro w0 hSw
          (try dsimp only at hSw)
          go_simp
          try with_reducible rfl
         try simp only [Act.put, List.getElem_toArray, List.getElem_cons_zero, List.getElem_cons_succ, List.setIfInBounds_toArray, List.set_cons_zero, List.set_cons_succ]
         refine wpAnyH_take (i := 16) (v := ?_) rfl (by kernel_rfl) (by kernel_rfl) (by kernel_rfl) (fun _ _ _ h => h) (Or.inl ⟨by rfl, ?_⟩) (by assumption) ?_
         rotate_left
         ·intro w0 hSw
          (try dsimp only at hSw)
          go_simp
          try with_reducible rfl
         try simp only [Act.put, List.getElem_toArray, List.getElem_cons_zero, List.getElem_cons_succ, List.setIfInBounds_toArray, List.set_cons_zero, List.set_cons_succ]
         refine wpAnyH_take (i := 17) (v := ?_) rfl (by kernel_rfl) (by kernel_rfl) (by kernel_rfl) (fun _ _ _ h => h) (Or.inl ⟨by rfl, ?_⟩) (by assumption) ?_
         rotate_left
         ·intro w0 hSw
          (try dsimp only at hSw)
          go_simp
          try with_reducible rfl
         try simp only [Act.put, List.getElem_toArray, List.getElem_cons_zero, List.getElem_cons_succ, List.setIfInBounds_toArray, List.set_cons_zero, List.set_cons_succ]
         refine wpAnyH_take (i := 18) (v := ?_) rfl (by kernel_rfl) (by kernel_rfl) (by kernel_rfl) (fun _ _ _ h => h) (Or.inl ⟨by rfl, ?_⟩) (by assumption) ?_
         rotate_left
         ·intro w0 hSw
          (try dsimp only at hSw)
          go_simp
          try with_reducible rfl
         try simp only [Act.put, List.getElem_toArray, List.getElem_cons_zero, List.getElem_cons_succ, List.setIfInBounds_toArray, List.set_cons_zero, List.set_cons_succ]
         refine wpAnyH_take (i := 19) (v := ?_) rfl (by kernel_rfl) (by kernel_rfl) (by kernel_rfl) (fun _ _ _ h => h) (Or.inl ⟨by rfl, ?_⟩) (by assumption) ?_
         rotate_left
         ·intro w0 hSw
          (try dsimp only at hSw)
          go_simp
          try with_reducible rfl
         try simp only [Act.put, List.getElem_toArray, List.getElem_cons_zero, List.getElem_cons_succ, List.setIfInBounds_toArray, List.set_cons_zero, List.set_cons_succ]
         refine wpAnyH_take (i := 20) (v := ?_) rfl (by kernel_rfl) (by kernel_rfl) (by kernel_rfl) (fun _ _ _ h => h) (Or.inl ⟨by rfl, ?_⟩) (by assumption) ?_
         rotate_left
         ·intro w0 hSw
          (try dsimp only at hSw)
          go_simp
          try with_reducible rfl
         try simp only [Act.put, List.getElem_toArray, List.getElem_cons_zero, List.getElem_cons_succ, List.setIfInBounds_toArray, List.set_cons_zero, List.set_cons_succ]
         refine wpAnyH_take (i := 21) (v := ?_) rfl (by kernel_rfl) (by kernel_rfl) (by kernel_rfl) (fun _ _ _ h => h) (Or.inl ⟨by rfl, ?_⟩) (by assumption) ?_
         rotate_left
         ·intro w0 hSw
          (try dsimp only at hSw)
          go_simp
          try with_reducible rfl
         try simp only [Act.put, List.getElem_toArray, List.getElem_cons_zero, List.getElem_cons_succ, List.setIfInBounds_toArray, List.set_cons_zero, List.set_cons_succ]
         refine wpAnyH_take (i := 22) (v := ?_) rfl (by kernel_rfl) (by kernel_rfl) (by kernel_rfl) (fun _ _ _ h => h) (Or.inl ⟨by rfl, ?_⟩) (by assumption) ?_
         rotate_left
         ·intro w0 hSw
          (try dsimp only at hSw)
          go_simp
          try with_reducible rfl
         try simp only [Act.put, List.getElem_toArray, List.getElem_cons_zero, List.getElem_cons_succ, List.setIfInBounds_toArray, List.set_cons_zero, List.set_cons_succ]
         refine wpAnyH_take (i := 23) (v := ?_) rfl (by kernel_rfl) (by kernel_rfl) (by kernel_rfl) (fun _ _ _ h => h) (Or.inl ⟨by rfl, ?_⟩) (by assumption) ?_
         rotate_left
         ·intro w0 hSw
          (try dsimp only at hSw)
          go_simp
          try with_reducible rfl
         try simp only [Act.put, List.getElem_toArray, List.getElem_cons_zero, List.getElem_cons_succ, List.setIfInBounds_toArray, List.set_cons_zero, List.set_cons_succ]
         refine wpAnyH_take (i := 24) (v := ?_) rfl (by kernel_rfl) (by kernel_rfl) (by kernel_rfl) (fun _ _ _ h => h) (Or.inl ⟨by rfl, ?_⟩) (by assumption) ?_
         rotate_left
         ·intro w0 hSw
          (try dsimp only at hSw)
          go_simp
          try with_reducible rfl
         try simp only [Act.put, List.getElem_toArray, List.getElem_cons_zero, List.getElem_cons_succ, List.setIfInBounds_toArray, List.set_cons_zero, List.set_cons_succ]
         refine wpAnyH_take (i := 25) (v := ?_) rfl (by kernel_rfl) (by kernel_rfl) (by kernel_rfl) (fun _ _ _ h => h) (Or.inl ⟨by rfl, ?_⟩) (by assumption) ?_
         rotate_left
         ·intro w0 hSw
          (try dsimp only at hSw)
          go_simp
          try with_reducible rfl
         try simp only [Act.put, List.getElem_toArray, List.getElem_cons_zero, List.getElem_cons_succ, List.setIfInBounds_toArray, List.set_cons_zero, List.set_cons_succ]
         refine wpAnyH_take (i := 26) (v := ?_) rfl (by kernel_rfl) (by kernel_rfl) (by kernel_rfl) (fun _ _ _ h => h) (Or.inl ⟨by rfl, ?_⟩) (by assumption) ?_
         rotate_left
         ·intro w0 hSw
          (try dsimp only at hSw)
          go_simp
          try with_reducible rfl
         try simp only [Act.put, List.getElem_toArray, List.getElem_cons_zero, List.getElem_cons_succ, List.setIfInBounds_toArray, List.set_cons_zero, List.set_cons_succ]
         refine wpAnyH_take (i := 27) (v := ?_) rfl (by kernel_rfl) (by kernel_rfl) (by kernel_rfl) (fun _ _ _ h => h) (Or.inl ⟨by rfl, ?_⟩) (by assumption) ?_
         rotate_left
         ·intro w0 hSw
          (try dsimp only at hSw)
          go_simp
          try with_reducible rfl
         try simp only [Act.put, List.getElem_toArray, List.getElem_cons_zero, List.getElem_cons_succ, List.setIfInBounds_toArray, List.set_cons_zero, List.set_cons_succ]
         refine wpAnyH_ready (rs := [28]) (by kernel_rfl) (by simp) ?_
         refine AllReadyH.cons rfl (fun K hK => ?_) AllReadyH.nil
         go_simp
         go_at_call 47
         refine (sameAcc_true WF.k WF.a WF.n WF.v WF.x _ _ _ _ _ _ WF.b _ (RdB.drewN 1 RF13.out) (RdB.drewN 1 RU13.out)).mono ?_
         rintro r wy0 ⟨rfl, b8⟩
         have BB0 : Hid (Below w13.heap.size w13 wy0) := Lib.hid ((bel_drewN 1 (Below.refl w13.heap.size w13)).trans b8)
         clear b8
         go_wp2_with fail
         refine hK.out _ _ ?_ (fun hHeld => ?_)
         ·try dsimp only
          exact (HA3.out.below BB0.out).cells
         clear hK K
         try simp only [Act.put, List.getElem_toArray, List.getElem_cons_zero, List.getElem_cons_succ, List.setIfInBounds_toArray, List.set_cons_zero, List.set_cons_succ]
         refine wpAnyH_take (i := 29) (v := ?_) rfl (by kernel_rfl) (by kernel_rfl) (by kernel_rfl) (fun _ _ _ h => h) (Or.inl ⟨by rfl, ?_⟩) (by assumption) ?_
         rotate_left
         ·intro w0 hSw
          (try dsimp only at hSw)
          go_simp
          try with_reducible rfl
         try simp only [Act.put, List.getElem_toArray, List.getElem_cons_zero, List.getElem_cons_succ, List.setIfInBounds_toArray, List.set_cons_zero, List.set_cons_succ]
         refine wpAnyH_take (i := 30) (v := ?_) rfl (by kernel_rfl) (by kernel_rfl) (by kernel_rfl) (fun _ _ _ h => h) (Or.inl ⟨by rfl, ?_⟩) (by assumption) ?_
         rotate_left
         ·intro w0 hSw
          (try dsimp only at hSw)
          go_simp
          try with_reducible rfl
         try simp only [Act.put, List.getElem_toArray, List.getElem_cons_zero, List.getElem_cons_succ, List.setIfInBounds_toArray, List.set_cons_zero, List.set_cons_succ]
         refine wpAnyH_take (i := 31) (v := ?_) rfl (by kernel_rfl) (by kernel_rfl) (by kernel_rfl) (fun _ _ _ h => h) (Or.inl ⟨by rfl, ?_⟩) (by assumption) ?_
         rotate_left
         ·intro w0 hSw
          (try dsimp only at hSw)
          go_simp
          try with_reducible rfl
         try simp only [Act.put, List.getElem_toArray, List.getElem_cons_zero, List.getElem_cons_succ, List.setIfInBounds_toArray, List.set_cons_zero, List.set_cons_succ]
         refine wpAnyH_take (i := 32) (v := ?_) rfl (by kernel_rfl) (by kernel_rfl) (by kernel_rfl) (fun _ _ _ h => h) (Or.inl ⟨by rfl, ?_⟩) (by assumption) ?_
         rotate_left
         ·intro w0 hSw
          (try dsimp only at hSw)
          go_simp
          try with_reducible rfl
         try simp only [Act.put, List.getElem_toArray, List.getElem_cons_zero, List.getElem_cons_succ, List.setIfInBounds_toArray, List.set_cons_zero, List.set_cons_succ]
         refine wpAnyH_take (i := 33) (v := ?_) rfl (by kernel_rfl) (by kernel_rfl) (by kernel_rfl) (fun _ _ _ h => h) (Or.inl ⟨by rfl, ?_⟩) (by assumption) ?_
         rotate_left
         ·intro w0 hSw
          (try dsimp only at hSw)
          go_simp
          try with_reducible rfl
         try simp only [Act.put, List.getElem_toArray, List.getElem_cons_zero, List.getElem_cons_succ, List.setIfInBounds_toArray, List.set_cons_zero, List.set_cons_succ]
         refine wpAnyH_take (i := 34) (v := ?_) rfl (by kernel_rfl) (by kernel_rfl) (by kernel_rfl) (fun _ _ _ h => h) (Or.inl ⟨by rfl, ?_⟩) (by assumption) ?_
         rotate_left
         ·intro w0 hSw
          (try dsimp only at hSw)
          go_simp
          try with_reducible rfl
         try simp only [Act.put, List.getElem_toArray, List.getElem_cons_zero, List.getElem_cons_succ, List.setIfInBounds_toArray, List.set_cons_zero, List.set_cons_succ]
         refine wpAnyH_take (i := 35) (v := ?_) rfl (by kernel_rfl) (by kernel_rfl) (by kernel_rfl) (fun _ _ _ h => h) (Or.inl ⟨by rfl, ?_⟩) (by assumption) ?_
         rotate_left
         ·intro w0 hSw
          (try dsimp only at hSw)
          go_simp
          try with_reducible rfl
         try simp only [Act.put, List.getElem_toArray, List.getElem_cons_zero, List.getElem_cons_succ, List.setIfInBounds_toArray, List.set_cons_zero, List.set_cons_succ]
         refine wpAnyH_take (i := 36) (v := ?_) rfl (by kernel_rfl) (by kernel_rfl) (by kernel_rfl) (fun _ _ _ h => h) (Or.inl ⟨by rfl, ?_⟩) (by assumption) ?_
         rotate_left
         ·intro w0 hSw
          (try dsimp only at hSw)
          go_simp
          try with_reducible rfl
         try simp only [Act.put, List.getElem_toArray, List.getElem_cons_zero, List.getElem_cons_succ, List.setIfInBounds_toArray, List.set_cons_zero, List.set_cons_succ]
         refine wpAnyH_ready (rs := [37]) (by kernel_rfl) (by simp) ?_
         refine AllReadyH.cons rfl (fun K hK => ?_) AllReadyH.nil
         go_simp
         go_at_call 47
         refine (sameAcc_true WD.k WD.a WD.n WD.v WD.x _ _ _ _ _ _ WD.b _ (RD13.out.below BB0.out) (RV13.out.below BB0.out)).mono ?_
         rintro r wy1 ⟨rfl, b8⟩
         have BB1 : Hid (Below w13.heap.size w13 wy1) := Lib.hid (Below.trans BB0.out (b8.mono BB0.out.size))
         clear b8
         go_wp2_with fail
         refine hK.out _ _ ?_ (fun hHeld => ?_)
         ·try dsimp only
          exact (HA3.out.below BB1.out).cells
         clear hK K
         try simp only [Act.put, List.getElem_toArray, List.getElem_cons_zero, List.getElem_cons_succ, List.setIfInBounds_toArray, List.set_cons_zero, List.set_cons_succ]
         refine wpAnyH_take (i := 38) (v := ?_) rfl (by kernel_rfl) (by kernel_rfl) (by kernel_rfl) (fun _ _ _ h => h) (Or.inl ⟨by rfl, ?_⟩) (by assumption) ?_
         rotate_left
         ·intro w0 hSw
          (try dsimp only at hSw)
          go_simp
          try with_reducible rfl
         try simp only [Act.put, List.getElem_toArray, List.getElem_cons_zero, List.getElem_cons_succ, List.setIfInBounds_toArray, List.set_cons_zero, List.set_cons_succ]
         refine wpAnyH_take (i := 39) (v := ?_) rfl (by kernel_rfl) (by kernel_rfl) (by kernel_rfl) (fun _ _ _ h => h) (Or.inl ⟨by rfl, ?_⟩) (by assumption) ?_
         rotate_left
         ·intro w0 hSw
          (try dsimp only at hSw)
          go_simp
          try with_reducible rfl
         try simp only [Act.put, List.getElem_toArray, List.getElem_cons_zero, List.getElem_cons_succ, List.setIfInBounds_toArray, List.set_cons_zero, List.set_cons_succ]
         refine wpAnyH_take (i := 40) (v := ?_) rfl (by kernel_rfl) (by kernel_rfl) (by kernel_rfl) (fun _ _ _ h => h) (Or.inl ⟨by rfl, ?_⟩) (by assumption) ?_
         rotate_left
         ·intro w0 hSw
          (try dsimp only at hSw)
          go_simp
          try with_reducible rfl
         try simp only [Act.put, List.getElem_toArray, List.getElem_cons_zero, List.getElem_cons_succ, List.setIfInBounds_toArray, List.set_cons_zero, List.set_cons_succ]
         refine wpAnyH_take (i := 41) (v := ?_) rfl (by kernel_rfl) (by kernel_rfl) (by kernel_rfl) (fun _ _ _ h => h) (Or.inl ⟨by rfl, ?_⟩) (by assumption) ?_
         rotate_left
         ·intro w0 hSw
          (try dsimp only at hSw)
          go_simp
          try with_reducible rfl
         try simp only [Act.put, List.getElem_toArray, List.getElem_cons_zero, List.getElem_cons_succ, List.setIfInBounds_toArray, List.set_cons_zero, List.set_cons_succ]
         refine wpAnyH_take (i := 42) (v := ?_) rfl (by kernel_rfl) (by kernel_rfl) (by kernel_rfl) (fun _ _ _ h => h) (Or.inl ⟨by rfl, ?_⟩) (by assumption) ?_
         rotate_left
         ·intro w0 hSw
          (try dsimp only at hSw)
          go_simp
          try with_reducible rfl
         try simp only [Act.put, List.getElem_toArray, List.getElem_cons_zero, List.getElem_cons_succ, List.setIfInBounds_toArray, List.set_cons_zero, List.set_cons_succ]
         refine wpAnyH_take (i := 43) (v := ?_) rfl (by kernel_rfl) (by kernel_rfl) (by kernel_rfl) (fun _ _ _ h => h) (Or.inl ⟨by rfl, ?_⟩) (by assumption) ?_
         rotate_left
         ·intro w0 hSw
          (try dsimp only at hSw)
          go_simp
          try with_reducible rfl
         try simp only [Act.put, List.getElem_toArray, List.getElem_cons_zero, List.getElem_cons_succ, List.setIfInBounds_toArray, List.set_cons_zero, List.set_cons_succ]
         refine wpAnyH_take (i := 44) (v := ?_) rfl (by kernel_rfl) (by kernel_rfl) (by kernel_rfl) (fun _ _ _ h => h) (Or.inl ⟨by rfl, ?_⟩) (by assumption) ?_
         rotate_left
         ·intro w0 hSw
          (try dsimp only at hSw)
          go_simp
          try with_reducible rfl
         try simp only [Act.put, List.getElem_toArray, List.getElem_cons_zero, List.getElem_cons_succ, List.setIfInBounds_toArray, List.set_cons_zero, List.set_cons_succ]
         refine wpAnyH_take (i := 45) (v := ?_) rfl (by kernel_rfl) (by kernel_rfl) (by kernel_rfl) (fun _ _ _ h => h) (Or.inl ⟨by rfl, ?_⟩) (by assumption) ?_
         rotate_left
         ·intro w0 hSw
          (try dsimp only at hSw)
          go_simp
          try with_reducible rfl
         try simp only [Act.put, List.getElem_toArray, List.getElem_cons_zero, List.getElem_cons_succ, List.setIfInBounds_toArray, List.set_cons_zero, List.set_cons_succ]
         refine wpAnyH_ready (rs := [46]) (by kernel_rfl) (by simp) ?_
         refine AllReadyH.cons rfl (fun K hK => ?_) AllReadyH.nil
         go_simp
         go_at_call 47
         refine (sameAcc_true WM.k WM.a WM.n WM.v WM.x _ _ _ _ _ _ WM.b _ (RM13.out.below BB1.out) (RY13.out.below BB1.out)).mono ?_
         rintro r wy2 ⟨rfl, b8⟩
         have BB2 : Hid (Below w13.heap.size w13 wy2) := Lib.hid (Below.trans BB1.out (b8.mono BB1.out.size))
         clear b8
         go_wp2_with fail
         refine hK.out _ _ ?_ (fun hHeld => ?_)
         ·try dsimp only
          exact (HA3.out.below BB2.out).cells
         clear hK K
         try simp only [Act.put, List.getElem_toArray, List.getElem_cons_zero, List.getElem_cons_succ, List.setIfInBounds_toArray, List.set_cons_zero, List.set_cons_succ]
         refine wpAnyH_take (i := 47) (v := ?_) rfl (by kernel_rfl) (by kernel_rfl) (by kernel_rfl) (fun _ _ _ h => h) (Or.inl ⟨by rfl, ?_⟩) (by assumption) ?_
         rotate_left
         ·intro w0 hSw
          (try dsimp only at hSw)
          go_simp
          try with_reducible rfl
         try simp only [Act.put, List.getElem_toArray, List.getElem_cons_zero, List.getElem_cons_succ, List.setIfInBounds_toArray, List.set_cons_zero, List.set_cons_succ]
         refine wpAnyH_take (i := 48) (v := ?_) rfl (by kernel_rfl) (by kernel_rfl) (by kernel_rfl) (fun _ _ _ h => h) (Or.inl ⟨by rfl, ?_⟩) (by assumption) ?_
         rotate_left
         ·intro w0 hSw
          (try dsimp only at hSw)
          go_simp
          try with_reducible rfl
         try simp only [Act.put, List.getElem_toArray, List.getElem_cons_zero, List.getElem_cons_succ, List.setIfInBounds_toArray, List.set_cons_zero, List.set_cons_succ]
         refine wpAnyH_done (by kernel_rfl) ?_ _
         go_wp2_with fail
         go_meet
         exact ⟨rfl, BB2.out⟩
       case rest =>
        as_aux_lemma =>
         obtain ⟨rfl, b14⟩ := hcut
         have C14 := Lib.hid (C13.out.below b14)
         have HFR1 := Lib.hid (HFR1.out.below b14)
         have HMS1 := Lib.hid (And.intro (HMS1.out.1.keep (K := fun _ => False) (Below.keeps b14) (fun _ _ => id)) HMS1.out.2)
         have B14 := Lib.hid (B13w.out.trans (b14.mono B13w.out.size))
         clear b14 C13 B13w HA3 RU13 RV13 RY13 RF13 RD13 RM13 HWF HWD HWM Hlf Hld Hlm
         obtain ⟨⟨qd1, pd1⟩, od1, fd1⟩ := C14.out.d
         obtain ⟨⟨qm1, pm1⟩, om1, fm1⟩ := C14.out.m
         have PD := Lib.hid pd1
         have PM := Lib.hid pm1
         clear pd1 pm1 od1 fd1 om1 fm1
         have hpl : pl = t1.places.length := by
          rcases HFR1.out.op.2 with ⟨e, h0⟩ | ⟨g, cap, cur, e, _⟩
          ·cases e; exact h0.symm
          ·cases e; rfl
         obtain ⟨np, hnp⟩ : ∃ np, np = t1.places.length := ⟨_, rfl⟩
         have HNP := Lib.hid hnp
         rw [← hnp] at hpl
         replace hpl := hpl.symm
         subst hpl
         have hnp64 : np ≤ 64 := by have := HL1.out.2; omega
         clear hnp
         go_wp2_with fail
         refine (filDone_any C14.out.f.1).mono ?_
         rintro e w15 ⟨xv, rfl, xo, xb, b15⟩
         have X15 := Lib.hid xo
         have C15 := Lib.hid (C14.out.below b15)
         have HFR2 := Lib.hid (HFR1.out.below b15)
         have HMS2 := Lib.hid (And.intro (HMS1.out.1.keep (K := fun _ => False) (Below.keeps b15) (fun _ _ => id)) HMS1.out.2)
         have B15 := Lib.hid (B14.out.trans (b15.mono B14.out.size))
         have PD2 := Lib.hid ((draK qd1).below PD.out b15)
         have PM2 := Lib.hid ((menK qm1).below PM.out b15)
         clear xo xb b15 C14 HFR1 HMS1 B14 PD PM
         go_wp2_with fail
         refine (sameEr_any X15.out HFR2.out.od (by have := HL1.out.1; omega)).mono ?_
         rintro e w16 ⟨rfl, b16⟩
         have C16 := Lib.hid (C15.out.below b16)
         have HFR3 := Lib.hid (HFR2.out.below b16)
         have HMS3 := Lib.hid (And.intro (HMS2.out.1.keep (K := fun _ => False) (Below.keeps b16) (fun _ _ => id)) HMS2.out.2)
         have B16 := Lib.hid (B15.out.trans (b16.mono B15.out.size))
         have PD3 := Lib.hid ((draK qd1).below PD2.out b16)
         have PM3 := Lib.hid ((menK qm1).below PM2.out b16)
         clear b16 C15 HFR2 HMS2 B15 PD2 PM2 X15
         go_wp2_with fail
         refine (filPlaces_any C16.out.f.1).mono ?_
         rintro e w17 ⟨yv, rfl, yo, yb, b17⟩
         rw [← HNP.out] at yo
         obtain ⟨ya, yl, yc, rfl⟩ := own_isSl yo
         obtain rfl : np = yl := by
          rcases yo.2 with ⟨e, h0⟩ | ⟨g, cap, cur, e, _⟩
          ·cases e; exact h0
          ·cases e; rfl
         have C17 := Lib.hid (C16.out.below b17)
         have HFR4 := Lib.hid (HFR3.out.below b17)
         have HMS4 := Lib.hid (And.intro (HMS3.out.1.keep (K := fun _ => False) (Below.keeps b17) (fun _ _ => id)) HMS3.out.2)
         have B17 := Lib.hid (B16.out.trans (b17.mono B16.out.size))
         have PD4 := Lib.hid ((draK qd1).below PD3.out b17)
         have PM4 := Lib.hid ((menK qm1).below PM3.out b17)
         clear yo yb b17 C16 HFR3 HMS3 B16 PD3 PM3
         go_wp2_with fail
         refine (draMsgs_any PD4.out).mono ?_
         rintro e w18 ⟨mv, rfl, ms, b18⟩
         have M18 := Lib.hid ms
         have C18 := Lib.hid (C17.out.below b18)
         have HFR5 := Lib.hid (HFR4.out.below b18)
         have HMS5 := Lib.hid (And.intro (HMS4.out.1.keep (K := fun _ => False) (Below.keeps b18) (fun _ _ => id)) HMS4.out.2)
         have B18 := Lib.hid (B17.out.trans (b18.mono B17.out.size))
         have PM5 := Lib.hid ((menK qm1).below PM4.out b18)
         clear ms b18 C17 HFR4 HMS4 B17 PD4 PM4
         go_wp2_with fail
         obtain ⟨⟨OO, RR, mm1, mm2, mm3⟩⟩ := HMS5.out.1
         refine (refSame_any w18 M18.out mm1 (by have := HMS5.out.2; omega)).mono ?_
         rintro e w19 ⟨rfl, b19⟩
         have C19 := Lib.hid (C18.out.below b19)
         have HFR6 := Lib.hid (HFR5.out.below b19)
         have B19 := Lib.hid (B18.out.trans (b19.mono B18.out.size))
         have PM6 := Lib.hid ((menK qm1).below PM5.out b19)
         clear mm1 mm2 mm3 b19 C18 HFR5 HMS5 B18 PM5 M18
         go_wp2_with fail
         refine (menBytes_any PM6.out).mono ?_
         rintro e w20 ⟨rfl, rfl⟩
         clear PM6
         go_wp2_with fail
         refine (filPlaces_any C19.out.f.1).mono ?_
         rintro e w21 ⟨zv, rfl, zo, zb, b21⟩
         rw [← HNP.out] at zo
         obtain ⟨za, zl, zc, rfl⟩ := own_isSl zo
         obtain rfl : np = zl := by
          rcases zo.2 with ⟨e, h0⟩ | ⟨g, cap, cur, e, _⟩
          ·cases e; exact h0
          ·cases e; rfl
         have Z21 := Lib.hid zo
         have C21 := Lib.hid (C19.out.below b21)
         have HFR7 := Lib.hid (HFR6.out.below b21)
         have B21 := Lib.hid (B19.out.trans (b21.mono B19.out.size))
         clear zo zb b21 C19 HFR6 B19
         go_wp2_with fail
         go_loopg [197] (np + 1) (fun gk iv wr2 => ∃ j : Nat, gk + j = np + 1 ∧ j ≤ np ∧ iv = .int .i64 j ∧ Below w21.heap.size w21 wr2)
         case atStart => exact ⟨0, by omega, by omega, rfl, Below.refl _ _⟩
         case round =>
          obtain ⟨j, hgj, hj, rfl, hb⟩ := hrel
          have HGJ := Lib.hid hgj
          have HB2 := Lib.hid hb
          have W2 : IntKind.i64.wrap ((j : Int) + 1) = (j : Int) + 1 := IntWalk.i64_in _ ⟨by omega, by omega⟩
          clear hgj hb
          by_cases hjn : j < np
          ·have hjj : (j : Int) < (np : Int) := by omega
           obtain ⟨y, hy⟩ : ∃ y, t1.places[j]? = some y := ⟨_, List.getElem?_eq_getElem (by have := HNP.out; omega)⟩
           obtain ⟨g1, c1, e1, l1, hc1⟩ := own_ints (L := t1.places) (by rw [← HNP.out]; exact Z21.out) (by have := HNP.out; omega)
           obtain ⟨g2, c2, e2, l2, hc2⟩ := own_ints (L := t1.places) HFR7.out.op (by have := HNP.out; omega)
           cases e1
           cases e2
           have k1 := (HB2.out.cell (p := ⟨g1, j, none⟩) l1).trans (hc1 j y hy)
           have k2 := (HB2.out.cell (p := ⟨g2, j, none⟩) l2).trans (hc2 j y hy)
           clear hy hc1 hc2
           go_wp2_with fail
           go_roundg (t1.places.length - j)
           case measure => have := HGJ.out; omega
           case rel => exact ⟨j + 1, by omega, by omega, by go_num, HB2.out⟩
          ·obtain rfl : j = np := by omega
           have hnl : ¬ (j : Int) < (j : Int) := by omega
           have C22 := Lib.hid (C21.out.below HB2.out)
           have B22 := Lib.hid (B21.out.trans (HB2.out.mono B21.out.size))
           clear C21 B21 HB2 Z21 HFR7
           have WK : IntKind.i64.wrap ((k : Int) + 1) = (k : Int) + 1 := IntWalk.i64_in _ ⟨by omega, by omega⟩
           by_cases hkt : k < i
           ·have hkt' : (k : Int) < (i : Int) := by omega
            have hiT : k < T.length := by have := HN.out; omega
            obtain ⟨bk, off, rfl, hcell⟩ : ∃ b off, t0 = some ⟨b, off, none⟩ ∧ ∀ w', Below w.heap.size w w' → w'.cell? ⟨b, off + k * 3, none⟩ = some (.int .u64 (gA T k).v) ∧ w'.cell? ⟨b, off + k * 3 + 1, none⟩ = some (.bool (gA T k).d) ∧ w'.cell? ⟨b, off + k * 3 + 2, none⟩ = some (gA T k).s := by
             rcases HT.out with ⟨_, e⟩ | ⟨_, _, _, e, _⟩ | ⟨b, off, cap, e1, e2, e3, e4⟩
             ·rw [e] at hiT; cases hiT
             ·rw [e] at hiT; cases hiT
             ·cases e1
              refine ⟨b, off, rfl, fun w' bb => ?_⟩
              rcases HT.out.below bb with ⟨_, e⟩ | ⟨_, _, _, e, _⟩ | ⟨b', off', cap', e1', e2', e3', e4'⟩
              ·rw [e] at hiT; cases hiT
              ·rw [e] at hiT; cases hiT
              ·cases e1'
               exact e4' k hiT
            obtain ⟨sa, sn, scc, hsv⟩ := HS.out k hiT
            rw [hsv] at hcell
            have HC := Lib.hid hcell
            have HRK := Lib.hid (show RdB w (.slice sa sn scc) (gA T k).b by rw [← hsv]; exact HTS.out k hiT)
            have HUV := Lib.hid (HU.out k hiT)
            have HLB := Lib.hid (HSL.out k (by omega))
            clear hcell hsv
            obtain ⟨X, hX⟩ : ∃ X, X = gA T k := ⟨_, rfl⟩
            have HX := Lib.hid hX
            rw [← hX] at HC HRK HUV HLB
            obtain ⟨y0, y1, y2⟩ := HC.out _ B22.out
            have sB := B22.out.size
            have lw0 : w.heap.size + 1 ≤ wr.heap.size := by have := C22.out.bx.lt; omega
            clear hX
            go_wp2_with fail
            have TF := Lib.hid (C22.out.takeF lw0 X.an HUV.out sa sn scc (HRK.out.below B22.out))
            refine TF.out.mono ?_
            rintro e w23 ⟨rfl, F1, c23, k23⟩
            have LO := Lib.hid C22.out.lo
            have C23 := Lib.hid c23
            have z23 := k23.size
            have B23 := Lib.hid (B22.out.trans (k23.below B22.out.size (fun j hj e => by have := (LO.out j (.inl e)).1; omega)))
            clear TF LO c23 k23 C22 B22 y0 y1 y2
            obtain ⟨y0, y1, y2⟩ := HC.out _ B23.out
            go_wp2_with fail
            have TF := Lib.hid (C23.out.takeD (by omega) X.an HUV.out (by have := HLB.out; show X.b.length ≤ 1000; omega) sa sn scc (HRK.out.below B23.out))
            refine TF.out.mono ?_
            rintro e w24 ⟨rfl, F2, c24, k24⟩
            have LO := Lib.hid C23.out.lo
            have C24 := Lib.hid c24
            have z24 := k24.size
            have B24 := Lib.hid (B23.out.trans (k24.below B23.out.size (fun j hj e => by have := (LO.out j (.inr (.inl e))).1; omega)))
            clear TF LO c24 k24 C23 B23 y0 y1 y2
            obtain ⟨y0, y1, y2⟩ := HC.out _ B24.out
            go_wp2_with fail
            have TF := Lib.hid (C24.out.takeM (by omega) X.an HUV.out sa sn scc (HRK.out.below B24.out))
            refine TF.out.mono ?_
            rintro e w25 ⟨rfl, F3, c25, k25⟩
            have LO := Lib.hid C24.out.lo
            have C25 := Lib.hid c25
            have z25 := k25.size
            have B25 := Lib.hid (B24.out.trans (k25.below B24.out.size (fun j hj e => by have := (LO.out j (.inr (.inr e))).1; omega)))
            clear TF LO c25 k25 C24 B24 y0 y1 y2
            go_wp2_with fail
            go_roundg (i + 1 - k)
            case measure => have := HGK.out; omega
            case rel =>
             refine ⟨k + 1, F1, F2, F3, by omega, by omega, by go_num, ?_, B25.out⟩
             have e0 : T.take (k + 1) = T.take k ++ [X] := by rw [take_one _ hiT]; rw [HX.out]; rfl
             have e1 := filC.aft_step (⟨b, s, l.take 64, max tr 0, [], []⟩ : FilT) (T.take k) X
             have e2 := draC.aft_step (⟨b, s, min tm 64, mo, []⟩ : DraT) (T.take k) X
             have e3 := menC.aft_step (⟨b, s, min tm 64, 0⟩ : MenT) (T.take k) X
             rw [e0, e1, e2, e3, ← HSF.out, ← HSD.out, ← HSM2.out]
             exact C25.out
           ·obtain rfl : k = i := by omega
            have hnl2 : ¬ (k : Int) < (k : Int) := by omega
            go_wp2_with fail
            go_roundg 1
            case measure => have := HGK.out; omega
            case rel =>
             refine ⟨k + 1, Ff, Fd, Fm, by omega, by omega, by go_num, ?_, B22.out⟩
             have e0 : T.take (k + 1) = T.take k := by rw [List.take_of_length_le (by have := HN.out; omega), List.take_of_length_le (by have := HN.out; omega)]
             rw [e0, ← HSF.out, ← HSD.out, ← HSM2.out]
             exact C22.out
     ·have hnl2 : ¬ (k : Int) ≤ (i : Int) := by omega
      go_wp2
      go_ret
      exact ⟨rfl, HBW.out⟩
end Go.Proofs.YtknahaaefmlcpaaGreat
