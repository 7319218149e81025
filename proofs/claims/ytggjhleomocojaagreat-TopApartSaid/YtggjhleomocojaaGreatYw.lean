/- ring.chain of *ringput.Put: settle, start, next, take, whoever owns it. Conditions: as each says. -/
import Derived.Test.YtggjhleomocojaaGreatDd
import Derived.Test.YtggjhleomocojaaGreatSh
import Derived.Deep.RegionHeld3
import Derived.Deep.LoopGhost
import Derived.Test.YtggjhleomocojaaGreatDs
import Derived.Test.YtggjhleomocojaaGreatUl
import Derived.Test.YtggjhleomocojaaGreatQb
section
namespace Go.Proofs.YtggjhleomocojaaGreat
set_option maxRecDepth 100000
open Go.RowKit
set_option linter.unusedVariables false
set_option linter.unusedSimpArgs false
set_option maxHeartbeats 4000000 in
theorem chSettle_p (K : ChK) (hty : ∀ s, K.C.ty s = 97) (w : World) (q : Nat) (F : Nat → Prop) (cur : Option K.C.M.σ) (t : K.c.τ) (n : Nat) (h : K.P w q F cur t) (ho : K.c.okay (cur, t)) (hf : K.c.fin (K.c.settle n (cur, t))) :
  Calls Tryz.prog 86 #[ptr q] w fun e w' => e = .returned (.tuple #[]) ∧ K.c.okay (K.c.settle n (cur, t)) ∧ ∃ F', K.P w' q F' (K.c.settle n (cur, t)).1 (K.c.settle n (cur, t)).2 ∧ (∀ i, F' i → F i ∨ w.heap.size ≤ i) ∧ Keep F w w' := by
 have H := Lib.hid h
 have HO := Lib.hid ho
 have HF := Lib.hid hf
 have HT := Lib.hid hty
 obtain ⟨R, hR⟩ : ∃ R, R = K.c.settle n (cur, t) := ⟨_, rfl⟩
 have HR := Lib.hid hR
 rw [← hR]
 clear h ho hf hty hR
 unfold ptr
 go_enter Tryz.func86, Tryz.ntmps86
 go_wp2_with fail
 go_loopg [] (n + 1) (fun gk wr => ∃ (m : Nat) (cr : Option K.C.M.σ) (tr : K.c.τ) (Fr : Nat → Prop), gk = m + 1 ∧ K.P wr q Fr cr tr ∧ K.c.okay (cr, tr) ∧ K.c.settle m (cr, tr) = R ∧ (∀ i, Fr i → F i ∨ w.heap.size ≤ i) ∧ Keep F w wr)
 case atStart => exact ⟨n, cur, t, F, rfl, H.out, HO.out, HR.out.symm, fun i hi => .inl hi, Keep.refl _ _⟩
 case round =>
  obtain ⟨m, cr, tr, Fr, rfl, hp, hok, hset, hg, hk⟩ := hrel
  obtain ⟨nv, bx, c0, c1, c2, c3, f0, f3⟩ := K.cells hp
  have hlt := (K.dom hp).2 q (K.dom hp).1
  have HP := Lib.hid hp
  have HOK := Lib.hid hok
  have HSET := Lib.hid hset
  have HG := Lib.hid hg
  have HKP := Lib.hid hk
  clear hp hok hset hg hk
  cases cr with
  | none =>
   simp only [Option.isSome_none] at c3
   go_wp2
   refine bodyPost_end (results_none rfl _ _ _) rfl ?_
   have e := HSET.out
   rw [K.c.settle_none] at e
   subst e
   exact ⟨rfl, K.c.okay_none _, Fr, HP.out, HG.out, HKP.out⟩
  | some s =>
   simp only [Option.isSome_some] at c3
   obtain ⟨p, F1, rfl, hi, hF1, hsw⟩ := K.mach HP.out c0
   have HI := Lib.hid hi
   have mn := K.C.mn s p
   rw [HT.out s] at mn
   simp only [Tryz.types_size, Made.depth, Nat.reduceAdd] at mn
   have en := K.C.en s
   clear hi hF1 hsw
   unfold ptr at c0 c1
   go_wp2_with fail
   refine (K.C.next HI.out).mono ?_
   rintro e w1 ⟨s0, sl, sc, rfl, hr, b1⟩
   have z1 := b1.size
   unfold AA.V
   dsimp only
   have B1 := Lib.hid b1
   have HP1 := Lib.hid (K.below HP.out b1)
   have d0 := (b1.cell (p := ⟨q, 0, none⟩) hlt).trans c0
   have d1 := (b1.cell (p := ⟨q, 1, none⟩) hlt).trans c1
   have d2 := (b1.cell (p := ⟨q, 2, none⟩) hlt).trans c2
   have hlt1 : q < w1.heap.size := by omega
   clear hr b1 c0 c1 c2 c3 f0 f3
   by_cases hl : K.C.M.live s = true
   ·rw [hl]
    have HL := Lib.hid hl
    clear hl
    go_wp2
    refine bodyPost_ret (results_none rfl _ _ _) rfl ?_
    have e := HSET.out
    rw [K.c.settle_live _ _ _ HL.out] at e
    subst e
    refine ⟨rfl, HOK.out, Fr, K.below HP1.out (by go_grown), HG.out, HKP.out.trans (Below.keeps (B1.out.trans ((by go_grown : Below w1.heap.size w1 _).mono B1.out.size)))⟩
   ·have hl' : K.C.M.live s = false := by simpa using hl
    rw [hl']
    have HL := Lib.hid hl'
    clear hl hl'
    have ene := K.ene
    unfold En at ene
    obtain ⟨m', rfl⟩ : ∃ m', m = m' + 1 := by
     cases m with
     | zero =>
      have e := HSET.out
      have hfin := HF.out
      rw [← HR.out, ← e] at hfin
      have := hfin s rfl
      rw [HL.out] at this
      cases this
     | succ k => exact ⟨k, rfl⟩
    have HST := Lib.hid ((K.c.settle_dead m' s tr HL.out).symm.trans HSET.out)
    have enm := K.enm
    unfold En at enm
    go_wp2_with fail
    go_region_held3 (fun w' => w'.cell? ⟨q, 0, none⟩ = some (.pointer (some ⟨p, 0, none⟩)) ∧ w'.cell? ⟨q, 1, none⟩ = some (.func (.func K.mor) #[.pointer (some ⟨q, 0, none⟩)] #[]) ∧ w'.cell? ⟨q, 2, none⟩ = some (.func (.func K.enf) (K.a1 q bx) (K.a2 q bx))) (first | go_keep | trivial)
     ((refine (K.ended (p := p) (bx := bx) (K.below HP1.out (by go_grown)) (HOK.out rfl) (by unfold ptr; go_keep) (by go_keep)).mono ?_; rintro e w3 ⟨rfl, y0, y2, F3, hp3, hg3, k3⟩; unfold ptr at y0; obtain ⟨_, _, _, y1, _⟩ := K.cells hp3; unfold ptr at y1; have B3 := Lib.hid (Keep.trans (Below.keeps (M := Fr) (by go_grown : Below w1.heap.size w1 _)) k3); have HG3 := Lib.hid hg3; have HP3 := Lib.hid hp3; clear hp3 hg3 k3))
    all_goals (
     obtain ⟨nv3, bx3, e0, e1, e2, e3, g0, g3⟩ := K.cells HP3.out
     have hlt3 := (K.dom HP3.out).2 q (K.dom HP3.out).1
     unfold ptr at e1
     go_wp2_with fail
     refine (K.more HP3.out).mono ?_
     rintro e w4 ⟨k4, hp4, hcase⟩
     have K4 := Lib.hid k4
     have HP4 := Lib.hid hp4
     obtain ⟨nv4, bx4, i0, i1, i2, i3, j0, j3⟩ := K.cells hp4
     clear k4 hp4 e0 e1 e2 e3 g0 g3 y0 y1 y2
     have HKA : Hid (Keep F w w4) := Lib.hid (((HKP.out.trans (Below.keeps (M := F) B1.out)).then B3.out (fun i hi h => (HG.out i h).resolve_right (by omega))).then K4.out (fun i hi h => (HG3.out i h).elim (fun h => (HG.out i h).resolve_right (by omega)) (fun h => absurd h (by have := HKP.out.size; have := B1.out.size; have := B3.out.size; simp at *; omega))))
     have HGA : Hid (∀ i, F3 i → F i ∨ w.heap.size ≤ i) := Lib.hid (fun i h => (HG3.out i h).elim (fun h => HG.out i h) (fun h => .inr (by have := HKP.out.size; have := B1.out.size; simp at h; omega)))
     have HKS : Hid (∀ a b, Keep F w ((w4.setCell ⟨q, 0, none⟩ a).setCell ⟨q, 3, none⟩ b)) := Lib.hid (fun a b => HKA.out.then (((Keep.refl (fun i => i = q) w4).setCell (p := ⟨q, 0, none⟩) (.inl rfl) _).setCell (p := ⟨q, 3, none⟩) (.inl rfl) _) (fun i hi e => (HGA.out i (e ▸ (K.dom HP3.out).1)).resolve_right (by omega)))
     rcases hcase with ⟨hm, rfl⟩ | ⟨s2, p2, F2, hm, rfl, hi2, hg2, hok2⟩
     ·have hmo : K.c.mo (K.c.en s tr) = (none, (K.c.mo (K.c.en s tr)).2) := Prod.ext hm rfl
      have HMO := Lib.hid hmo
      clear hm hmo
      go_wp2_with fail
      go_roundg (m' + 1)
      case measure => omega
      case rel => exact ⟨m', none, (K.c.mo (K.c.en s tr)).2, F3, rfl, K.setN HP4.out, (fun h => by cases h), HMO.out ▸ HST.out, HGA.out, HKS.out _ _⟩
     ·have hmo : K.c.mo (K.c.en s tr) = (some s2, (K.c.mo (K.c.en s tr)).2) := Prod.ext hm rfl
      have HMO := Lib.hid hmo
      have HI2 := Lib.hid hi2
      have HG2 := Lib.hid hg2
      have HOK2 := Lib.hid hok2
      clear hm hmo hi2 hg2 hok2
      unfold ptr
      go_wp2_with fail
      go_roundg (m' + 1)
      case measure => omega
      case rel =>
       exact ⟨m', some s2, (K.c.mo (K.c.en s tr)).2, fun i => F3 i ∨ F2 i, rfl, K.setS HP4.out HI2.out (fun i h1 h2 => by have := HG2.out i h1; have := (K.dom HP3.out).2 i h2; omega), (fun _ => HOK2.out), HMO.out ▸ HST.out, fun i h => h.elim (HGA.out i) (fun h => .inr (by have := HG2.out i h; have := HKA.out.size; have := HKP.out.size; have := B1.out.size; have := B3.out.size; simp at *; omega)), HKS.out _ _⟩)
set_option maxHeartbeats 4000000 in
theorem chStart_p (K : ChK) (hty : ∀ s, K.C.ty s = 97) (w : World) (q : Nat) (F : Nat → Prop) (cur : Option K.C.M.σ) (t : K.c.τ) (n : Nat) (h : K.P w q F cur t) (hf : K.c.fin (K.c.settle n (K.c.mo t))) :
  Calls Tryz.prog 49 #[ptr q] w fun e w' => e = .returned (.tuple #[]) ∧ K.c.okay (K.c.settle n (K.c.mo t)) ∧ ∃ F', K.P w' q F' (K.c.settle n (K.c.mo t)).1 (K.c.settle n (K.c.mo t)).2 ∧ (∀ i, F' i → F i ∨ w.heap.size ≤ i) ∧ Keep F w w' := by
 obtain ⟨nv3, bx3, e0, e1, e2, e3, g0, g3⟩ := K.cells h
 have hlt := (K.dom h).2 q (K.dom h).1
 have H := Lib.hid h
 have HF := Lib.hid hf
 have HT := Lib.hid hty
 have enm := K.enm
 unfold En at enm
 unfold ptr at e1
 clear h hf hty
 unfold ptr
 go_enter Tryz.func49, Tryz.ntmps49
 go_wp2_with fail
 refine (K.more H.out).mono ?_
 rintro e w4 ⟨k4, hp4, hcase⟩
 have K4 := Lib.hid k4
 have HP4 := Lib.hid hp4
 have hlt4 := (K.dom hp4).2 q (K.dom hp4).1
 obtain ⟨nv4, bx4, i0, i1, i2, i3, j0, j3⟩ := K.cells hp4
 clear k4 hp4 e0 e1 e2 e3 g0 g3
 have HKS : Hid (∀ a b, Keep F w ((w4.setCell ⟨q, 0, none⟩ a).setCell ⟨q, 3, none⟩ b)) := Lib.hid (fun a b => K4.out.then (((Keep.refl (fun i => i = q) w4).setCell (p := ⟨q, 0, none⟩) (.inl rfl) _).setCell (p := ⟨q, 3, none⟩) (.inl rfl) _) (fun i hi e => e ▸ (K.dom H.out).1))
 rcases hcase with ⟨hm, rfl⟩ | ⟨s2, p2, F2, hm, rfl, hi2, hg2, hok2⟩
 ·have hmo : K.c.mo t = (none, (K.c.mo t).2) := Prod.ext hm rfl
  have HS := Lib.hid (chSettle_p K HT.out ((w4.setCell ⟨q, 0, none⟩ (.pointer none)).setCell ⟨q, 3, none⟩ (.bool false)) q F none (K.c.mo t).2 n (K.setN HP4.out) (fun h => by cases h) (hmo ▸ HF.out))
  have HMO := Lib.hid hmo
  clear hm hmo
  go_wp2_with fail
  refine HS.out.mono ?_
  rintro e w5 ⟨rfl, ho5, F5, hp5, hg5, k5⟩
  rw [← HMO.out] at hp5 ho5
  have HO5 := Lib.hid ho5
  clear ho5
  have HP5 := Lib.hid hp5
  clear hp5
  go_wp2
  refine bodyPost_end (results_none rfl _ _ _) rfl ⟨rfl, HO5.out, F5, HP5.out, fun i h => (hg5 i h).imp_right (fun h => by have := (HKS.out (.pointer none) (.bool false)).size; omega), (HKS.out _ _).then k5 (fun i _ h => h)⟩
 ·have hmo : K.c.mo t = (some s2, (K.c.mo t).2) := Prod.ext hm rfl
  have z4 := K4.out.size
  have HS := Lib.hid (chSettle_p K HT.out ((w4.setCell ⟨q, 0, none⟩ (ptr p2)).setCell ⟨q, 3, none⟩ (.bool true)) q (fun i => F i ∨ F2 i) (some s2) (K.c.mo t).2 n (K.setS HP4.out hi2 (fun i h1 h2 => by have := hg2 i h1; have := (K.dom H.out).2 i h2; omega)) (fun _ => hok2) (hmo ▸ HF.out))
  have HMO := Lib.hid hmo
  have HG2 := Lib.hid hg2
  clear hm hmo hi2 hg2
  unfold ptr at HS ⊢
  go_wp2_with fail
  refine HS.out.mono ?_
  rintro e w5 ⟨rfl, ho5, F5, hp5, hg5, k5⟩
  rw [← HMO.out] at hp5 ho5
  have HO5 := Lib.hid ho5
  clear ho5
  have HP5 := Lib.hid hp5
  clear hp5
  go_wp2
  refine bodyPost_end (results_none rfl _ _ _) rfl ⟨rfl, HO5.out, F5, HP5.out, fun i h => ?_, (HKS.out _ _).then k5 (fun i hi h => h.resolve_right (fun h => by have := HG2.out i h; omega))⟩
  rcases hg5 i h with (h | h) | h
  ·exact .inl h
  ·exact .inr (HG2.out i h)
  ·exact .inr (by have := (HKS.out (.pointer none) (.bool true)).size; simp at *; omega)
set_option maxHeartbeats 4000000 in
theorem chNext_p (K : ChK) (hty : ∀ s, K.C.ty s = 97) (w : World) (q : Nat) (F : Nat → Prop) (cur : Option K.C.M.σ) (t : K.c.τ) (h : K.P w q F cur t) (hf : K.c.fin (cur, t)) :
  Calls Tryz.prog 203 #[ptr q] w fun e w' => ∃ s0 sl sc, e = .returned (.tuple #[(K.c.want (cur, t)).V (.slice s0 sl sc), .bool cur.isSome]) ∧ RdB w' (.slice s0 sl sc) (K.c.want (cur, t)).b ∧ Below w.heap.size w w' := by
 obtain ⟨nv3, bx3, e0, e1, e2, e3, g0, g3⟩ := K.cells h
 have hlt := (K.dom h).2 q (K.dom h).1
 have H := Lib.hid h
 have HF := Lib.hid hf
 have HT := Lib.hid hty
 clear h hf hty
 unfold ptr
 cases cur with
 | none =>
  simp only [Option.isSome_none] at e3 ⊢
  have hw : K.c.want (none, t) = aaZ := rfl
  rw [hw]
  clear hw
  go_enter Tryz.func203, Tryz.ntmps203
  go_wp2
  refine bodyPost_ret (v := .tuple #[aaZ.V (.slice none 0 0), .bool false]) (res_aa (c := aaZ) rfl rfl rfl (Blk.made _ _ _)) rfl ⟨none, 0, 0, rfl, .inl ⟨rfl, rfl⟩, by go_grown⟩
 | some s =>
  simp only [Option.isSome_some] at e3 ⊢
  obtain ⟨p, F1, rfl, hi, hF1, hsw⟩ := K.mach H.out e0
  have hl : K.C.M.live s = true := HF.out s rfl
  have HL := Lib.hid hl
  have hw : K.c.want (some s, t) = K.C.M.want s := rfl
  rw [hw]
  have HI := Lib.hid hi
  have mn := K.C.mn s p
  rw [HT.out s] at mn
  simp only [Tryz.types_size, Made.depth, Nat.reduceAdd] at mn
  have en := K.C.en s
  clear hi hF1 hsw hl hw
  unfold ptr at e0 e1
  go_enter Tryz.func203, Tryz.ntmps203
  go_wp2_with fail
  refine (K.C.next (K.C.keep HI.out (Below.keeps (M := fun _ => False) (by go_grown : Below w.heap.size w _)) (fun _ _ => id))).mono ?_
  rintro e w1 ⟨s0, sl, sc, rfl, hr, b1⟩
  rw [HL.out]
  unfold AA.V
  dsimp only
  have z1 := b1.size
  simp at z1
  have A1 := Lib.hid (Blk.below (Blk.made w #[.int .i64 0, .int .i64 0, .int .i64 0, .int .u64 0, .int .u64 0, .slice none 0 0] 72) b1 (by simp))
  have B1 : Below w.heap.size w w1 := ((Below.refl w.heap.size w).alloc (Nat.le_refl _) _).trans (b1.mono (by simp))
  have y1 : w.heap.size < w1.heap.size := by omega
  have HR := Lib.hid hr
  clear b1 hr e0 e1 e2 e3 g0 g3
  have a0 := A1.out.cell 0
  have a1 := A1.out.cell 1
  have a2 := A1.out.cell 2
  have a3 := A1.out.cell 3
  have a4 := A1.out.cell 4
  have a5 := A1.out.cell 5
  have e0 := A1.out.frozen 0
  have e1 := A1.out.frozen 1
  have e2 := A1.out.frozen 2
  have e3 := A1.out.frozen 3
  have e4 := A1.out.frozen 4
  have e5 := A1.out.frozen 5
  simp only [List.getElem?_toArray, List.getElem?_cons_zero, List.getElem?_cons_succ] at a0 a1 a2 a3 a4 a5
  go_wp2
  refine bodyPost_ret (v := .tuple #[(K.C.M.want s).V (.slice s0 sl sc), .bool true]) (res_aa (c := K.C.M.want s) rfl rfl rfl (((((((A1.out.set 0 _).set 1 _).set 2 _).set 3 _).set 4 _).set 5 _))) rfl ⟨s0, sl, sc, rfl, ?_, ?_⟩
  ·refine HR.out.keep (K := (· = w.heap.size)) ?_ (fun h => HR.out.apart h A1.out rfl)
   repeat' (refine Keep.setCell (M := (· = w.heap.size)) ?_ (Or.inl (by simp)) _)
   exact Keep.refl _ _
  ·repeat' (refine Below.setCell ?_ (by simp; try omega) _)
   exact B1
set_option maxHeartbeats 4000000 in
theorem chTake_p (K : ChK) (hty : ∀ s, K.C.ty s = 97) (w : World) (q : Nat) (F : Nat → Prop) (cur : Option K.C.M.σ) (t : K.c.τ) (x : AN) (s0 : Option Addr) (sl sc : Nat) (h : K.P w q F cur t) (ho : K.c.okay (cur, t)) (hen : K.c.Enough) (hl : K.c.fin (cur, t)) (hx : cur.isSome = true → K.xok x) (hr : RdB w (.slice s0 sl sc) x.b) :
  Calls Tryz.prog 204 #[ptr q, .agg #[.int .u64 x.v, .bool x.d, .slice s0 sl sc]] w fun e w' => e = .returned (.tuple #[]) ∧ K.c.okay (K.c.step (cur, t) x) ∧ ∃ F', K.P w' q F' (K.c.step (cur, t) x).1 (K.c.step (cur, t) x).2 ∧ (∀ i, F' i → F i ∨ w.heap.size ≤ i) ∧ Keep F w w' := by
 obtain ⟨nv3, bx3, e0, e1, e2, e3, g0, g3⟩ := K.cells h
 have hlt := (K.dom h).2 q (K.dom h).1
 have H := Lib.hid h
 have HO := Lib.hid ho
 have HEN := Lib.hid hen
 have HL := Lib.hid hl
 have HX := Lib.hid hx
 have HR := Lib.hid hr
 have HT := Lib.hid hty
 clear h ho hen hl hx hr hty
 unfold ptr
 cases cur with
 | none =>
  simp only [Option.isSome_none] at e3
  go_enter Tryz.func204, Tryz.ntmps204
  go_wp2
  refine bodyPost_ret (results_none rfl _ _ _) rfl ⟨rfl, K.c.okay_none _, F, K.below H.out (by go_grown), fun i h => .inl h, Below.keeps (by go_grown)⟩
 | some s =>
  simp only [Option.isSome_some] at e3
  obtain ⟨p, F1, rfl, hi, hF1, hsw⟩ := K.mach H.out e0
  have HI := Lib.hid hi
  have HF1 := Lib.hid hF1
  have HSW := Lib.hid hsw
  have mt := K.C.mt s p
  rw [HT.out s] at mt
  simp only [Tryz.types_size, Made.depth, Nat.reduceAdd] at mt
  have et := K.C.et s
  have nF : ¬ F1 w.heap.size := fun h => Nat.lt_irrefl _ ((K.C.dom HI.out).2 _ h)
  have nq : ¬ F1 q := fun h => (HF1.out q h).2 rfl
  have HNF := Lib.hid nF
  have HNQ := Lib.hid nq
  clear hi hF1 hsw nF nq
  unfold ptr at e0 e1
  go_enter Tryz.func204, Tryz.ntmps204
  go_wp2_with fail
  go_region_held3 (fun w' => w'.cell? ⟨q, 0, none⟩ = some (.pointer (some ⟨p, 0, none⟩)) ∧ w'.cell? ⟨w.heap.size, 0, none⟩ = some (.int .u64 x.v) ∧ w'.cell? ⟨w.heap.size, 1, none⟩ = some (.bool x.d) ∧ w'.cell? ⟨w.heap.size, 2, none⟩ = some (.slice s0 sl sc)) (first | go_keep | trivial)
   (first
    | (refine (K.xtk (K.C.keep HI.out (Below.keeps (M := fun _ => False) (by go_grown : Below w.heap.size w _)) (fun _ _ => id)) (HL.out s rfl) (HX.out rfl) (HR.out.below (by go_grown))).mono ?_; rintro e w2 ⟨rfl, F1', hi2, hg2, k2⟩; have hc := fun o => k2.cell (b := w.heap.size) o (by simp) HNF.out; have hq := fun o => k2.cell (b := q) o (by simp; omega) HNQ.out; have K2 := Lib.hid (Keep.trans (Below.keeps (M := F1) (by go_grown : Below w.heap.size w _)) k2); have HG2 : Hid (∀ i, F1' i → F1 i ∨ w.heap.size ≤ i) := Lib.hid (fun i h => (hg2 i h).imp_right (fun h => by simp at h; omega)); have HP2 := Lib.hid (HSW.out w2 _ F1' K2.out hi2 HG2.out); clear hi2 hg2 k2))
  all_goals (
   have HS := Lib.hid (chSettle_p K HT.out w2 q (fun i => F i ∨ F1' i) (some (K.C.M.step s x)) t (K.c.fu t) HP2.out (fun _ => HO.out rfl) (HEN.out.all _ _ (HO.out rfl)))
   clear hc hq
   go_wp2_with fail
   refine HS.out.mono ?_
   rintro e w5 ⟨rfl, ho5, F5, hp5, hg5, k5⟩
   have HO5 := Lib.hid ho5
   have HP5 := Lib.hid hp5
   have HG5 := Lib.hid hg5
   have K5 := Lib.hid k5
   clear hp5 hg5 k5 ho5
   go_wp2
   refine bodyPost_end (results_none rfl _ _ _) rfl ⟨rfl, HO5.out, F5, HP5.out, fun i h => ?_, (K2.out.mono (fun i _ h => (HF1.out i h).1)).then K5.out (fun i hi h => h.elim id (fun h => (HG2.out i h).elim (fun h => (HF1.out i h).1) (fun h => absurd h (by omega))))⟩
   rcases HG5.out i h with (h | h) | h
   ·exact .inl h
   ·exact (HG2.out i h).imp (fun h => (HF1.out i h).1) id
   ·exact .inr (by have := K2.out.size; omega))
set_option maxHeartbeats 4000000 in
theorem chSettle_g (K : ChK) (hty : ∀ s, K.C.ty s = 95) (w : World) (q : Nat) (F : Nat → Prop) (cur : Option K.C.M.σ) (t : K.c.τ) (n : Nat) (h : K.P w q F cur t) (ho : K.c.okay (cur, t)) (hf : K.c.fin (K.c.settle n (cur, t))) :
  Calls Tryz.prog 84 #[ptr q] w fun e w' => e = .returned (.tuple #[]) ∧ K.c.okay (K.c.settle n (cur, t)) ∧ ∃ F', K.P w' q F' (K.c.settle n (cur, t)).1 (K.c.settle n (cur, t)).2 ∧ (∀ i, F' i → F i ∨ w.heap.size ≤ i) ∧ Keep F w w' := by
 have H := Lib.hid h
 have HO := Lib.hid ho
 have HF := Lib.hid hf
 have HT := Lib.hid hty
 obtain ⟨R, hR⟩ : ∃ R, R = K.c.settle n (cur, t) := ⟨_, rfl⟩
 have HR := Lib.hid hR
 rw [← hR]
 clear h ho hf hty hR
 unfold ptr
 go_enter Tryz.func84, Tryz.ntmps84
 go_wp2_with fail
 go_loopg [] (n + 1) (fun gk wr => ∃ (m : Nat) (cr : Option K.C.M.σ) (tr : K.c.τ) (Fr : Nat → Prop), gk = m + 1 ∧ K.P wr q Fr cr tr ∧ K.c.okay (cr, tr) ∧ K.c.settle m (cr, tr) = R ∧ (∀ i, Fr i → F i ∨ w.heap.size ≤ i) ∧ Keep F w wr)
 case atStart => exact ⟨n, cur, t, F, rfl, H.out, HO.out, HR.out.symm, fun i hi => .inl hi, Keep.refl _ _⟩
 case round =>
  obtain ⟨m, cr, tr, Fr, rfl, hp, hok, hset, hg, hk⟩ := hrel
  obtain ⟨nv, bx, c0, c1, c2, c3, f0, f3⟩ := K.cells hp
  have hlt := (K.dom hp).2 q (K.dom hp).1
  have HP := Lib.hid hp
  have HOK := Lib.hid hok
  have HSET := Lib.hid hset
  have HG := Lib.hid hg
  have HKP := Lib.hid hk
  clear hp hok hset hg hk
  cases cr with
  | none =>
   simp only [Option.isSome_none] at c3
   go_wp2
   refine bodyPost_end (results_none rfl _ _ _) rfl ?_
   have e := HSET.out
   rw [K.c.settle_none] at e
   subst e
   exact ⟨rfl, K.c.okay_none _, Fr, HP.out, HG.out, HKP.out⟩
  | some s =>
   simp only [Option.isSome_some] at c3
   obtain ⟨p, F1, rfl, hi, hF1, hsw⟩ := K.mach HP.out c0
   have HI := Lib.hid hi
   have mn := K.C.mn s p
   rw [HT.out s] at mn
   simp only [Tryz.types_size, Made.depth, Nat.reduceAdd] at mn
   have en := K.C.en s
   clear hi hF1 hsw
   unfold ptr at c0 c1
   go_wp2_with fail
   refine (K.C.next HI.out).mono ?_
   rintro e w1 ⟨s0, sl, sc, rfl, hr, b1⟩
   have z1 := b1.size
   unfold AA.V
   dsimp only
   have B1 := Lib.hid b1
   have HP1 := Lib.hid (K.below HP.out b1)
   have d0 := (b1.cell (p := ⟨q, 0, none⟩) hlt).trans c0
   have d1 := (b1.cell (p := ⟨q, 1, none⟩) hlt).trans c1
   have d2 := (b1.cell (p := ⟨q, 2, none⟩) hlt).trans c2
   have hlt1 : q < w1.heap.size := by omega
   clear hr b1 c0 c1 c2 c3 f0 f3
   by_cases hl : K.C.M.live s = true
   ·rw [hl]
    have HL := Lib.hid hl
    clear hl
    go_wp2
    refine bodyPost_ret (results_none rfl _ _ _) rfl ?_
    have e := HSET.out
    rw [K.c.settle_live _ _ _ HL.out] at e
    subst e
    refine ⟨rfl, HOK.out, Fr, K.below HP1.out (by go_grown), HG.out, HKP.out.trans (Below.keeps (B1.out.trans ((by go_grown : Below w1.heap.size w1 _).mono B1.out.size)))⟩
   ·have hl' : K.C.M.live s = false := by simpa using hl
    rw [hl']
    have HL := Lib.hid hl'
    clear hl hl'
    have ene := K.ene
    unfold En at ene
    obtain ⟨m', rfl⟩ : ∃ m', m = m' + 1 := by
     cases m with
     | zero =>
      have e := HSET.out
      have hfin := HF.out
      rw [← HR.out, ← e] at hfin
      have := hfin s rfl
      rw [HL.out] at this
      cases this
     | succ k => exact ⟨k, rfl⟩
    have HST := Lib.hid ((K.c.settle_dead m' s tr HL.out).symm.trans HSET.out)
    have enm := K.enm
    unfold En at enm
    go_wp2_with fail
    go_region_held3 (fun w' => w'.cell? ⟨q, 0, none⟩ = some (.pointer (some ⟨p, 0, none⟩)) ∧ w'.cell? ⟨q, 1, none⟩ = some (.func (.func K.mor) #[.pointer (some ⟨q, 0, none⟩)] #[]) ∧ w'.cell? ⟨q, 2, none⟩ = some (.func (.func K.enf) (K.a1 q bx) (K.a2 q bx))) (first | go_keep | trivial)
     ((refine (K.ended (p := p) (bx := bx) (K.below HP1.out (by go_grown)) (HOK.out rfl) (by unfold ptr; go_keep) (by go_keep)).mono ?_; rintro e w3 ⟨rfl, y0, y2, F3, hp3, hg3, k3⟩; unfold ptr at y0; obtain ⟨_, _, _, y1, _⟩ := K.cells hp3; unfold ptr at y1; have B3 := Lib.hid (Keep.trans (Below.keeps (M := Fr) (by go_grown : Below w1.heap.size w1 _)) k3); have HG3 := Lib.hid hg3; have HP3 := Lib.hid hp3; clear hp3 hg3 k3))
    all_goals (
     obtain ⟨nv3, bx3, e0, e1, e2, e3, g0, g3⟩ := K.cells HP3.out
     have hlt3 := (K.dom HP3.out).2 q (K.dom HP3.out).1
     unfold ptr at e1
     go_wp2_with fail
     refine (K.more HP3.out).mono ?_
     rintro e w4 ⟨k4, hp4, hcase⟩
     have K4 := Lib.hid k4
     have HP4 := Lib.hid hp4
     obtain ⟨nv4, bx4, i0, i1, i2, i3, j0, j3⟩ := K.cells hp4
     clear k4 hp4 e0 e1 e2 e3 g0 g3 y0 y1 y2
     have HKA : Hid (Keep F w w4) := Lib.hid (((HKP.out.trans (Below.keeps (M := F) B1.out)).then B3.out (fun i hi h => (HG.out i h).resolve_right (by omega))).then K4.out (fun i hi h => (HG3.out i h).elim (fun h => (HG.out i h).resolve_right (by omega)) (fun h => absurd h (by have := HKP.out.size; have := B1.out.size; have := B3.out.size; simp at *; omega))))
     have HGA : Hid (∀ i, F3 i → F i ∨ w.heap.size ≤ i) := Lib.hid (fun i h => (HG3.out i h).elim (fun h => HG.out i h) (fun h => .inr (by have := HKP.out.size; have := B1.out.size; simp at h; omega)))
     have HKS : Hid (∀ a b, Keep F w ((w4.setCell ⟨q, 0, none⟩ a).setCell ⟨q, 3, none⟩ b)) := Lib.hid (fun a b => HKA.out.then (((Keep.refl (fun i => i = q) w4).setCell (p := ⟨q, 0, none⟩) (.inl rfl) _).setCell (p := ⟨q, 3, none⟩) (.inl rfl) _) (fun i hi e => (HGA.out i (e ▸ (K.dom HP3.out).1)).resolve_right (by omega)))
     rcases hcase with ⟨hm, rfl⟩ | ⟨s2, p2, F2, hm, rfl, hi2, hg2, hok2⟩
     ·have hmo : K.c.mo (K.c.en s tr) = (none, (K.c.mo (K.c.en s tr)).2) := Prod.ext hm rfl
      have HMO := Lib.hid hmo
      clear hm hmo
      go_wp2_with fail
      go_roundg (m' + 1)
      case measure => omega
      case rel => exact ⟨m', none, (K.c.mo (K.c.en s tr)).2, F3, rfl, K.setN HP4.out, (fun h => by cases h), HMO.out ▸ HST.out, HGA.out, HKS.out _ _⟩
     ·have hmo : K.c.mo (K.c.en s tr) = (some s2, (K.c.mo (K.c.en s tr)).2) := Prod.ext hm rfl
      have HMO := Lib.hid hmo
      have HI2 := Lib.hid hi2
      have HG2 := Lib.hid hg2
      have HOK2 := Lib.hid hok2
      clear hm hmo hi2 hg2 hok2
      unfold ptr
      go_wp2_with fail
      go_roundg (m' + 1)
      case measure => omega
      case rel =>
       exact ⟨m', some s2, (K.c.mo (K.c.en s tr)).2, fun i => F3 i ∨ F2 i, rfl, K.setS HP4.out HI2.out (fun i h1 h2 => by have := HG2.out i h1; have := (K.dom HP3.out).2 i h2; omega), (fun _ => HOK2.out), HMO.out ▸ HST.out, fun i h => h.elim (HGA.out i) (fun h => .inr (by have := HG2.out i h; have := HKA.out.size; have := HKP.out.size; have := B1.out.size; have := B3.out.size; simp at *; omega)), HKS.out _ _⟩)
set_option maxHeartbeats 4000000 in
theorem chStart_g (K : ChK) (hty : ∀ s, K.C.ty s = 95) (w : World) (q : Nat) (F : Nat → Prop) (cur : Option K.C.M.σ) (t : K.c.τ) (n : Nat) (h : K.P w q F cur t) (hf : K.c.fin (K.c.settle n (K.c.mo t))) :
  Calls Tryz.prog 46 #[ptr q] w fun e w' => e = .returned (.tuple #[]) ∧ K.c.okay (K.c.settle n (K.c.mo t)) ∧ ∃ F', K.P w' q F' (K.c.settle n (K.c.mo t)).1 (K.c.settle n (K.c.mo t)).2 ∧ (∀ i, F' i → F i ∨ w.heap.size ≤ i) ∧ Keep F w w' := by
 obtain ⟨nv3, bx3, e0, e1, e2, e3, g0, g3⟩ := K.cells h
 have hlt := (K.dom h).2 q (K.dom h).1
 have H := Lib.hid h
 have HF := Lib.hid hf
 have HT := Lib.hid hty
 have enm := K.enm
 unfold En at enm
 unfold ptr at e1
 clear h hf hty
 unfold ptr
 go_enter Tryz.func46, Tryz.ntmps46
 go_wp2_with fail
 refine (K.more H.out).mono ?_
 rintro e w4 ⟨k4, hp4, hcase⟩
 have K4 := Lib.hid k4
 have HP4 := Lib.hid hp4
 have hlt4 := (K.dom hp4).2 q (K.dom hp4).1
 obtain ⟨nv4, bx4, i0, i1, i2, i3, j0, j3⟩ := K.cells hp4
 clear k4 hp4 e0 e1 e2 e3 g0 g3
 have HKS : Hid (∀ a b, Keep F w ((w4.setCell ⟨q, 0, none⟩ a).setCell ⟨q, 3, none⟩ b)) := Lib.hid (fun a b => K4.out.then (((Keep.refl (fun i => i = q) w4).setCell (p := ⟨q, 0, none⟩) (.inl rfl) _).setCell (p := ⟨q, 3, none⟩) (.inl rfl) _) (fun i hi e => e ▸ (K.dom H.out).1))
 rcases hcase with ⟨hm, rfl⟩ | ⟨s2, p2, F2, hm, rfl, hi2, hg2, hok2⟩
 ·have hmo : K.c.mo t = (none, (K.c.mo t).2) := Prod.ext hm rfl
  have HS := Lib.hid (chSettle_g K HT.out ((w4.setCell ⟨q, 0, none⟩ (.pointer none)).setCell ⟨q, 3, none⟩ (.bool false)) q F none (K.c.mo t).2 n (K.setN HP4.out) (fun h => by cases h) (hmo ▸ HF.out))
  have HMO := Lib.hid hmo
  clear hm hmo
  go_wp2_with fail
  refine HS.out.mono ?_
  rintro e w5 ⟨rfl, ho5, F5, hp5, hg5, k5⟩
  rw [← HMO.out] at hp5 ho5
  have HO5 := Lib.hid ho5
  clear ho5
  have HP5 := Lib.hid hp5
  clear hp5
  go_wp2
  refine bodyPost_end (results_none rfl _ _ _) rfl ⟨rfl, HO5.out, F5, HP5.out, fun i h => (hg5 i h).imp_right (fun h => by have := (HKS.out (.pointer none) (.bool false)).size; omega), (HKS.out _ _).then k5 (fun i _ h => h)⟩
 ·have hmo : K.c.mo t = (some s2, (K.c.mo t).2) := Prod.ext hm rfl
  have z4 := K4.out.size
  have HS := Lib.hid (chSettle_g K HT.out ((w4.setCell ⟨q, 0, none⟩ (ptr p2)).setCell ⟨q, 3, none⟩ (.bool true)) q (fun i => F i ∨ F2 i) (some s2) (K.c.mo t).2 n (K.setS HP4.out hi2 (fun i h1 h2 => by have := hg2 i h1; have := (K.dom H.out).2 i h2; omega)) (fun _ => hok2) (hmo ▸ HF.out))
  have HMO := Lib.hid hmo
  have HG2 := Lib.hid hg2
  clear hm hmo hi2 hg2
  unfold ptr at HS ⊢
  go_wp2_with fail
  refine HS.out.mono ?_
  rintro e w5 ⟨rfl, ho5, F5, hp5, hg5, k5⟩
  rw [← HMO.out] at hp5 ho5
  have HO5 := Lib.hid ho5
  clear ho5
  have HP5 := Lib.hid hp5
  clear hp5
  go_wp2
  refine bodyPost_end (results_none rfl _ _ _) rfl ⟨rfl, HO5.out, F5, HP5.out, fun i h => ?_, (HKS.out _ _).then k5 (fun i hi h => h.resolve_right (fun h => by have := HG2.out i h; omega))⟩
  rcases hg5 i h with (h | h) | h
  ·exact .inl h
  ·exact .inr (HG2.out i h)
  ·exact .inr (by have := (HKS.out (.pointer none) (.bool true)).size; simp at *; omega)
set_option maxHeartbeats 4000000 in
theorem chNext_g (K : ChK) (hty : ∀ s, K.C.ty s = 95) (w : World) (q : Nat) (F : Nat → Prop) (cur : Option K.C.M.σ) (t : K.c.τ) (h : K.P w q F cur t) (hf : K.c.fin (cur, t)) :
  Calls Tryz.prog 199 #[ptr q] w fun e w' => ∃ s0 sl sc, e = .returned (.tuple #[(K.c.want (cur, t)).V (.slice s0 sl sc), .bool cur.isSome]) ∧ RdB w' (.slice s0 sl sc) (K.c.want (cur, t)).b ∧ Below w.heap.size w w' := by
 obtain ⟨nv3, bx3, e0, e1, e2, e3, g0, g3⟩ := K.cells h
 have hlt := (K.dom h).2 q (K.dom h).1
 have H := Lib.hid h
 have HF := Lib.hid hf
 have HT := Lib.hid hty
 clear h hf hty
 unfold ptr
 cases cur with
 | none =>
  simp only [Option.isSome_none] at e3 ⊢
  have hw : K.c.want (none, t) = aaZ := rfl
  rw [hw]
  clear hw
  go_enter Tryz.func199, Tryz.ntmps199
  go_wp2
  refine bodyPost_ret (v := .tuple #[aaZ.V (.slice none 0 0), .bool false]) (res_aa (c := aaZ) rfl rfl rfl (Blk.made _ _ _)) rfl ⟨none, 0, 0, rfl, .inl ⟨rfl, rfl⟩, by go_grown⟩
 | some s =>
  simp only [Option.isSome_some] at e3 ⊢
  obtain ⟨p, F1, rfl, hi, hF1, hsw⟩ := K.mach H.out e0
  have hl : K.C.M.live s = true := HF.out s rfl
  have HL := Lib.hid hl
  have hw : K.c.want (some s, t) = K.C.M.want s := rfl
  rw [hw]
  have HI := Lib.hid hi
  have mn := K.C.mn s p
  rw [HT.out s] at mn
  simp only [Tryz.types_size, Made.depth, Nat.reduceAdd] at mn
  have en := K.C.en s
  clear hi hF1 hsw hl hw
  unfold ptr at e0 e1
  go_enter Tryz.func199, Tryz.ntmps199
  go_wp2_with fail
  refine (K.C.next (K.C.keep HI.out (Below.keeps (M := fun _ => False) (by go_grown : Below w.heap.size w _)) (fun _ _ => id))).mono ?_
  rintro e w1 ⟨s0, sl, sc, rfl, hr, b1⟩
  rw [HL.out]
  unfold AA.V
  dsimp only
  have z1 := b1.size
  simp at z1
  have A1 := Lib.hid (Blk.below (Blk.made w #[.int .i64 0, .int .i64 0, .int .i64 0, .int .u64 0, .int .u64 0, .slice none 0 0] 72) b1 (by simp))
  have B1 : Below w.heap.size w w1 := ((Below.refl w.heap.size w).alloc (Nat.le_refl _) _).trans (b1.mono (by simp))
  have y1 : w.heap.size < w1.heap.size := by omega
  have HR := Lib.hid hr
  clear b1 hr e0 e1 e2 e3 g0 g3
  have a0 := A1.out.cell 0
  have a1 := A1.out.cell 1
  have a2 := A1.out.cell 2
  have a3 := A1.out.cell 3
  have a4 := A1.out.cell 4
  have a5 := A1.out.cell 5
  have e0 := A1.out.frozen 0
  have e1 := A1.out.frozen 1
  have e2 := A1.out.frozen 2
  have e3 := A1.out.frozen 3
  have e4 := A1.out.frozen 4
  have e5 := A1.out.frozen 5
  simp only [List.getElem?_toArray, List.getElem?_cons_zero, List.getElem?_cons_succ] at a0 a1 a2 a3 a4 a5
  go_wp2
  refine bodyPost_ret (v := .tuple #[(K.C.M.want s).V (.slice s0 sl sc), .bool true]) (res_aa (c := K.C.M.want s) rfl rfl rfl (((((((A1.out.set 0 _).set 1 _).set 2 _).set 3 _).set 4 _).set 5 _))) rfl ⟨s0, sl, sc, rfl, ?_, ?_⟩
  ·refine HR.out.keep (K := (· = w.heap.size)) ?_ (fun h => HR.out.apart h A1.out rfl)
   repeat' (refine Keep.setCell (M := (· = w.heap.size)) ?_ (Or.inl (by simp)) _)
   exact Keep.refl _ _
  ·repeat' (refine Below.setCell ?_ (by simp; try omega) _)
   exact B1
set_option maxHeartbeats 4000000 in
theorem chTake_g (K : ChK) (hty : ∀ s, K.C.ty s = 95) (w : World) (q : Nat) (F : Nat → Prop) (cur : Option K.C.M.σ) (t : K.c.τ) (x : AN) (s0 : Option Addr) (sl sc : Nat) (h : K.P w q F cur t) (ho : K.c.okay (cur, t)) (hen : K.c.Enough) (hl : K.c.fin (cur, t)) (hx : cur.isSome = true → K.xok x) (hr : RdB w (.slice s0 sl sc) x.b) :
  Calls Tryz.prog 200 #[ptr q, .agg #[.int .u64 x.v, .bool x.d, .slice s0 sl sc]] w fun e w' => e = .returned (.tuple #[]) ∧ K.c.okay (K.c.step (cur, t) x) ∧ ∃ F', K.P w' q F' (K.c.step (cur, t) x).1 (K.c.step (cur, t) x).2 ∧ (∀ i, F' i → F i ∨ w.heap.size ≤ i) ∧ Keep F w w' := by
 obtain ⟨nv3, bx3, e0, e1, e2, e3, g0, g3⟩ := K.cells h
 have hlt := (K.dom h).2 q (K.dom h).1
 have H := Lib.hid h
 have HO := Lib.hid ho
 have HEN := Lib.hid hen
 have HL := Lib.hid hl
 have HX := Lib.hid hx
 have HR := Lib.hid hr
 have HT := Lib.hid hty
 clear h ho hen hl hx hr hty
 unfold ptr
 cases cur with
 | none =>
  simp only [Option.isSome_none] at e3
  go_enter Tryz.func200, Tryz.ntmps200
  go_wp2
  refine bodyPost_ret (results_none rfl _ _ _) rfl ⟨rfl, K.c.okay_none _, F, K.below H.out (by go_grown), fun i h => .inl h, Below.keeps (by go_grown)⟩
 | some s =>
  simp only [Option.isSome_some] at e3
  obtain ⟨p, F1, rfl, hi, hF1, hsw⟩ := K.mach H.out e0
  have HI := Lib.hid hi
  have HF1 := Lib.hid hF1
  have HSW := Lib.hid hsw
  have mt := K.C.mt s p
  rw [HT.out s] at mt
  simp only [Tryz.types_size, Made.depth, Nat.reduceAdd] at mt
  have et := K.C.et s
  have nF : ¬ F1 w.heap.size := fun h => Nat.lt_irrefl _ ((K.C.dom HI.out).2 _ h)
  have nq : ¬ F1 q := fun h => (HF1.out q h).2 rfl
  have HNF := Lib.hid nF
  have HNQ := Lib.hid nq
  clear hi hF1 hsw nF nq
  unfold ptr at e0 e1
  go_enter Tryz.func200, Tryz.ntmps200
  go_wp2_with fail
  go_region_held3 (fun w' => w'.cell? ⟨q, 0, none⟩ = some (.pointer (some ⟨p, 0, none⟩)) ∧ w'.cell? ⟨w.heap.size, 0, none⟩ = some (.int .u64 x.v) ∧ w'.cell? ⟨w.heap.size, 1, none⟩ = some (.bool x.d) ∧ w'.cell? ⟨w.heap.size, 2, none⟩ = some (.slice s0 sl sc)) (first | go_keep | trivial)
   (first
    | (refine (K.xtk (K.C.keep HI.out (Below.keeps (M := fun _ => False) (by go_grown : Below w.heap.size w _)) (fun _ _ => id)) (HL.out s rfl) (HX.out rfl) (HR.out.below (by go_grown))).mono ?_; rintro e w2 ⟨rfl, F1', hi2, hg2, k2⟩; have hc := fun o => k2.cell (b := w.heap.size) o (by simp) HNF.out; have hq := fun o => k2.cell (b := q) o (by simp; omega) HNQ.out; have K2 := Lib.hid (Keep.trans (Below.keeps (M := F1) (by go_grown : Below w.heap.size w _)) k2); have HG2 : Hid (∀ i, F1' i → F1 i ∨ w.heap.size ≤ i) := Lib.hid (fun i h => (hg2 i h).imp_right (fun h => by simp at h; omega)); have HP2 := Lib.hid (HSW.out w2 _ F1' K2.out hi2 HG2.out); clear hi2 hg2 k2))
  all_goals (
   have HS := Lib.hid (chSettle_g K HT.out w2 q (fun i => F i ∨ F1' i) (some (K.C.M.step s x)) t (K.c.fu t) HP2.out (fun _ => HO.out rfl) (HEN.out.all _ _ (HO.out rfl)))
   clear hc hq
   go_wp2_with fail
   refine HS.out.mono ?_
   rintro e w5 ⟨rfl, ho5, F5, hp5, hg5, k5⟩
   have HO5 := Lib.hid ho5
   have HP5 := Lib.hid hp5
   have HG5 := Lib.hid hg5
   have K5 := Lib.hid k5
   clear hp5 hg5 k5 ho5
   go_wp2
   refine bodyPost_end (results_none rfl _ _ _) rfl ⟨rfl, HO5.out, F5, HP5.out, fun i h => ?_, (K2.out.mono (fun i _ h => (HF1.out i h).1)).then K5.out (fun i hi h => h.elim id (fun h => (HG2.out i h).elim (fun h => (HF1.out i h).1) (fun h => absurd h (by omega))))⟩
   rcases HG5.out i h with (h | h) | h
   ·exact .inl h
   ·exact (HG2.out i h).imp (fun h => (HF1.out i h).1) id
   ·exact .inr (by have := K2.out.size; omega))
end Go.Proofs.YtggjhleomocojaaGreat
end
section
namespace Go.Proofs.YtggjhleomocojaaGreat
set_option maxRecDepth 100000
open Go.RowKit
set_option linter.unusedVariables false
set_option linter.unusedSimpArgs false
theorem fil_ty : ∀ s, filK.C.ty s = 97 := fun _ => rfl
variable {q : Nat}
set_option maxHeartbeats 2000000 in
theorem filNext_of {W : AA} {L : Bool} (w : World) (hlt : q < w.heap.size)
  (hc : ∀ w1, Below w.heap.size w w1 → Calls Tryz.prog 203 #[ptr q] w1 fun e w' => ∃ s0 sl sc, e = .returned (.tuple #[W.V (.slice s0 sl sc), .bool L]) ∧ RdB w' (.slice s0 sl sc) W.b ∧ Below w1.heap.size w1 w') :
  Calls Tryz.prog 201 #[ptr q] w fun e w' => ∃ s0 sl sc, e = .returned (.tuple #[W.V (.slice s0 sl sc), .bool L]) ∧ RdB w' (.slice s0 sl sc) W.b ∧ Below w.heap.size w w' := by
 have HC := Lib.hid hc
 clear hc
 unfold ptr
 go_enter Tryz.func201, Tryz.ntmps201
 go_wp2_with fail
 refine (HC.out (w.alloc (.cells #[.int .i64 0, .int .i64 0, .int .i64 0, .int .u64 0, .int .u64 0, .slice none 0 0] 72)) ((Below.refl w.heap.size w).alloc (Nat.le_refl _) _)).mono ?_
 rintro e w1 ⟨s0, sl, sc, rfl, hr, b1⟩
 unfold AA.V
 dsimp only
 have z1 := b1.size
 simp at z1
 have A1 := Lib.hid (Blk.below (Blk.made w #[.int .i64 0, .int .i64 0, .int .i64 0, .int .u64 0, .int .u64 0, .slice none 0 0] 72) b1 (by simp))
 have B1 : Below w.heap.size w w1 := ((Below.refl w.heap.size w).alloc (Nat.le_refl _) _).trans (b1.mono (by simp))
 have y1 : w.heap.size < w1.heap.size := by omega
 have HR := Lib.hid hr
 clear b1 hr
 have a0 := A1.out.cell 0
 have a1 := A1.out.cell 1
 have a2 := A1.out.cell 2
 have a3 := A1.out.cell 3
 have a4 := A1.out.cell 4
 have a5 := A1.out.cell 5
 have e0 := A1.out.frozen 0
 have e1 := A1.out.frozen 1
 have e2 := A1.out.frozen 2
 have e3 := A1.out.frozen 3
 have e4 := A1.out.frozen 4
 have e5 := A1.out.frozen 5
 simp only [List.getElem?_toArray, List.getElem?_cons_zero, List.getElem?_cons_succ] at a0 a1 a2 a3 a4 a5
 go_wp2
 refine bodyPost_ret (v := .tuple #[W.V (.slice s0 sl sc), .bool L]) (res_aa (c := W) rfl rfl rfl (((((((A1.out.set 0 _).set 1 _).set 2 _).set 3 _).set 4 _).set 5 _))) rfl ⟨s0, sl, sc, rfl, ?_, ?_⟩
 ·refine HR.out.keep (K := (· = w.heap.size)) ?_ (fun h => HR.out.apart h A1.out rfl)
  repeat' (refine Keep.setCell (M := (· = w.heap.size)) ?_ (Or.inl (by simp)) _)
  exact Keep.refl _ _
 ·repeat' (refine Below.setCell ?_ (by simp; try omega) _)
  exact B1
set_option maxHeartbeats 2000000 in
theorem filTake_of (v : Int) (d : Bool) (s0 : Option Addr) (sl sc : Nat) (Q : World → Prop) (w : World) (hlt : q < w.heap.size)
  (hc : ∀ w1, Below w.heap.size w w1 → Calls Tryz.prog 204 #[ptr q, .agg #[.int .u64 v, .bool d, .slice s0 sl sc]] w1 fun e w' => e = .returned (.tuple #[]) ∧ Q w' ∧ Keep (fun k => k < w.heap.size) w1 w') :
  Calls Tryz.prog 202 #[ptr q, .agg #[.int .u64 v, .bool d, .slice s0 sl sc]] w fun e w' => e = .returned (.tuple #[]) ∧ Q w' := by
 have HC := Lib.hid hc
 clear hc
 unfold ptr
 go_enter Tryz.func202, Tryz.ntmps202
 go_wp2_with fail
 go_region_held3 (fun w' => w'.cell? ⟨w.heap.size, 0, none⟩ = some (.int .u64 v) ∧ w'.cell? ⟨w.heap.size, 1, none⟩ = some (.bool d) ∧ w'.cell? ⟨w.heap.size, 2, none⟩ = some (.slice s0 sl sc)) (first | go_keep | trivial)
  (first
   | (go_at_call 204; refine (HC.out _ (by go_grown)).mono ?_; rintro e w2 ⟨rfl, hQ, hk⟩; have hc := fun o => hk.cell (b := w.heap.size) o (by simp) (by simp)))
 all_goals
  clear hc
  go_wp2
  go_end0
  exact ⟨rfl, hQ⟩
variable {w : World} {F : Nat → Prop}
theorem filNext_any {cur : Option filK.C.M.σ} {t : filK.c.τ} (h : filK.P w q F cur t) (hf : filK.c.fin (cur, t)) :
  Calls Tryz.prog 201 #[ptr q] w fun e w' => ∃ s0 sl sc, e = .returned (.tuple #[(filK.c.want (cur, t)).V (.slice s0 sl sc), .bool cur.isSome]) ∧ RdB w' (.slice s0 sl sc) (filK.c.want (cur, t)).b ∧ Below w.heap.size w w' :=
 filNext_of w ((filK.dom h).2 q (filK.dom h).1) (fun w1 b1 => chNext_p filK fil_ty w1 q F cur t (filK.below h b1) hf)
theorem filTake_any {cur : Option filK.C.M.σ} {t : filK.c.τ} (x : AN) (s0 : Option Addr) (sl sc : Nat) (h : filK.P w q F cur t) (ho : filK.c.okay (cur, t)) (hl : filK.c.fin (cur, t)) (hx : cur.isSome = true → filK.xok x) (hr : RdB w (.slice s0 sl sc) x.b) :
  Calls Tryz.prog 202 #[ptr q, .agg #[.int .u64 x.v, .bool x.d, .slice s0 sl sc]] w fun e w' => e = .returned (.tuple #[]) ∧ filK.c.okay (filK.c.step (cur, t) x) ∧ ∃ F', filK.P w' q F' (filK.c.step (cur, t) x).1 (filK.c.step (cur, t) x).2 ∧ (∀ i, F' i → F i ∨ w.heap.size ≤ i) ∧ Keep F w w' := by
 refine filTake_of x.v x.d s0 sl sc _ w ((filK.dom h).2 q (filK.dom h).1) (fun w1 b1 => ?_)
 refine (chTake_p filK fil_ty w1 q F cur t x s0 sl sc (filK.below h b1) ho fil_enough hl hx (hr.below b1)).mono ?_
 rintro e w' ⟨rfl, ho', F', hp, hg, k⟩
 have z1 := b1.size
 exact ⟨rfl, ⟨ho', F', hp, fun i hi => (hg i hi).imp_right (fun h => by omega), (Below.keeps (M := F) b1).trans k⟩, k.mono (fun i _ hi => (filK.dom h).2 i hi)⟩
theorem filM_next (b : Nat) (w : World) : (method (Tryz.prog.types.size + Made.depth) 63 (.pointer (some ⟨b, 0, none⟩)) "Next").run Tryz.prog w = .ok (201, .pointer (some ⟨b, 0, none⟩)) w := by kernel_rfl
theorem filM_take (b : Nat) (w : World) : (method (Tryz.prog.types.size + Made.depth) 63 (.pointer (some ⟨b, 0, none⟩)) "Take").run Tryz.prog w = .ok (202, .pointer (some ⟨b, 0, none⟩)) w := by kernel_rfl
theorem filE_next (args : Array Value) (w : World) : (callFunc 201 args).run Tryz.prog w = .ok (.enter 201 args) w :=
 enters_of Tryz.func201 (by kernel_rfl) rfl args w
theorem filE_take (args : Array Value) (w : World) : (callFunc 202 args).run Tryz.prog w = .ok (.enter 202 args) w :=
 enters_of Tryz.func202 (by kernel_rfl) rfl args w
theorem fil_xan {s : filC.mac.σ} {x : AN} (h : filK.P w q F s.1 s.2) (hf : filC.fin s) (hs : s.1.isSome = true) (hx : AN.ok (filC.mac.want s) x) : filK.xok x := by
 obtain ⟨cur, t⟩ := s
 cases cur with
 | none => cases hs
 | some m =>
  obtain ⟨nv, _, c0, _⟩ := filK.cells h
  obtain ⟨p, F1, _, hi, _⟩ := filK.mach h c0
  exact filK.xan hi (hf m rfl) hx
def filFam : Fam where
 M := filC.mac
 inv := fun w F q s => (filK.P w q F s.1 s.2) ∧ filC.fin s ∧ filC.okay s
 ty := fun _ => 63
 fn := fun _ => 201
 ft := fun _ => 202
 mn := fun _ b w => filM_next b w
 mt := fun _ b w => filM_take b w
 en := fun _ args w => filE_next args w
 et := fun _ args w => filE_take args w
 ts := fun _ _ => rfl
 dom := fun h => have h1 := h.1; filK.dom h1
 mono := fun h k1 k2 => have h1 := h.1; ⟨filK.mono h1 k1 k2, h.2⟩
 keep := fun h k hd => have h1 := h.1; ⟨filK.keep h1 k hd, h.2⟩
 wf := fun {w F q s} h => by
  obtain ⟨cur, t⟩ := s
  cases cur with
  | none => exact aaZ_wf
  | some m =>
   obtain ⟨h1, _⟩ := h
   obtain ⟨nv, _, c0, _⟩ := filK.cells h1
   obtain ⟨p, F1, _, hi, _⟩ := filK.mach h1 c0
   exact filK.C.wf hi
 next := fun {w F q s} h => have h1 := h.1; filNext_any (cur := s.1) (t := s.2) h1 h.2.1
 take := fun {w F q s x s0 sl sc} h hl hx hr => by
  obtain ⟨h1, h2⟩ := h
  refine (filTake_any (cur := s.1) (t := s.2) x s0 sl sc h1 h2.2 h2.1 (fun hs => fil_xan h1 h2.1 hs hx) hr).mono ?_
  rintro e w' ⟨rfl, h0, F', g1, g2, g3⟩
  exact ⟨rfl, F', ⟨g1, filC.fin_step fil_enough _ _ h2.1 h2.2, h0⟩, g2, g3⟩
theorem dra_ty (bx : Nat) : ∀ s, (draK bx).C.ty s = 95 := fun _ => rfl
set_option maxHeartbeats 2000000 in
theorem draNext_of {W : AA} {L : Bool} (w : World) (hlt : q < w.heap.size)
  (hc : ∀ w1, Below w.heap.size w w1 → Calls Tryz.prog 199 #[ptr q] w1 fun e w' => ∃ s0 sl sc, e = .returned (.tuple #[W.V (.slice s0 sl sc), .bool L]) ∧ RdB w' (.slice s0 sl sc) W.b ∧ Below w1.heap.size w1 w') :
  Calls Tryz.prog 197 #[ptr q] w fun e w' => ∃ s0 sl sc, e = .returned (.tuple #[W.V (.slice s0 sl sc), .bool L]) ∧ RdB w' (.slice s0 sl sc) W.b ∧ Below w.heap.size w w' := by
 have HC := Lib.hid hc
 clear hc
 unfold ptr
 go_enter Tryz.func197, Tryz.ntmps197
 go_wp2_with fail
 refine (HC.out (w.alloc (.cells #[.int .i64 0, .int .i64 0, .int .i64 0, .int .u64 0, .int .u64 0, .slice none 0 0] 72)) ((Below.refl w.heap.size w).alloc (Nat.le_refl _) _)).mono ?_
 rintro e w1 ⟨s0, sl, sc, rfl, hr, b1⟩
 unfold AA.V
 dsimp only
 have z1 := b1.size
 simp at z1
 have A1 := Lib.hid (Blk.below (Blk.made w #[.int .i64 0, .int .i64 0, .int .i64 0, .int .u64 0, .int .u64 0, .slice none 0 0] 72) b1 (by simp))
 have B1 : Below w.heap.size w w1 := ((Below.refl w.heap.size w).alloc (Nat.le_refl _) _).trans (b1.mono (by simp))
 have y1 : w.heap.size < w1.heap.size := by omega
 have HR := Lib.hid hr
 clear b1 hr
 have a0 := A1.out.cell 0
 have a1 := A1.out.cell 1
 have a2 := A1.out.cell 2
 have a3 := A1.out.cell 3
 have a4 := A1.out.cell 4
 have a5 := A1.out.cell 5
 have e0 := A1.out.frozen 0
 have e1 := A1.out.frozen 1
 have e2 := A1.out.frozen 2
 have e3 := A1.out.frozen 3
 have e4 := A1.out.frozen 4
 have e5 := A1.out.frozen 5
 simp only [List.getElem?_toArray, List.getElem?_cons_zero, List.getElem?_cons_succ] at a0 a1 a2 a3 a4 a5
 go_wp2
 refine bodyPost_ret (v := .tuple #[W.V (.slice s0 sl sc), .bool L]) (res_aa (c := W) rfl rfl rfl (((((((A1.out.set 0 _).set 1 _).set 2 _).set 3 _).set 4 _).set 5 _))) rfl ⟨s0, sl, sc, rfl, ?_, ?_⟩
 ·refine HR.out.keep (K := (· = w.heap.size)) ?_ (fun h => HR.out.apart h A1.out rfl)
  repeat' (refine Keep.setCell (M := (· = w.heap.size)) ?_ (Or.inl (by simp)) _)
  exact Keep.refl _ _
 ·repeat' (refine Below.setCell ?_ (by simp; try omega) _)
  exact B1
set_option maxHeartbeats 2000000 in
theorem draTake_of (v : Int) (d : Bool) (s0 : Option Addr) (sl sc : Nat) (Q : World → Prop) (w : World) (hlt : q < w.heap.size)
  (hc : ∀ w1, Below w.heap.size w w1 → Calls Tryz.prog 200 #[ptr q, .agg #[.int .u64 v, .bool d, .slice s0 sl sc]] w1 fun e w' => e = .returned (.tuple #[]) ∧ Q w' ∧ Keep (fun k => k < w.heap.size) w1 w') :
  Calls Tryz.prog 198 #[ptr q, .agg #[.int .u64 v, .bool d, .slice s0 sl sc]] w fun e w' => e = .returned (.tuple #[]) ∧ Q w' := by
 have HC := Lib.hid hc
 clear hc
 unfold ptr
 go_enter Tryz.func198, Tryz.ntmps198
 go_wp2_with fail
 go_region_held3 (fun w' => w'.cell? ⟨w.heap.size, 0, none⟩ = some (.int .u64 v) ∧ w'.cell? ⟨w.heap.size, 1, none⟩ = some (.bool d) ∧ w'.cell? ⟨w.heap.size, 2, none⟩ = some (.slice s0 sl sc)) (first | go_keep | trivial)
  (first
   | (go_at_call 200; refine (HC.out _ (by go_grown)).mono ?_; rintro e w2 ⟨rfl, hQ, hk⟩; have hc := fun o => hk.cell (b := w.heap.size) o (by simp) (by simp)))
 all_goals
  clear hc
  go_wp2
  go_end0
  exact ⟨rfl, hQ⟩
variable {bx : Nat}
theorem draNext_any {cur : Option (draK bx).C.M.σ} {t : (draK bx).c.τ} (h : (draK bx).P w q F cur t) (hf : (draK bx).c.fin (cur, t)) :
  Calls Tryz.prog 197 #[ptr q] w fun e w' => ∃ s0 sl sc, e = .returned (.tuple #[((draK bx).c.want (cur, t)).V (.slice s0 sl sc), .bool cur.isSome]) ∧ RdB w' (.slice s0 sl sc) ((draK bx).c.want (cur, t)).b ∧ Below w.heap.size w w' :=
 draNext_of w (((draK bx).dom h).2 q ((draK bx).dom h).1) (fun w1 b1 => chNext_g (draK bx) (dra_ty bx) w1 q F cur t ((draK bx).below h b1) hf)
theorem draTake_any {cur : Option (draK bx).C.M.σ} {t : (draK bx).c.τ} (x : AN) (s0 : Option Addr) (sl sc : Nat) (h : (draK bx).P w q F cur t) (ho : (draK bx).c.okay (cur, t)) (hl : (draK bx).c.fin (cur, t)) (hx : cur.isSome = true → (draK bx).xok x) (hr : RdB w (.slice s0 sl sc) x.b) :
  Calls Tryz.prog 198 #[ptr q, .agg #[.int .u64 x.v, .bool x.d, .slice s0 sl sc]] w fun e w' => e = .returned (.tuple #[]) ∧ (draK bx).c.okay ((draK bx).c.step (cur, t) x) ∧ ∃ F', (draK bx).P w' q F' ((draK bx).c.step (cur, t) x).1 ((draK bx).c.step (cur, t) x).2 ∧ (∀ i, F' i → F i ∨ w.heap.size ≤ i) ∧ Keep F w w' := by
 refine draTake_of x.v x.d s0 sl sc _ w (((draK bx).dom h).2 q ((draK bx).dom h).1) (fun w1 b1 => ?_)
 refine (chTake_g (draK bx) (dra_ty bx) w1 q F cur t x s0 sl sc ((draK bx).below h b1) ho dra_enough hl hx (hr.below b1)).mono ?_
 rintro e w' ⟨rfl, ho', F', hp, hg, k⟩
 have z1 := b1.size
 exact ⟨rfl, ⟨ho', F', hp, fun i hi => (hg i hi).imp_right (fun h => by omega), (Below.keeps (M := F) b1).trans k⟩, k.mono (fun i _ hi => ((draK bx).dom h).2 i hi)⟩
theorem draM_next (b : Nat) (w : World) : (method (Tryz.prog.types.size + Made.depth) 61 (.pointer (some ⟨b, 0, none⟩)) "Next").run Tryz.prog w = .ok (197, .pointer (some ⟨b, 0, none⟩)) w := by kernel_rfl
theorem draM_take (b : Nat) (w : World) : (method (Tryz.prog.types.size + Made.depth) 61 (.pointer (some ⟨b, 0, none⟩)) "Take").run Tryz.prog w = .ok (198, .pointer (some ⟨b, 0, none⟩)) w := by kernel_rfl
theorem draE_next (args : Array Value) (w : World) : (callFunc 197 args).run Tryz.prog w = .ok (.enter 197 args) w :=
 enters_of Tryz.func197 (by kernel_rfl) rfl args w
theorem draE_take (args : Array Value) (w : World) : (callFunc 198 args).run Tryz.prog w = .ok (.enter 198 args) w :=
 enters_of Tryz.func198 (by kernel_rfl) rfl args w
theorem dra_xan {s : draC.mac.σ} {x : AN} (h : (draK bx).P w q F s.1 s.2) (hf : draC.fin s) (hs : s.1.isSome = true) (hx : AN.ok (draC.mac.want s) x) : (draK bx).xok x := by
 obtain ⟨cur, t⟩ := s
 cases cur with
 | none => cases hs
 | some m =>
  obtain ⟨nv, _, c0, _⟩ := (draK bx).cells h
  obtain ⟨p, F1, _, hi, _⟩ := (draK bx).mach h c0
  exact (draK bx).xan hi (hf m rfl) hx
def draFam : Fam where
 M := draC.mac
 inv := fun w F q s => (∃ bx, (draK bx).P w q F s.1 s.2) ∧ draC.fin s ∧ draC.okay s
 ty := fun _ => 61
 fn := fun _ => 197
 ft := fun _ => 198
 mn := fun _ b w => draM_next b w
 mt := fun _ b w => draM_take b w
 en := fun _ args w => draE_next args w
 et := fun _ args w => draE_take args w
 ts := fun _ _ => rfl
 dom := fun h => h.1.elim fun bx h1 => (draK bx).dom h1
 mono := fun h k1 k2 => h.1.elim fun bx h1 => ⟨⟨bx, (draK bx).mono h1 k1 k2⟩, h.2⟩
 keep := fun h k hd => h.1.elim fun bx h1 => ⟨⟨bx, (draK bx).keep h1 k hd⟩, h.2⟩
 wf := fun {w F q s} h => by
  obtain ⟨cur, t⟩ := s
  cases cur with
  | none => exact aaZ_wf
  | some m =>
   obtain ⟨⟨bx, h1⟩, _⟩ := h
   obtain ⟨nv, _, c0, _⟩ := (draK bx).cells h1
   obtain ⟨p, F1, _, hi, _⟩ := (draK bx).mach h1 c0
   exact (draK bx).C.wf hi
 next := fun {w F q s} h => h.1.elim fun bx h1 => draNext_any (cur := s.1) (t := s.2) h1 h.2.1
 take := fun {w F q s x s0 sl sc} h hl hx hr => by
  obtain ⟨⟨bx, h1⟩, h2⟩ := h
  refine (draTake_any (cur := s.1) (t := s.2) x s0 sl sc h1 h2.2 h2.1 (fun hs => dra_xan h1 h2.1 hs hx) hr).mono ?_
  rintro e w' ⟨rfl, h0, F', g1, g2, g3⟩
  exact ⟨rfl, F', ⟨⟨bx, g1⟩, draC.fin_step dra_enough _ _ h2.1 h2.2, h0⟩, g2, g3⟩
end Go.Proofs.YtggjhleomocojaaGreat
end
namespace Go.Proofs.YtggjhleomocojaaGreat
set_option maxRecDepth 100000
open Go.RowKit
set_option linter.unusedVariables false
set_option linter.unusedSimpArgs false
def Fam.Sum (C D : Fam) : Fam where
 M := Mac.Sum C.M D.M
 inv := fun w F q s => match s with | .inl x => C.inv w F q x | .inr x => D.inv w F q x
 ty := fun s => match s with | .inl x => C.ty x | .inr x => D.ty x
 fn := fun s => match s with | .inl x => C.fn x | .inr x => D.fn x
 ft := fun s => match s with | .inl x => C.ft x | .inr x => D.ft x
 mn := fun s b w => match s with | .inl x => C.mn x b w | .inr x => D.mn x b w
 mt := fun s b w => match s with | .inl x => C.mt x b w | .inr x => D.mt x b w
 en := fun s args w => match s with | .inl x => C.en x args w | .inr x => D.en x args w
 et := fun s args w => match s with | .inl x => C.et x args w | .inr x => D.et x args w
 ts := fun s a => match s with | .inl x => C.ts x a | .inr x => D.ts x a
 dom := fun {w F q s} h => match s, h with | .inl x, h => C.dom (s := x) h | .inr x, h => D.dom (s := x) h
 mono := fun {w q s F F'} h h1 h2 => match s, h with | .inl x, h => C.mono (s := x) h h1 h2 | .inr x, h => D.mono (s := x) h h1 h2
 keep := fun {w w' F q s K} h k hd => match s, h with | .inl x, h => C.keep (s := x) h k hd | .inr x, h => D.keep (s := x) h k hd
 wf := fun {w F q s} h => match s, h with | .inl x, h => C.wf (s := x) h | .inr x, h => D.wf (s := x) h
 next := fun {w F q s} h => match s, h with | .inl x, h => C.next (s := x) h | .inr x, h => D.next (s := x) h
 take := fun {w F q s a s0 sl sc} h hl hx hr => match s, h, hl, hx with
  | .inl x, h, hl, hx => by
   refine (C.take (s := x) h hl hx hr).mono ?_
   rintro e w' ⟨rfl, F', h1, h2, h3⟩
   exact ⟨rfl, F', h1, h2, h3⟩
  | .inr x, h, hl, hx => by
   refine (D.take (s := x) h hl hx hr).mono ?_
   rintro e w' ⟨rfl, F', h1, h2, h3⟩
   exact ⟨rfl, F', h1, h2, h3⟩
end Go.Proofs.YtggjhleomocojaaGreat
