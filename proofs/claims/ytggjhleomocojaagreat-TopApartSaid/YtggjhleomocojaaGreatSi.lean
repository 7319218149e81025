/- Contract of sched.World.Pick, of a step or a kill. Conditions: as it says. -/
import Derived.Test.YtggjhleomocojaaGreatSh
namespace Go.Proofs.YtggjhleomocojaaGreat
set_option maxRecDepth 100000
open Go.RowKit
set_option linter.unusedVariables false
set_option linter.unusedSimpArgs false
def PickPost (C : Fam) (w : World) (κ : Nat → Kd) (W p c : Nat) (av tv : Value) (ab : Nat → Nat) (R : SW C.M.σ × Ev × Int) (e : Ending) (w' : World) : Prop :=
 ∃ s0 sl sc t0 tl tc, e = .returned (.tuple #[evV R.2.1.pk R.2.1.pa R.2.1.pn R.2.1.c (.slice s0 sl sc) R.2.1.x (.slice t0 tl tc), .int .i64 R.2.2]) ∧ OwB 5 w.heap.size w' (.slice s0 sl sc) R.2.1.c.b ∧ OwB 5 w.heap.size w' (.slice t0 tl tc) R.2.1.x.b ∧
  ∃ κ' tv', WoIn C w' κ' W p c av tv' ab R.1 ∧ (∀ i, i < w.heap.size → κ' i = κ i) ∧ (∀ i, (Value.slice s0 sl sc).ownBlock = some i ∨ (Value.slice t0 tl tc).ownBlock = some i → κ' i = .no) ∧ Keep (fun i => κ i ≠ .no) w w'
variable {w : World}
theorem no_big {C : Fam} {κ : Nat → Kd} {W p c : Nat} {av tv : Value} {ab : Nat → Nat} {S : SW C.M.σ} (h : WoIn C w κ W p c av tv ab S) {i : Nat} (hi : w.heap.size ≤ i) : κ i = .no := by
 by_cases hk : κ i = .no
 ·exact hk
 ·exact absurd (h.all i hk) (by omega)
theorem ones_ev (pk pa pn : Int) (c : AA) (s0 : Option Addr) (sl sc : Nat) (x : AN) (t0 : Option Addr) (tl tc : Nat) : ∀ u ∈ evC pk pa pn c (.slice s0 sl sc) x (.slice t0 tl tc), u.oneCell' = true := by
 intro u hu
 simp only [evC, List.mem_cons, List.not_mem_nil, or_false] at hu
 rcases hu with rfl | rfl | rfl | rfl | rfl | rfl | rfl | rfl | rfl | rfl | rfl | rfl <;> rfl
theorem RdB.isSl {v : Value} {l : List Int} (h : RdB w v l) : ∃ a n c, v = .slice a n c := by
 rcases h with ⟨rfl, rfl⟩ | ⟨a, cap, rfl, rfl, hm⟩ | ⟨b, off, cap, rfl, hc, hm, hcell⟩
 ·exact ⟨_, _, _, rfl⟩
 ·exact ⟨_, _, _, rfl⟩
 ·exact ⟨_, _, _, rfl⟩
theorem own_isSl {B E s n : Nat} {v : Value} {xs : List Value} (h : w.ownsRow B E s v n xs) : ∃ a n c, v = .slice a n c := by
 rcases h.2 with ⟨rfl, _⟩ | ⟨g, cap, cur, rfl, _⟩
 ·exact ⟨_, _, _, rfl⟩
 ·exact ⟨_, _, _, rfl⟩
theorem box3 (w : World) (pk pa pn : Int) : ∃ w3, w3 = (((w.alloc (Obj.cells #[.int .i64 pk, .int .i64 pa, .int .i64 pn] 70)).alloc (Obj.cells #[.int .i64 0, .int .i64 0, .int .i64 0, .int .i64 0, .int .i64 0, .int .i64 0, .int .u64 0, .int .u64 0, .slice none 0 0, .int .u64 0, .bool false, .slice none 0 0] 76)).alloc (Obj.cells #[.int .i64 pk, .int .i64 pa, .int .i64 pn, .int .i64 0, .int .i64 0, .int .i64 0, .int .u64 0, .int .u64 0, .slice none 0 0, .int .u64 0, .bool false, .slice none 0 0] 76)) ∧
  Blk w3 w.heap.size [.int .i64 pk, .int .i64 pa, .int .i64 pn] ∧ Blk w3 (w.heap.size + 1) [.int .i64 0, .int .i64 0, .int .i64 0, .int .i64 0, .int .i64 0, .int .i64 0, .int .u64 0, .int .u64 0, .slice none 0 0, .int .u64 0, .bool false, .slice none 0 0] ∧ Blk w3 (w.heap.size + 1 + 1) [.int .i64 pk, .int .i64 pa, .int .i64 pn, .int .i64 0, .int .i64 0, .int .i64 0, .int .u64 0, .int .u64 0, .slice none 0 0, .int .u64 0, .bool false, .slice none 0 0] ∧ w3.heap.size = w.heap.size + 3 ∧ Below w.heap.size w w3 := by
 refine ⟨_, rfl, ?_, ?_, ?_, by simp, by go_grown⟩
 ·exact ((Blk.made w _ _).alloc _).alloc _
 ·have := (Blk.made (w.alloc (Obj.cells #[.int .i64 pk, .int .i64 pa, .int .i64 pn] 70)) #[.int .i64 0, .int .i64 0, .int .i64 0, .int .i64 0, .int .i64 0, .int .i64 0, .int .u64 0, .int .u64 0, .slice none 0 0, .int .u64 0, .bool false, .slice none 0 0] 76).alloc (Obj.cells #[.int .i64 pk, .int .i64 pa, .int .i64 pn, .int .i64 0, .int .i64 0, .int .i64 0, .int .u64 0, .int .u64 0, .slice none 0 0, .int .u64 0, .bool false, .slice none 0 0] 76)
  simpa using this
 ·have := Blk.made ((w.alloc (Obj.cells #[.int .i64 pk, .int .i64 pa, .int .i64 pn] 70)).alloc (Obj.cells #[.int .i64 0, .int .i64 0, .int .i64 0, .int .i64 0, .int .i64 0, .int .i64 0, .int .u64 0, .int .u64 0, .slice none 0 0, .int .u64 0, .bool false, .slice none 0 0] 76)) #[.int .i64 pk, .int .i64 pa, .int .i64 pn, .int .i64 0, .int .i64 0, .int .i64 0, .int .u64 0, .int .u64 0, .slice none 0 0, .int .u64 0, .bool false, .slice none 0 0] 76
  simpa using this
set_option maxHeartbeats 1000000 in
theorem wPick_act {C : Fam} {κ : Nat → Kd} {W p c : Nat} {av tv : Value} {ab : Nat → Nat} {S : SW C.M.σ} (h : WoIn C w κ W p c av tv ab S) (pk pa pn : Int) (hk : pk = 0 ∨ pk = 1) (hc0 : 0 ≤ S.cnt) (hc1 : S.cnt ≤ 4611686018427387904) (htr : S.tr.length ≤ 1000000)
  (hlen : (C.M.act S pk pa).2.1.1.b.length ≤ 70368744177664 ∧ (C.M.act S pk pa).2.1.2.b.length ≤ 70368744177664) (htk : (C.M.act S pk pa).1.tr = S.tr) :
  Calls Tryz.prog 23 #[.pointer (some ⟨W, 0, none⟩), .agg #[.int .i64 pk, .int .i64 pa, .int .i64 pn]] w (PickPost C w κ W p c av tv ab (C.M.pick S pk pa pn)) := by
 have hp : C.M.pick S pk pa pn = if (C.M.act S pk pa).2.2 = 0 then ({ (C.M.act S pk pa).1 with tr := (C.M.act S pk pa).1.tr ++ [⟨pk, pa, pn, (C.M.act S pk pa).2.1.1, (C.M.act S pk pa).2.1.2⟩] }, ⟨pk, pa, pn, (C.M.act S pk pa).2.1.1, (C.M.act S pk pa).2.1.2⟩, 0) else ((C.M.act S pk pa).1, evZ, (C.M.act S pk pa).2.2) := by
  unfold Mac.pick
  rw [if_neg (by omega), if_pos hk]
 have HP := Lib.hid hp
 have H := Lib.hid h
 obtain ⟨S1, ca, xa, er, hR⟩ : ∃ S1 ca xa er, (S1, (ca, xa), er) = C.M.act S pk pa := ⟨_, _, _, _, rfl⟩
 rw [← hR] at hlen htk
 dsimp only at hlen htk
 have HR := Lib.hid hR
 have HT := Lib.hid htk
 have h3 : (pk == 2) = false := by rcases hk with rfl | rfl <;> rfl
 obtain ⟨w3, hw3, p3, r3, x3, z3, b3⟩ := box3 w pk pa pn
 have hw3 := Lib.hid hw3
 have PB := Lib.hid p3
 have RB := Lib.hid r3
 have XB := Lib.hid x3
 have B3 := Lib.hid b3
 have WL := Lib.hid h.hd.lt
 have KWo := Lib.hid h.kW
 have HPK := Lib.hid hk
 clear hp h hR p3 r3 x3 b3 htk hk
 obtain ⟨q0, q1, q2⟩ : w3.cell? ⟨w.heap.size, 0, none⟩ = some (.int .i64 pk) ∧ w3.cell? ⟨w.heap.size, 1, none⟩ = some (.int .i64 pa) ∧ w3.cell? ⟨w.heap.size, 2, none⟩ = some (.int .i64 pn) := PB.out.c3
 rcases HPK.out with hk | hk
 ·have h0 : (pk == 0) = true := by simp [hk]
  clear hk
  go_enter Tryz.func23, Tryz.ntmps23
  go_wp2_with fail
  rw [← hw3.out]
  refine (wAct_any (H.out.below B3.out) (w.heap.size + 1 + 1) pk pa pn XB.out (no_big H.out (by omega)) hc0 hc1).mono ?_
  rintro e w4 ⟨rfl, κ4, sv, sx, h4, k4, he4, kp4⟩
  rw [← HR.out] at h4 he4
  rw [← HR.out]
  dsimp only at h4 he4 ⊢
  have H4 := Lib.hid h4
  have K4 := Lib.hid k4
  have HE4 := Lib.hid he4
  have KP4 := Lib.hid kp4
  have P4 := Lib.hid (PB.out.keep kp4 (by rintro (h | h); exact h (no_big H.out (Nat.le_refl _)); omega))
  have R4 := Lib.hid (RB.out.keep kp4 (by rintro (h | h); exact h (no_big H.out (by omega)); omega))
  have z4 := kp4.size
  clear h4 k4 he4 kp4 hw3 q0 q1 q2
  by_cases hz : er = 0
  ·subst hz
   go_wp2_with fail
   obtain ⟨xb4, r1, r2, ob⟩ := HE4.out (by trivial)
   obtain ⟨sa, sl, sc, rfl⟩ := r1.isSl
   obtain ⟨ta, tl, tc, rfl⟩ := r2.isSl
   obtain ⟨es, hes, ho, hob, hev⟩ := H4.out.tr
   have hel : es.length = S.tr.length := by rw [← HT.out, ← hes]; simp
   have XB4 := Lib.hid xb4
   have RD1 := Lib.hid r1
   have RD2 := Lib.hid r2
   have OB := Lib.hid ob
   have HES := Lib.hid hes
   have HO := Lib.hid ho
   have HOB := Lib.hid hob
   have HEV := Lib.hid hev
   have WC := (H4.out.cells).2.2.2
   have WF := H4.out.hd.frozen 3
   obtain ⟨g0, g1, g2, g3, g4, g5, g6, g7, g8, g9, g10, g11⟩ := (show Blk w4 (w.heap.size + 1 + 1) [.int .i64 pk, .int .i64 pa, .int .i64 pn, .int .i64 ca.k, .int .i64 ca.a, .int .i64 ca.n, .int .u64 ca.v, .int .u64 ca.x, .slice sa sl sc, .int .u64 xa.v, .bool xa.d, .slice ta tl tc] from xb4).c12
   obtain ⟨i0, hi, hz0, hz1, hz2⟩ := info_parts evinfo
   have hWlt : W < w4.heap.size := H4.out.hd.lt
   have hxlt : w.heap.size + 1 + 1 < w4.heap.size := xb4.lt
   have hWx : W ≠ w.heap.size + 1 + 1 := by have := WL.out; omega
   have hWx' : w.heap.size + 1 + 1 ≠ W := fun e => hWx e.symm
   have hwx4 : W ≠ w4.heap.size := by omega
   clear xb4 r1 r2 ob hes ho hob hev
   go_cut [] from 28 to 37 (fun wx => ∃ κ' tv', WoIn C wx κ' W p c av tv' ab { S1 with tr := S1.tr ++ [⟨pk, pa, pn, ca, xa⟩] } ∧ (∀ i, i < w.heap.size → κ' i = κ i) ∧ κ' (w.heap.size + 1) = .no ∧ Blk wx (w.heap.size + 1 + 1) [.int .i64 pk, .int .i64 pa, .int .i64 pn, .int .i64 ca.k, .int .i64 ca.a, .int .i64 ca.n, .int .u64 ca.v, .int .u64 ca.x, .slice sa sl sc, .int .u64 xa.v, .bool xa.d, .slice ta tl tc] ∧ RdB wx (.slice sa sl sc) ca.b ∧ RdB wx (.slice ta tl tc) xa.b ∧ Blk wx (w.heap.size + 1) [.int .i64 0, .int .i64 0, .int .i64 0, .int .i64 0, .int .i64 0, .int .i64 0, .int .u64 0, .int .u64 0, .slice none 0 0, .int .u64 0, .bool false, .slice none 0 0] ∧ Keep (fun i => κ i ≠ .no) w wx)
   case first =>
    refine wp_region_held_drew (S := fun w' => w'.cell? ⟨w.heap.size + 1 + 1, 0, none⟩ = some (.int .i64 pk) ∧ w'.cell? ⟨w.heap.size + 1 + 1, 1, none⟩ = some (.int .i64 pa) ∧ w'.cell? ⟨w.heap.size + 1 + 1, 2, none⟩ = some (.int .i64 pn) ∧ w'.cell? ⟨w.heap.size + 1 + 1, 3, none⟩ = some (.int .i64 ca.k) ∧ w'.cell? ⟨w.heap.size + 1 + 1, 4, none⟩ = some (.int .i64 ca.a) ∧ w'.cell? ⟨w.heap.size + 1 + 1, 5, none⟩ = some (.int .i64 ca.n) ∧ w'.cell? ⟨w.heap.size + 1 + 1, 6, none⟩ = some (.int .u64 ca.v) ∧ w'.cell? ⟨w.heap.size + 1 + 1, 7, none⟩ = some (.int .u64 ca.x) ∧ w'.cell? ⟨w.heap.size + 1 + 1, 8, none⟩ = some (.slice sa sl sc) ∧ w'.cell? ⟨w.heap.size + 1 + 1, 9, none⟩ = some (.int .u64 xa.v) ∧ w'.cell? ⟨w.heap.size + 1 + 1, 10, none⟩ = some (.bool xa.d) ∧ w'.cell? ⟨w.heap.size + 1 + 1, 11, none⟩ = some (.slice ta tl tc)) (by kernel_rfl) ?_ (fun hHeld => ?_)
    ·try dsimp only
     exact ⟨g0, g1, g2, g3, g4, g5, g6, g7, g8, g9, g10, g11⟩
    refine wpT 0 rfl ?_
    try simp only [Act.put, tS]
    refine wpT 1 rfl ?_
    try simp only [Act.put, tS]
    refine wpT 2 rfl ?_
    try simp only [Act.put, tS]
    refine wpT 3 rfl ?_
    try simp only [Act.put, tS]
    refine wpT 5 rfl ?_
    try simp only [Act.put, tS]
    refine wpAnyH_ready (rs := [4, 6]) (by kernel_rfl) (by simp) ?_
    refine AllReadyH.cons rfl (fun K hK => ?_) (AllReadyH.cons rfl (fun K hK => ?_) AllReadyH.nil)
    ·go_simp
     refine hK.out _ _ ?_ (fun hHeld => ?_)
     ·try dsimp only
      all_goals go_keep
     clear hK K
     try simp only [Act.put, tS]
     refine wpR 6 rfl fun K hK => ?_
     go_simp
     go_wp2_with fail
     refine hK.out _ _ ?_ (fun hHeld => ?_)
     ·try dsimp only
      all_goals go_keep
     clear hK K
     try simp only [Act.put, tS]
     obtain ⟨w5, hw5⟩ : ∃ w5 : World, w5 = (w4.alloc (Obj.cells #[.int .i64 pk, .int .i64 pa, .int .i64 pn, .int .i64 ca.k, .int .i64 ca.a, .int .i64 ca.n, .int .u64 ca.v, .int .u64 ca.x, .slice sa sl sc, .int .u64 xa.v, .bool xa.d, .slice ta tl tc] 76)).drew := ⟨_, rfl⟩
     have b5 : Below w4.heap.size w4 w5 := by rw [hw5]; exact bel_drewN 1 ((Below.refl _ _).alloc (Nat.le_refl _) _)
     have NB := Lib.hid (show Blk w5 w4.heap.size [.int .i64 pk, .int .i64 pa, .int .i64 pn, .int .i64 ca.k, .int .i64 ca.a, .int .i64 ca.n, .int .u64 ca.v, .int .u64 ca.x, .slice sa sl sc, .int .u64 xa.v, .bool xa.d, .slice ta tl tc] by rw [hw5]; exact Blk.drew (Blk.made w4 _ _))
     have H5 := Lib.hid (H4.out.below b5)
     have OW := Lib.hid (ownsRow_keep HO.out (Below.keeps (M := fun _ => False) b5) (fun _ _ => id))
     have XB5 := Lib.hid (XB4.out.below b5 hxlt)
     have RB5 := Lib.hid (R4.out.below b5 (by omega))
     have HS5 := Lib.hid (show w5.heap.size = w4.heap.size + 1 by rw [hw5, World.size_drew, World.size_alloc])
     have B5 := Lib.hid b5
     rw [← hw5]
     clear hw5 b5
     refine wpR 7 rfl fun K hK => ?_
     refine wp_app1 (.tmp 32) (.tmp 34) 117 76 rfl Tryz.underlying117 hi hz0 hz1 hz2 rfl (by decide) tv es.length (es.flatMap evL) rfl OW.out w4.heap.size (evC pk pa pn ca (.slice sa sl sc) xa (.slice ta tl tc)) rfl NB.out rfl (ones_ev _ _ _ _ _ _ _ _ _ _ _) (by omega) (by unfold maxLen; omega) ?_
     intro v' w6 o6 g6 e6
     have KG := grown_keep g6
     have XB6 := Lib.hid (show Blk w6 (w.heap.size + 1 + 1) [.int .i64 pk, .int .i64 pa, .int .i64 pn, .int .i64 ca.k, .int .i64 ca.a, .int .i64 ca.n, .int .u64 ca.v, .int .u64 ca.x, .slice sa sl sc, .int .u64 xa.v, .bool xa.d, .slice ta tl tc] from Blk.keep XB5.out KG (fun h => by have := HOB.out _ h; rw [K4.out _ (by omega), no_big H.out (by omega)] at this; cases this))
     have RB6 := Lib.hid (RB5.out.keep KG (fun h => by have := HOB.out _ h; rw [K4.out _ (by omega), no_big H.out (by omega)] at this; cases this))
     have nWt : ¬ tv.ownBlock = some W := fun h => by have := HOB.out _ h; rw [H4.out.kW] at this; cases this
     have hWF := (KG.frozen (b := W) 3 H5.out.hd.lt nWt).trans (H5.out.hd.frozen 3)
     have hWC := (KG.cell (b := W) 3 H5.out.hd.lt nWt).trans H5.out.cells.2.2.2
     have O6 := Lib.hid o6
     have E6 := Lib.hid e6
     have KG := Lib.hid KG
     obtain ⟨va, vl, vc, rfl⟩ := own_isSl o6
     clear o6 e6 g6 nWt
     refine hK.out _ _ ?_ (fun hHeld => ?_)
     ·try dsimp only
      exact XB6.out.c12
     clear hK K
     try simp only [Act.put, tS]
     refine wpT 8 rfl ?_
     try simp only [Act.put, tS]
     refine wpT 9 rfl ?_
     try simp only [Act.put, tS]
     refine wpR 10 rfl fun K hK => ?_
     go_simp
     refine hK.out _ _ ?_ (fun hHeld => ?_)
     ·try dsimp only
      exact (Blk.far XB6.out (a := ⟨W, 3, none⟩) hWx' _).c12
     clear hK K
     try simp only [Act.put, tS]
     refine wpAnyH_done (by kernel_rfl) ?_ _
     go_wp2_with fail
     go_meet
     have hkn : ∀ i, (Value.slice sa sl sc).ownBlock = some i ∨ (Value.slice ta tl tc).ownBlock = some i → κ4 i = .no ∧ i < w5.heap.size := fun i h => ⟨(OB.out i h).2, by have := (OB.out i h).1; rw [HS5.out]; omega⟩
     have hnp : ∀ j, j < w3.heap.size → ¬ ((Value.slice sa sl sc).ownBlock = some j ∨ (Value.slice ta tl tc).ownBlock = some j) := fun j hj h => by have := (OB.out j h).1; omega
     have hvn : ∀ j, j < w3.heap.size → κ4 j ≠ .tr → (Value.slice va vl vc).ownBlock ≠ some j := fun j hj hk e => by rcases E6.out with h | h; exact hk (HOB.out j (h ▸ e)); rw [h] at e; have := HS5.out; cases e; omega
     refine ⟨kdT κ4 (.slice va vl vc) (.slice sa sl sc) (.slice ta tl tc), .slice va vl vc, H5.out.traced es HES.out HOB.out (HEV.out.keep (K := fun _ => False) (Below.keeps B5.out) (fun _ _ => id) (fun _ => id)) ⟨pk, pa, pn, ca, xa⟩ (.slice sa sl sc) (.slice ta tl tc) (RD1.out.below B5.out) (RD2.out.below B5.out) hkn KG.out O6.out (E6.out.imp id fun h => ⟨_, h, Nat.le_refl _⟩), ?_, ?_, Blk.far XB6.out (a := ⟨W, 3, none⟩) hWx' _, ?_, ?_, Blk.far RB6.out (a := ⟨W, 3, none⟩) (by have := WL.out; show w.heap.size + 1 ≠ W; omega) _, ?_⟩
     ·intro i hi
      unfold kdT
      split
      ·rename_i e
       rw [← K4.out i (by omega)]
       rcases E6.out with h | h
       ·exact (HOB.out i (h ▸ e)).symm
       ·rw [h] at e
        have := HS5.out
        cases e
        omega
      ·rw [if_neg (hnp i (by omega))]
       exact K4.out i (by omega)
     ·have e1 : κ4 (w.heap.size + 1) = .no := by rw [K4.out _ (by omega)]; exact no_big H.out (by omega)
      unfold kdT
      rw [if_neg (hvn _ (by omega) (by rw [e1]; nofun)), if_neg (hnp _ (by omega))]
      exact e1
     ·refine ((RD1.out.below B5.out).keep KG.out fun _ i hi h => ?_).keep (Keep.setCell (M := (· = W)) (Keep.refl _ _) (p := ⟨W, 3, none⟩) (.inl rfl) _) fun _ i hi h => ?_
      ·have h1 := HOB.out i h
       rw [(OB.out i (.inl hi)).2] at h1
       cases h1
      ·have h1 := (OB.out i (.inl hi)).2
       rw [show i = W from h, H4.out.kW] at h1
       cases h1
     ·refine ((RD2.out.below B5.out).keep KG.out fun _ i hi h => ?_).keep (Keep.setCell (M := (· = W)) (Keep.refl _ _) (p := ⟨W, 3, none⟩) (.inl rfl) _) fun _ i hi h => ?_
      ·have h1 := HOB.out i h
       rw [(OB.out i (.inr hi)).2] at h1
       cases h1
      ·have h1 := (OB.out i (.inr hi)).2
       rw [show i = W from h, H4.out.kW] at h1
       cases h1
     ·refine Keep.setCell ((((Below.keeps B3.out).then KP4.out (fun i hi h => h.resolve_right (by omega))).trans (Below.keeps B5.out)).then KG.out (fun i hi h => ?_)) (p := ⟨W, 3, none⟩) (.inl (by show κ W ≠ _; rw [KWo.out]; nofun)) _
      have h1 := HOB.out i h
      rw [K4.out i (by omega)] at h1
      rw [h1]
      nofun
    ·go_simp
     go_wp2_with fail
     refine hK.out _ _ ?_ (fun hHeld => ?_)
     ·try dsimp only
      all_goals go_keep
     clear hK K
     try simp only [Act.put, tS]
     refine wpR 4 rfl fun K hK => ?_
     go_simp
     refine hK.out _ _ ?_ (fun hHeld => ?_)
     ·try dsimp only
      all_goals go_keep
     clear hK K
     try simp only [Act.put, tS]
     obtain ⟨w5, hw5⟩ : ∃ w5 : World, w5 = (w4.alloc (Obj.cells #[.int .i64 pk, .int .i64 pa, .int .i64 pn, .int .i64 ca.k, .int .i64 ca.a, .int .i64 ca.n, .int .u64 ca.v, .int .u64 ca.x, .slice sa sl sc, .int .u64 xa.v, .bool xa.d, .slice ta tl tc] 76)).drew := ⟨_, rfl⟩
     have b5 : Below w4.heap.size w4 w5 := by rw [hw5]; exact bel_drewN 1 ((Below.refl _ _).alloc (Nat.le_refl _) _)
     have NB := Lib.hid (show Blk w5 w4.heap.size [.int .i64 pk, .int .i64 pa, .int .i64 pn, .int .i64 ca.k, .int .i64 ca.a, .int .i64 ca.n, .int .u64 ca.v, .int .u64 ca.x, .slice sa sl sc, .int .u64 xa.v, .bool xa.d, .slice ta tl tc] by rw [hw5]; exact Blk.drew (Blk.made w4 _ _))
     have H5 := Lib.hid (H4.out.below b5)
     have OW := Lib.hid (ownsRow_keep HO.out (Below.keeps (M := fun _ => False) b5) (fun _ _ => id))
     have XB5 := Lib.hid (XB4.out.below b5 hxlt)
     have RB5 := Lib.hid (R4.out.below b5 (by omega))
     have HS5 := Lib.hid (show w5.heap.size = w4.heap.size + 1 by rw [hw5, World.size_drew, World.size_alloc])
     have B5 := Lib.hid b5
     rw [← hw5]
     clear hw5 b5
     refine wpR 7 rfl fun K hK => ?_
     refine wp_app1 (.tmp 32) (.tmp 34) 117 76 rfl Tryz.underlying117 hi hz0 hz1 hz2 rfl (by decide) tv es.length (es.flatMap evL) rfl OW.out w4.heap.size (evC pk pa pn ca (.slice sa sl sc) xa (.slice ta tl tc)) rfl NB.out rfl (ones_ev _ _ _ _ _ _ _ _ _ _ _) (by omega) (by unfold maxLen; omega) ?_
     intro v' w6 o6 g6 e6
     have KG := grown_keep g6
     have XB6 := Lib.hid (show Blk w6 (w.heap.size + 1 + 1) [.int .i64 pk, .int .i64 pa, .int .i64 pn, .int .i64 ca.k, .int .i64 ca.a, .int .i64 ca.n, .int .u64 ca.v, .int .u64 ca.x, .slice sa sl sc, .int .u64 xa.v, .bool xa.d, .slice ta tl tc] from Blk.keep XB5.out KG (fun h => by have := HOB.out _ h; rw [K4.out _ (by omega), no_big H.out (by omega)] at this; cases this))
     have RB6 := Lib.hid (RB5.out.keep KG (fun h => by have := HOB.out _ h; rw [K4.out _ (by omega), no_big H.out (by omega)] at this; cases this))
     have nWt : ¬ tv.ownBlock = some W := fun h => by have := HOB.out _ h; rw [H4.out.kW] at this; cases this
     have hWF := (KG.frozen (b := W) 3 H5.out.hd.lt nWt).trans (H5.out.hd.frozen 3)
     have hWC := (KG.cell (b := W) 3 H5.out.hd.lt nWt).trans H5.out.cells.2.2.2
     have O6 := Lib.hid o6
     have E6 := Lib.hid e6
     have KG := Lib.hid KG
     obtain ⟨va, vl, vc, rfl⟩ := own_isSl o6
     clear o6 e6 g6 nWt
     refine hK.out _ _ ?_ (fun hHeld => ?_)
     ·try dsimp only
      exact XB6.out.c12
     clear hK K
     try simp only [Act.put, tS]
     refine wpT 8 rfl ?_
     try simp only [Act.put, tS]
     refine wpT 9 rfl ?_
     try simp only [Act.put, tS]
     refine wpR 10 rfl fun K hK => ?_
     go_simp
     refine hK.out _ _ ?_ (fun hHeld => ?_)
     ·try dsimp only
      exact (Blk.far XB6.out (a := ⟨W, 3, none⟩) hWx' _).c12
     clear hK K
     try simp only [Act.put, tS]
     refine wpAnyH_done (by kernel_rfl) ?_ _
     go_wp2_with fail
     go_meet
     have hkn : ∀ i, (Value.slice sa sl sc).ownBlock = some i ∨ (Value.slice ta tl tc).ownBlock = some i → κ4 i = .no ∧ i < w5.heap.size := fun i h => ⟨(OB.out i h).2, by have := (OB.out i h).1; rw [HS5.out]; omega⟩
     have hnp : ∀ j, j < w3.heap.size → ¬ ((Value.slice sa sl sc).ownBlock = some j ∨ (Value.slice ta tl tc).ownBlock = some j) := fun j hj h => by have := (OB.out j h).1; omega
     have hvn : ∀ j, j < w3.heap.size → κ4 j ≠ .tr → (Value.slice va vl vc).ownBlock ≠ some j := fun j hj hk e => by rcases E6.out with h | h; exact hk (HOB.out j (h ▸ e)); rw [h] at e; have := HS5.out; cases e; omega
     refine ⟨kdT κ4 (.slice va vl vc) (.slice sa sl sc) (.slice ta tl tc), .slice va vl vc, H5.out.traced es HES.out HOB.out (HEV.out.keep (K := fun _ => False) (Below.keeps B5.out) (fun _ _ => id) (fun _ => id)) ⟨pk, pa, pn, ca, xa⟩ (.slice sa sl sc) (.slice ta tl tc) (RD1.out.below B5.out) (RD2.out.below B5.out) hkn KG.out O6.out (E6.out.imp id fun h => ⟨_, h, Nat.le_refl _⟩), ?_, ?_, Blk.far XB6.out (a := ⟨W, 3, none⟩) hWx' _, ?_, ?_, Blk.far RB6.out (a := ⟨W, 3, none⟩) (by have := WL.out; show w.heap.size + 1 ≠ W; omega) _, ?_⟩
     ·intro i hi
      unfold kdT
      split
      ·rename_i e
       rw [← K4.out i (by omega)]
       rcases E6.out with h | h
       ·exact (HOB.out i (h ▸ e)).symm
       ·rw [h] at e
        have := HS5.out
        cases e
        omega
      ·rw [if_neg (hnp i (by omega))]
       exact K4.out i (by omega)
     ·have e1 : κ4 (w.heap.size + 1) = .no := by rw [K4.out _ (by omega)]; exact no_big H.out (by omega)
      unfold kdT
      rw [if_neg (hvn _ (by omega) (by rw [e1]; nofun)), if_neg (hnp _ (by omega))]
      exact e1
     ·refine ((RD1.out.below B5.out).keep KG.out fun _ i hi h => ?_).keep (Keep.setCell (M := (· = W)) (Keep.refl _ _) (p := ⟨W, 3, none⟩) (.inl rfl) _) fun _ i hi h => ?_
      ·have h1 := HOB.out i h
       rw [(OB.out i (.inl hi)).2] at h1
       cases h1
      ·have h1 := (OB.out i (.inl hi)).2
       rw [show i = W from h, H4.out.kW] at h1
       cases h1
     ·refine ((RD2.out.below B5.out).keep KG.out fun _ i hi h => ?_).keep (Keep.setCell (M := (· = W)) (Keep.refl _ _) (p := ⟨W, 3, none⟩) (.inl rfl) _) fun _ i hi h => ?_
      ·have h1 := HOB.out i h
       rw [(OB.out i (.inr hi)).2] at h1
       cases h1
      ·have h1 := (OB.out i (.inr hi)).2
       rw [show i = W from h, H4.out.kW] at h1
       cases h1
     ·refine Keep.setCell ((((Below.keeps B3.out).then KP4.out (fun i hi h => h.resolve_right (by omega))).trans (Below.keeps B5.out)).then KG.out (fun i hi h => ?_)) (p := ⟨W, 3, none⟩) (.inl (by show κ W ≠ _; rw [KWo.out]; nofun)) _
      have h1 := HOB.out i h
      rw [K4.out i (by omega)] at h1
      rw [h1]
      nofun
   case rest =>
    obtain ⟨κ', tv', h6, k6, n6, x6, s6, t6, r6, kp6⟩ := hcut
    have H6 := Lib.hid h6
    have K6 := Lib.hid k6
    have N6 := Lib.hid n6
    have S6 := Lib.hid s6
    have T6 := Lib.hid t6
    have R6 := Lib.hid r6
    have KP6 := Lib.hid kp6
    clear g0 g1 g2 g3 g4 g5 g6 g7 g8 g9 g10 g11 WC WF
    obtain ⟨g0, g1, g2, g3, g4, g5, g6, g7, g8, g9, g10, g11⟩ := x6.c12
    have z6 := kp6.size
    clear h6 k6 n6 x6 s6 t6 r6 kp6
    go_wp2_with fail
    refine (wCopied_any pk pa pn ca sa sl sc xa ta tl tc _ S6.out T6.out hlen.1 hlen.2).mono ?_
    rintro e w7 ⟨m0, ml, mc, n0, nl, nc, rfl, o1, o2, b7⟩
    unfold evV
    have R7 := Lib.hid (R6.out.below b7 R6.out.lt)
    have O1 := Lib.hid o1
    have O2 := Lib.hid o2
    have B7 := Lib.hid b7
    have z7 := b7.size
    have RL := Lib.hid R6.out.lt
    clear o1 o2 b7 g0 g1 g2 g3 g4 g5 g6 g7 g8 g9 g10 g11
    obtain ⟨f0, f1, f2, f3, f4, f5, f6, f7, f8, f9, f10, f11⟩ := R7.out.f12
    obtain ⟨g0, g1, g2, g3, g4, g5, g6, g7, g8, g9, g10, g11⟩ := R7.out.c12
    go_wp2
    refine bodyPost_ret (v := .tuple #[evV pk pa pn ca (.slice m0 ml mc) xa (.slice n0 nl nc), .int .i64 0]) (res_ev2 (q := w.heap.size + 1) (c := ca) (x := xa) rfl rfl rfl ?_) rfl ?_
    ·exact ((((((((((((R7.out.set 0 (.int .i64 pk)).set 1 (.int .i64 pa)).set 2 (.int .i64 pn)).set 3 (.int .i64 ca.k)).set 4 (.int .i64 ca.a)).set 5 (.int .i64 ca.n)).set 6 (.int .u64 ca.v)).set 7 (.int .u64 ca.x)).set 8 (.slice m0 ml mc)).set 9 (.int .u64 xa.v)).set 10 (.bool xa.d)).set 11 (.slice n0 nl nc))
    ·rw [HP.out, ← HR.out, if_pos rfl]
     refine ⟨m0, ml, mc, n0, nl, nc, rfl, ?_, ?_, κ', tv', ?_, K6.out, ?_, ?_⟩
     ·refine OwB.mono (B := wc.heap.size) ?_ (by omega)
      iterate 12 (refine OwB.farC ?_ (show w.heap.size + 1 < wc.heap.size from RL.out) _)
      exact O1.out
     ·refine OwB.mono (B := wc.heap.size) ?_ (by omega)
      iterate 12 (refine OwB.farC ?_ (show w.heap.size + 1 < wc.heap.size from RL.out) _)
      exact O2.out
     ·refine (H6.out.below B7.out).keep (K := (· = w.heap.size + 1)) ?_ (fun i hi e => hi (by rw [show i = w.heap.size + 1 from e]; exact N6.out))
      iterate 12 (refine Keep.setCell (M := (· = w.heap.size + 1)) ?_ (Or.inl rfl) _)
      exact Keep.refl _ _
     ·intro i hi
      by_cases hn : κ' i = .no
      ·exact hn
      ·have h1 := H6.out.all i hn
       rcases hi with hi | hi
       ·have := (World.ownsRow.lt O1.out i hi).1
        omega
       ·have := (World.ownsRow.lt O2.out i hi).1
        omega
     ·iterate 12 (refine Keep.setCell ?_ (Or.inr (show w.heap.size ≤ w.heap.size + 1 by omega)) _)
      exact KP6.out.trans (Below.keeps B7.out)
  ·have hzb : (er != 0) = true := by simp [hz]
   obtain ⟨f0, f1, f2, f3, f4, f5, f6, f7, f8, f9, f10, f11⟩ := R4.out.f12
   obtain ⟨g0, g1, g2, g3, g4, g5, g6, g7, g8, g9, g10, g11⟩ := R4.out.c12
   go_wp2
   refine bodyPost_ret (v := .tuple #[evV 0 0 0 aaZ (.slice none 0 0) anZ (.slice none 0 0), .int .i64 er]) (res_ev2 (q := w.heap.size + 1) (c := aaZ) (x := anZ) rfl rfl rfl ?_) rfl ?_
   ·exact ((((((((((((R4.out.set 0 (.int .i64 0)).set 1 (.int .i64 0)).set 2 (.int .i64 0)).set 3 (.int .i64 0)).set 4 (.int .i64 0)).set 5 (.int .i64 0)).set 6 (.int .u64 0)).set 7 (.int .u64 0)).set 8 (.slice none 0 0)).set 9 (.int .u64 0)).set 10 (.bool false)).set 11 (.slice none 0 0))
   ·rw [HP.out, ← HR.out, if_neg (by exact hz)]
    refine ⟨none, 0, 0, none, 0, 0, rfl, OwB.nil _ _ _, OwB.nil _ _ _, κ4, tv, ?_, fun i hi => K4.out i (by omega), (fun i h => by rcases h with h | h <;> cases h), ?_⟩
    ·refine H4.out.keep (K := (· = w.heap.size + 1)) ?_ (fun i hi e => hi (by rw [show i = w.heap.size + 1 from e, K4.out _ (by omega)]; exact no_big H.out (by omega)))
     iterate 12 (refine Keep.setCell (M := (· = w.heap.size + 1)) ?_ (Or.inl rfl) _)
     exact Keep.refl _ _
    ·iterate 12 (refine Keep.setCell ?_ (Or.inr (show w.heap.size ≤ w.heap.size + 1 by omega)) _)
     exact (Below.keeps B3.out).then KP4.out (fun i hi h => h.resolve_right (by omega))
 ·have h0 : (pk == 0) = false := by simp [hk]
  have h1 : (pk == 1) = true := by simp [hk]
  clear hk
  go_enter Tryz.func23, Tryz.ntmps23
  go_wp2_with fail
  rw [← hw3.out]
  refine (wAct_any (H.out.below B3.out) (w.heap.size + 1 + 1) pk pa pn XB.out (no_big H.out (by omega)) hc0 hc1).mono ?_
  rintro e w4 ⟨rfl, κ4, sv, sx, h4, k4, he4, kp4⟩
  rw [← HR.out] at h4 he4
  rw [← HR.out]
  dsimp only at h4 he4 ⊢
  have H4 := Lib.hid h4
  have K4 := Lib.hid k4
  have HE4 := Lib.hid he4
  have KP4 := Lib.hid kp4
  have P4 := Lib.hid (PB.out.keep kp4 (by rintro (h | h); exact h (no_big H.out (Nat.le_refl _)); omega))
  have R4 := Lib.hid (RB.out.keep kp4 (by rintro (h | h); exact h (no_big H.out (by omega)); omega))
  have z4 := kp4.size
  clear h4 k4 he4 kp4 hw3 q0 q1 q2
  by_cases hz : er = 0
  ·subst hz
   go_wp2_with fail
   obtain ⟨xb4, r1, r2, ob⟩ := HE4.out (by trivial)
   obtain ⟨sa, sl, sc, rfl⟩ := r1.isSl
   obtain ⟨ta, tl, tc, rfl⟩ := r2.isSl
   obtain ⟨es, hes, ho, hob, hev⟩ := H4.out.tr
   have hel : es.length = S.tr.length := by rw [← HT.out, ← hes]; simp
   have XB4 := Lib.hid xb4
   have RD1 := Lib.hid r1
   have RD2 := Lib.hid r2
   have OB := Lib.hid ob
   have HES := Lib.hid hes
   have HO := Lib.hid ho
   have HOB := Lib.hid hob
   have HEV := Lib.hid hev
   have WC := (H4.out.cells).2.2.2
   have WF := H4.out.hd.frozen 3
   obtain ⟨g0, g1, g2, g3, g4, g5, g6, g7, g8, g9, g10, g11⟩ := (show Blk w4 (w.heap.size + 1 + 1) [.int .i64 pk, .int .i64 pa, .int .i64 pn, .int .i64 ca.k, .int .i64 ca.a, .int .i64 ca.n, .int .u64 ca.v, .int .u64 ca.x, .slice sa sl sc, .int .u64 xa.v, .bool xa.d, .slice ta tl tc] from xb4).c12
   obtain ⟨i0, hi, hz0, hz1, hz2⟩ := info_parts evinfo
   have hWlt : W < w4.heap.size := H4.out.hd.lt
   have hxlt : w.heap.size + 1 + 1 < w4.heap.size := xb4.lt
   have hWx : W ≠ w.heap.size + 1 + 1 := by have := WL.out; omega
   have hWx' : w.heap.size + 1 + 1 ≠ W := fun e => hWx e.symm
   have hwx4 : W ≠ w4.heap.size := by omega
   clear xb4 r1 r2 ob hes ho hob hev
   go_cut [] from 28 to 37 (fun wx => ∃ κ' tv', WoIn C wx κ' W p c av tv' ab { S1 with tr := S1.tr ++ [⟨pk, pa, pn, ca, xa⟩] } ∧ (∀ i, i < w.heap.size → κ' i = κ i) ∧ κ' (w.heap.size + 1) = .no ∧ Blk wx (w.heap.size + 1 + 1) [.int .i64 pk, .int .i64 pa, .int .i64 pn, .int .i64 ca.k, .int .i64 ca.a, .int .i64 ca.n, .int .u64 ca.v, .int .u64 ca.x, .slice sa sl sc, .int .u64 xa.v, .bool xa.d, .slice ta tl tc] ∧ RdB wx (.slice sa sl sc) ca.b ∧ RdB wx (.slice ta tl tc) xa.b ∧ Blk wx (w.heap.size + 1) [.int .i64 0, .int .i64 0, .int .i64 0, .int .i64 0, .int .i64 0, .int .i64 0, .int .u64 0, .int .u64 0, .slice none 0 0, .int .u64 0, .bool false, .slice none 0 0] ∧ Keep (fun i => κ i ≠ .no) w wx)
   case first =>
    refine wp_region_held_drew (S := fun w' => w'.cell? ⟨w.heap.size + 1 + 1, 0, none⟩ = some (.int .i64 pk) ∧ w'.cell? ⟨w.heap.size + 1 + 1, 1, none⟩ = some (.int .i64 pa) ∧ w'.cell? ⟨w.heap.size + 1 + 1, 2, none⟩ = some (.int .i64 pn) ∧ w'.cell? ⟨w.heap.size + 1 + 1, 3, none⟩ = some (.int .i64 ca.k) ∧ w'.cell? ⟨w.heap.size + 1 + 1, 4, none⟩ = some (.int .i64 ca.a) ∧ w'.cell? ⟨w.heap.size + 1 + 1, 5, none⟩ = some (.int .i64 ca.n) ∧ w'.cell? ⟨w.heap.size + 1 + 1, 6, none⟩ = some (.int .u64 ca.v) ∧ w'.cell? ⟨w.heap.size + 1 + 1, 7, none⟩ = some (.int .u64 ca.x) ∧ w'.cell? ⟨w.heap.size + 1 + 1, 8, none⟩ = some (.slice sa sl sc) ∧ w'.cell? ⟨w.heap.size + 1 + 1, 9, none⟩ = some (.int .u64 xa.v) ∧ w'.cell? ⟨w.heap.size + 1 + 1, 10, none⟩ = some (.bool xa.d) ∧ w'.cell? ⟨w.heap.size + 1 + 1, 11, none⟩ = some (.slice ta tl tc)) (by kernel_rfl) ?_ (fun hHeld => ?_)
    ·try dsimp only
     exact ⟨g0, g1, g2, g3, g4, g5, g6, g7, g8, g9, g10, g11⟩
    refine wpT 0 rfl ?_
    try simp only [Act.put, tS]
    refine wpT 1 rfl ?_
    try simp only [Act.put, tS]
    refine wpT 2 rfl ?_
    try simp only [Act.put, tS]
    refine wpT 3 rfl ?_
    try simp only [Act.put, tS]
    refine wpT 5 rfl ?_
    try simp only [Act.put, tS]
    refine wpAnyH_ready (rs := [4, 6]) (by kernel_rfl) (by simp) ?_
    refine AllReadyH.cons rfl (fun K hK => ?_) (AllReadyH.cons rfl (fun K hK => ?_) AllReadyH.nil)
    ·go_simp
     refine hK.out _ _ ?_ (fun hHeld => ?_)
     ·try dsimp only
      all_goals go_keep
     clear hK K
     try simp only [Act.put, tS]
     refine wpR 6 rfl fun K hK => ?_
     go_simp
     go_wp2_with fail
     refine hK.out _ _ ?_ (fun hHeld => ?_)
     ·try dsimp only
      all_goals go_keep
     clear hK K
     try simp only [Act.put, tS]
     obtain ⟨w5, hw5⟩ : ∃ w5 : World, w5 = (w4.alloc (Obj.cells #[.int .i64 pk, .int .i64 pa, .int .i64 pn, .int .i64 ca.k, .int .i64 ca.a, .int .i64 ca.n, .int .u64 ca.v, .int .u64 ca.x, .slice sa sl sc, .int .u64 xa.v, .bool xa.d, .slice ta tl tc] 76)).drew := ⟨_, rfl⟩
     have b5 : Below w4.heap.size w4 w5 := by rw [hw5]; exact bel_drewN 1 ((Below.refl _ _).alloc (Nat.le_refl _) _)
     have NB := Lib.hid (show Blk w5 w4.heap.size [.int .i64 pk, .int .i64 pa, .int .i64 pn, .int .i64 ca.k, .int .i64 ca.a, .int .i64 ca.n, .int .u64 ca.v, .int .u64 ca.x, .slice sa sl sc, .int .u64 xa.v, .bool xa.d, .slice ta tl tc] by rw [hw5]; exact Blk.drew (Blk.made w4 _ _))
     have H5 := Lib.hid (H4.out.below b5)
     have OW := Lib.hid (ownsRow_keep HO.out (Below.keeps (M := fun _ => False) b5) (fun _ _ => id))
     have XB5 := Lib.hid (XB4.out.below b5 hxlt)
     have RB5 := Lib.hid (R4.out.below b5 (by omega))
     have HS5 := Lib.hid (show w5.heap.size = w4.heap.size + 1 by rw [hw5, World.size_drew, World.size_alloc])
     have B5 := Lib.hid b5
     rw [← hw5]
     clear hw5 b5
     refine wpR 7 rfl fun K hK => ?_
     refine wp_app1 (.tmp 32) (.tmp 34) 117 76 rfl Tryz.underlying117 hi hz0 hz1 hz2 rfl (by decide) tv es.length (es.flatMap evL) rfl OW.out w4.heap.size (evC pk pa pn ca (.slice sa sl sc) xa (.slice ta tl tc)) rfl NB.out rfl (ones_ev _ _ _ _ _ _ _ _ _ _ _) (by omega) (by unfold maxLen; omega) ?_
     intro v' w6 o6 g6 e6
     have KG := grown_keep g6
     have XB6 := Lib.hid (show Blk w6 (w.heap.size + 1 + 1) [.int .i64 pk, .int .i64 pa, .int .i64 pn, .int .i64 ca.k, .int .i64 ca.a, .int .i64 ca.n, .int .u64 ca.v, .int .u64 ca.x, .slice sa sl sc, .int .u64 xa.v, .bool xa.d, .slice ta tl tc] from Blk.keep XB5.out KG (fun h => by have := HOB.out _ h; rw [K4.out _ (by omega), no_big H.out (by omega)] at this; cases this))
     have RB6 := Lib.hid (RB5.out.keep KG (fun h => by have := HOB.out _ h; rw [K4.out _ (by omega), no_big H.out (by omega)] at this; cases this))
     have nWt : ¬ tv.ownBlock = some W := fun h => by have := HOB.out _ h; rw [H4.out.kW] at this; cases this
     have hWF := (KG.frozen (b := W) 3 H5.out.hd.lt nWt).trans (H5.out.hd.frozen 3)
     have hWC := (KG.cell (b := W) 3 H5.out.hd.lt nWt).trans H5.out.cells.2.2.2
     have O6 := Lib.hid o6
     have E6 := Lib.hid e6
     have KG := Lib.hid KG
     obtain ⟨va, vl, vc, rfl⟩ := own_isSl o6
     clear o6 e6 g6 nWt
     refine hK.out _ _ ?_ (fun hHeld => ?_)
     ·try dsimp only
      exact XB6.out.c12
     clear hK K
     try simp only [Act.put, tS]
     refine wpT 8 rfl ?_
     try simp only [Act.put, tS]
     refine wpT 9 rfl ?_
     try simp only [Act.put, tS]
     refine wpR 10 rfl fun K hK => ?_
     go_simp
     refine hK.out _ _ ?_ (fun hHeld => ?_)
     ·try dsimp only
      exact (Blk.far XB6.out (a := ⟨W, 3, none⟩) hWx' _).c12
     clear hK K
     try simp only [Act.put, tS]
     refine wpAnyH_done (by kernel_rfl) ?_ _
     go_wp2_with fail
     go_meet
     have hkn : ∀ i, (Value.slice sa sl sc).ownBlock = some i ∨ (Value.slice ta tl tc).ownBlock = some i → κ4 i = .no ∧ i < w5.heap.size := fun i h => ⟨(OB.out i h).2, by have := (OB.out i h).1; rw [HS5.out]; omega⟩
     have hnp : ∀ j, j < w3.heap.size → ¬ ((Value.slice sa sl sc).ownBlock = some j ∨ (Value.slice ta tl tc).ownBlock = some j) := fun j hj h => by have := (OB.out j h).1; omega
     have hvn : ∀ j, j < w3.heap.size → κ4 j ≠ .tr → (Value.slice va vl vc).ownBlock ≠ some j := fun j hj hk e => by rcases E6.out with h | h; exact hk (HOB.out j (h ▸ e)); rw [h] at e; have := HS5.out; cases e; omega
     refine ⟨kdT κ4 (.slice va vl vc) (.slice sa sl sc) (.slice ta tl tc), .slice va vl vc, H5.out.traced es HES.out HOB.out (HEV.out.keep (K := fun _ => False) (Below.keeps B5.out) (fun _ _ => id) (fun _ => id)) ⟨pk, pa, pn, ca, xa⟩ (.slice sa sl sc) (.slice ta tl tc) (RD1.out.below B5.out) (RD2.out.below B5.out) hkn KG.out O6.out (E6.out.imp id fun h => ⟨_, h, Nat.le_refl _⟩), ?_, ?_, Blk.far XB6.out (a := ⟨W, 3, none⟩) hWx' _, ?_, ?_, Blk.far RB6.out (a := ⟨W, 3, none⟩) (by have := WL.out; show w.heap.size + 1 ≠ W; omega) _, ?_⟩
     ·intro i hi
      unfold kdT
      split
      ·rename_i e
       rw [← K4.out i (by omega)]
       rcases E6.out with h | h
       ·exact (HOB.out i (h ▸ e)).symm
       ·rw [h] at e
        have := HS5.out
        cases e
        omega
      ·rw [if_neg (hnp i (by omega))]
       exact K4.out i (by omega)
     ·have e1 : κ4 (w.heap.size + 1) = .no := by rw [K4.out _ (by omega)]; exact no_big H.out (by omega)
      unfold kdT
      rw [if_neg (hvn _ (by omega) (by rw [e1]; nofun)), if_neg (hnp _ (by omega))]
      exact e1
     ·refine ((RD1.out.below B5.out).keep KG.out fun _ i hi h => ?_).keep (Keep.setCell (M := (· = W)) (Keep.refl _ _) (p := ⟨W, 3, none⟩) (.inl rfl) _) fun _ i hi h => ?_
      ·have h1 := HOB.out i h
       rw [(OB.out i (.inl hi)).2] at h1
       cases h1
      ·have h1 := (OB.out i (.inl hi)).2
       rw [show i = W from h, H4.out.kW] at h1
       cases h1
     ·refine ((RD2.out.below B5.out).keep KG.out fun _ i hi h => ?_).keep (Keep.setCell (M := (· = W)) (Keep.refl _ _) (p := ⟨W, 3, none⟩) (.inl rfl) _) fun _ i hi h => ?_
      ·have h1 := HOB.out i h
       rw [(OB.out i (.inr hi)).2] at h1
       cases h1
      ·have h1 := (OB.out i (.inr hi)).2
       rw [show i = W from h, H4.out.kW] at h1
       cases h1
     ·refine Keep.setCell ((((Below.keeps B3.out).then KP4.out (fun i hi h => h.resolve_right (by omega))).trans (Below.keeps B5.out)).then KG.out (fun i hi h => ?_)) (p := ⟨W, 3, none⟩) (.inl (by show κ W ≠ _; rw [KWo.out]; nofun)) _
      have h1 := HOB.out i h
      rw [K4.out i (by omega)] at h1
      rw [h1]
      nofun
    ·go_simp
     go_wp2_with fail
     refine hK.out _ _ ?_ (fun hHeld => ?_)
     ·try dsimp only
      all_goals go_keep
     clear hK K
     try simp only [Act.put, tS]
     refine wpR 4 rfl fun K hK => ?_
     go_simp
     refine hK.out _ _ ?_ (fun hHeld => ?_)
     ·try dsimp only
      all_goals go_keep
     clear hK K
     try simp only [Act.put, tS]
     obtain ⟨w5, hw5⟩ : ∃ w5 : World, w5 = (w4.alloc (Obj.cells #[.int .i64 pk, .int .i64 pa, .int .i64 pn, .int .i64 ca.k, .int .i64 ca.a, .int .i64 ca.n, .int .u64 ca.v, .int .u64 ca.x, .slice sa sl sc, .int .u64 xa.v, .bool xa.d, .slice ta tl tc] 76)).drew := ⟨_, rfl⟩
     have b5 : Below w4.heap.size w4 w5 := by rw [hw5]; exact bel_drewN 1 ((Below.refl _ _).alloc (Nat.le_refl _) _)
     have NB := Lib.hid (show Blk w5 w4.heap.size [.int .i64 pk, .int .i64 pa, .int .i64 pn, .int .i64 ca.k, .int .i64 ca.a, .int .i64 ca.n, .int .u64 ca.v, .int .u64 ca.x, .slice sa sl sc, .int .u64 xa.v, .bool xa.d, .slice ta tl tc] by rw [hw5]; exact Blk.drew (Blk.made w4 _ _))
     have H5 := Lib.hid (H4.out.below b5)
     have OW := Lib.hid (ownsRow_keep HO.out (Below.keeps (M := fun _ => False) b5) (fun _ _ => id))
     have XB5 := Lib.hid (XB4.out.below b5 hxlt)
     have RB5 := Lib.hid (R4.out.below b5 (by omega))
     have HS5 := Lib.hid (show w5.heap.size = w4.heap.size + 1 by rw [hw5, World.size_drew, World.size_alloc])
     have B5 := Lib.hid b5
     rw [← hw5]
     clear hw5 b5
     refine wpR 7 rfl fun K hK => ?_
     refine wp_app1 (.tmp 32) (.tmp 34) 117 76 rfl Tryz.underlying117 hi hz0 hz1 hz2 rfl (by decide) tv es.length (es.flatMap evL) rfl OW.out w4.heap.size (evC pk pa pn ca (.slice sa sl sc) xa (.slice ta tl tc)) rfl NB.out rfl (ones_ev _ _ _ _ _ _ _ _ _ _ _) (by omega) (by unfold maxLen; omega) ?_
     intro v' w6 o6 g6 e6
     have KG := grown_keep g6
     have XB6 := Lib.hid (show Blk w6 (w.heap.size + 1 + 1) [.int .i64 pk, .int .i64 pa, .int .i64 pn, .int .i64 ca.k, .int .i64 ca.a, .int .i64 ca.n, .int .u64 ca.v, .int .u64 ca.x, .slice sa sl sc, .int .u64 xa.v, .bool xa.d, .slice ta tl tc] from Blk.keep XB5.out KG (fun h => by have := HOB.out _ h; rw [K4.out _ (by omega), no_big H.out (by omega)] at this; cases this))
     have RB6 := Lib.hid (RB5.out.keep KG (fun h => by have := HOB.out _ h; rw [K4.out _ (by omega), no_big H.out (by omega)] at this; cases this))
     have nWt : ¬ tv.ownBlock = some W := fun h => by have := HOB.out _ h; rw [H4.out.kW] at this; cases this
     have hWF := (KG.frozen (b := W) 3 H5.out.hd.lt nWt).trans (H5.out.hd.frozen 3)
     have hWC := (KG.cell (b := W) 3 H5.out.hd.lt nWt).trans H5.out.cells.2.2.2
     have O6 := Lib.hid o6
     have E6 := Lib.hid e6
     have KG := Lib.hid KG
     obtain ⟨va, vl, vc, rfl⟩ := own_isSl o6
     clear o6 e6 g6 nWt
     refine hK.out _ _ ?_ (fun hHeld => ?_)
     ·try dsimp only
      exact XB6.out.c12
     clear hK K
     try simp only [Act.put, tS]
     refine wpT 8 rfl ?_
     try simp only [Act.put, tS]
     refine wpT 9 rfl ?_
     try simp only [Act.put, tS]
     refine wpR 10 rfl fun K hK => ?_
     go_simp
     refine hK.out _ _ ?_ (fun hHeld => ?_)
     ·try dsimp only
      exact (Blk.far XB6.out (a := ⟨W, 3, none⟩) hWx' _).c12
     clear hK K
     try simp only [Act.put, tS]
     refine wpAnyH_done (by kernel_rfl) ?_ _
     go_wp2_with fail
     go_meet
     have hkn : ∀ i, (Value.slice sa sl sc).ownBlock = some i ∨ (Value.slice ta tl tc).ownBlock = some i → κ4 i = .no ∧ i < w5.heap.size := fun i h => ⟨(OB.out i h).2, by have := (OB.out i h).1; rw [HS5.out]; omega⟩
     have hnp : ∀ j, j < w3.heap.size → ¬ ((Value.slice sa sl sc).ownBlock = some j ∨ (Value.slice ta tl tc).ownBlock = some j) := fun j hj h => by have := (OB.out j h).1; omega
     have hvn : ∀ j, j < w3.heap.size → κ4 j ≠ .tr → (Value.slice va vl vc).ownBlock ≠ some j := fun j hj hk e => by rcases E6.out with h | h; exact hk (HOB.out j (h ▸ e)); rw [h] at e; have := HS5.out; cases e; omega
     refine ⟨kdT κ4 (.slice va vl vc) (.slice sa sl sc) (.slice ta tl tc), .slice va vl vc, H5.out.traced es HES.out HOB.out (HEV.out.keep (K := fun _ => False) (Below.keeps B5.out) (fun _ _ => id) (fun _ => id)) ⟨pk, pa, pn, ca, xa⟩ (.slice sa sl sc) (.slice ta tl tc) (RD1.out.below B5.out) (RD2.out.below B5.out) hkn KG.out O6.out (E6.out.imp id fun h => ⟨_, h, Nat.le_refl _⟩), ?_, ?_, Blk.far XB6.out (a := ⟨W, 3, none⟩) hWx' _, ?_, ?_, Blk.far RB6.out (a := ⟨W, 3, none⟩) (by have := WL.out; show w.heap.size + 1 ≠ W; omega) _, ?_⟩
     ·intro i hi
      unfold kdT
      split
      ·rename_i e
       rw [← K4.out i (by omega)]
       rcases E6.out with h | h
       ·exact (HOB.out i (h ▸ e)).symm
       ·rw [h] at e
        have := HS5.out
        cases e
        omega
      ·rw [if_neg (hnp i (by omega))]
       exact K4.out i (by omega)
     ·have e1 : κ4 (w.heap.size + 1) = .no := by rw [K4.out _ (by omega)]; exact no_big H.out (by omega)
      unfold kdT
      rw [if_neg (hvn _ (by omega) (by rw [e1]; nofun)), if_neg (hnp _ (by omega))]
      exact e1
     ·refine ((RD1.out.below B5.out).keep KG.out fun _ i hi h => ?_).keep (Keep.setCell (M := (· = W)) (Keep.refl _ _) (p := ⟨W, 3, none⟩) (.inl rfl) _) fun _ i hi h => ?_
      ·have h1 := HOB.out i h
       rw [(OB.out i (.inl hi)).2] at h1
       cases h1
      ·have h1 := (OB.out i (.inl hi)).2
       rw [show i = W from h, H4.out.kW] at h1
       cases h1
     ·refine ((RD2.out.below B5.out).keep KG.out fun _ i hi h => ?_).keep (Keep.setCell (M := (· = W)) (Keep.refl _ _) (p := ⟨W, 3, none⟩) (.inl rfl) _) fun _ i hi h => ?_
      ·have h1 := HOB.out i h
       rw [(OB.out i (.inr hi)).2] at h1
       cases h1
      ·have h1 := (OB.out i (.inr hi)).2
       rw [show i = W from h, H4.out.kW] at h1
       cases h1
     ·refine Keep.setCell ((((Below.keeps B3.out).then KP4.out (fun i hi h => h.resolve_right (by omega))).trans (Below.keeps B5.out)).then KG.out (fun i hi h => ?_)) (p := ⟨W, 3, none⟩) (.inl (by show κ W ≠ _; rw [KWo.out]; nofun)) _
      have h1 := HOB.out i h
      rw [K4.out i (by omega)] at h1
      rw [h1]
      nofun
   case rest =>
    obtain ⟨κ', tv', h6, k6, n6, x6, s6, t6, r6, kp6⟩ := hcut
    have H6 := Lib.hid h6
    have K6 := Lib.hid k6
    have N6 := Lib.hid n6
    have S6 := Lib.hid s6
    have T6 := Lib.hid t6
    have R6 := Lib.hid r6
    have KP6 := Lib.hid kp6
    clear g0 g1 g2 g3 g4 g5 g6 g7 g8 g9 g10 g11 WC WF
    obtain ⟨g0, g1, g2, g3, g4, g5, g6, g7, g8, g9, g10, g11⟩ := x6.c12
    have z6 := kp6.size
    clear h6 k6 n6 x6 s6 t6 r6 kp6
    go_wp2_with fail
    refine (wCopied_any pk pa pn ca sa sl sc xa ta tl tc _ S6.out T6.out hlen.1 hlen.2).mono ?_
    rintro e w7 ⟨m0, ml, mc, n0, nl, nc, rfl, o1, o2, b7⟩
    unfold evV
    have R7 := Lib.hid (R6.out.below b7 R6.out.lt)
    have O1 := Lib.hid o1
    have O2 := Lib.hid o2
    have B7 := Lib.hid b7
    have z7 := b7.size
    have RL := Lib.hid R6.out.lt
    clear o1 o2 b7 g0 g1 g2 g3 g4 g5 g6 g7 g8 g9 g10 g11
    obtain ⟨f0, f1, f2, f3, f4, f5, f6, f7, f8, f9, f10, f11⟩ := R7.out.f12
    obtain ⟨g0, g1, g2, g3, g4, g5, g6, g7, g8, g9, g10, g11⟩ := R7.out.c12
    go_wp2
    refine bodyPost_ret (v := .tuple #[evV pk pa pn ca (.slice m0 ml mc) xa (.slice n0 nl nc), .int .i64 0]) (res_ev2 (q := w.heap.size + 1) (c := ca) (x := xa) rfl rfl rfl ?_) rfl ?_
    ·exact ((((((((((((R7.out.set 0 (.int .i64 pk)).set 1 (.int .i64 pa)).set 2 (.int .i64 pn)).set 3 (.int .i64 ca.k)).set 4 (.int .i64 ca.a)).set 5 (.int .i64 ca.n)).set 6 (.int .u64 ca.v)).set 7 (.int .u64 ca.x)).set 8 (.slice m0 ml mc)).set 9 (.int .u64 xa.v)).set 10 (.bool xa.d)).set 11 (.slice n0 nl nc))
    ·rw [HP.out, ← HR.out, if_pos rfl]
     refine ⟨m0, ml, mc, n0, nl, nc, rfl, ?_, ?_, κ', tv', ?_, K6.out, ?_, ?_⟩
     ·refine OwB.mono (B := wc.heap.size) ?_ (by omega)
      iterate 12 (refine OwB.farC ?_ (show w.heap.size + 1 < wc.heap.size from RL.out) _)
      exact O1.out
     ·refine OwB.mono (B := wc.heap.size) ?_ (by omega)
      iterate 12 (refine OwB.farC ?_ (show w.heap.size + 1 < wc.heap.size from RL.out) _)
      exact O2.out
     ·refine (H6.out.below B7.out).keep (K := (· = w.heap.size + 1)) ?_ (fun i hi e => hi (by rw [show i = w.heap.size + 1 from e]; exact N6.out))
      iterate 12 (refine Keep.setCell (M := (· = w.heap.size + 1)) ?_ (Or.inl rfl) _)
      exact Keep.refl _ _
     ·intro i hi
      by_cases hn : κ' i = .no
      ·exact hn
      ·have h1 := H6.out.all i hn
       rcases hi with hi | hi
       ·have := (World.ownsRow.lt O1.out i hi).1
        omega
       ·have := (World.ownsRow.lt O2.out i hi).1
        omega
     ·iterate 12 (refine Keep.setCell ?_ (Or.inr (show w.heap.size ≤ w.heap.size + 1 by omega)) _)
      exact KP6.out.trans (Below.keeps B7.out)
  ·have hzb : (er != 0) = true := by simp [hz]
   obtain ⟨f0, f1, f2, f3, f4, f5, f6, f7, f8, f9, f10, f11⟩ := R4.out.f12
   obtain ⟨g0, g1, g2, g3, g4, g5, g6, g7, g8, g9, g10, g11⟩ := R4.out.c12
   go_wp2
   refine bodyPost_ret (v := .tuple #[evV 0 0 0 aaZ (.slice none 0 0) anZ (.slice none 0 0), .int .i64 er]) (res_ev2 (q := w.heap.size + 1) (c := aaZ) (x := anZ) rfl rfl rfl ?_) rfl ?_
   ·exact ((((((((((((R4.out.set 0 (.int .i64 0)).set 1 (.int .i64 0)).set 2 (.int .i64 0)).set 3 (.int .i64 0)).set 4 (.int .i64 0)).set 5 (.int .i64 0)).set 6 (.int .u64 0)).set 7 (.int .u64 0)).set 8 (.slice none 0 0)).set 9 (.int .u64 0)).set 10 (.bool false)).set 11 (.slice none 0 0))
   ·rw [HP.out, ← HR.out, if_neg (by exact hz)]
    refine ⟨none, 0, 0, none, 0, 0, rfl, OwB.nil _ _ _, OwB.nil _ _ _, κ4, tv, ?_, fun i hi => K4.out i (by omega), (fun i h => by rcases h with h | h <;> cases h), ?_⟩
    ·refine H4.out.keep (K := (· = w.heap.size + 1)) ?_ (fun i hi e => hi (by rw [show i = w.heap.size + 1 from e, K4.out _ (by omega)]; exact no_big H.out (by omega)))
     iterate 12 (refine Keep.setCell (M := (· = w.heap.size + 1)) ?_ (Or.inl rfl) _)
     exact Keep.refl _ _
    ·iterate 12 (refine Keep.setCell ?_ (Or.inr (show w.heap.size ≤ w.heap.size + 1 by omega)) _)
     exact (Below.keeps B3.out).then KP4.out (fun i hi h => h.resolve_right (by omega))
end Go.Proofs.YtggjhleomocojaaGreat
