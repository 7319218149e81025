/- (*relay.Relay).settle. Conditions: as it says. -/
import Derived.Test.YtggjhleomocojaaGreatNt
import Derived.Test.YtggjhleomocojaaGreatNe
import Derived.Test.YtggjhleomocojaaGreatGb
import Derived.Test.YtggjhleomocojaaGreatSh
import Derived.Deep.RegionHeld3
import Derived.Deep.LoopGhost
import Derived.Test.YtggjhleomocojaaGreatGp
import Derived.Test.YtggjhleomocojaaGreatKe
import Derived.Test.YtggjhleomocojaaGreatQb
namespace Go.Proofs.YtggjhleomocojaaGreat
set_option maxRecDepth 100000
open Go.RowKit
set_option linter.unusedVariables false
set_option linter.unusedSimpArgs false
def RelT.rm (t : RelT) : Prop := t.heard.length + t.left.toNat < 1000 ∧ t.losses + t.left.toNat < 1000
set_option maxHeartbeats 8000000 in
theorem relSettle_any {w0 w : World} {O0 : Nat → Prop} {q : Nat} {L F1 : Nat → Prop} {cur : Option HeaM} {t : RelT} {nv ov : Value} (k : Nat) (hk : t.left.toNat + 1 ≤ k) (hs : cur ≠ none → t.rm) (h : RelB w0 O0 w q L F1 cur t nv ov) :
  Calls Tryz.prog 40 #[ptr q] w fun e w' => e = .returned (.tuple #[]) ∧ (∀ m, (relL k cur t).1 = some m → m.live = true) ∧ ((relL k cur t).1 ≠ none → (relL k cur t).2.rm) ∧ ∃ L' F1' nv' ov', RelB w0 O0 w' q L' F1' (relL k cur t).1 (relL k cur t).2 nv' ov' := by
 have H := Lib.hid h
 have HK := Lib.hid hk
 have HS := Lib.hid hs
 obtain ⟨R, hR⟩ : ∃ R, R = relL k cur t := ⟨_, rfl⟩
 have HR0 := Lib.hid hR
 rw [← hR]
 clear h hk hR hs
 unfold ptr
 go_enter Tryz.func40, Tryz.ntmps40
 go_wp2_with fail
 go_loopg [] (t.left.toNat + 1) (fun gk wr => ∃ (m : Nat) (cr : Option HeaM) (tr : RelT) (Lr Fr : Nat → Prop) (nvr ovr : Value), gk = tr.left.toNat + 1 ∧ tr.left.toNat + 1 ≤ m ∧ RelB w0 O0 wr q Lr Fr cr tr nvr ovr ∧ relL m cr tr = R ∧ (cr ≠ none → tr.rm))
 case atStart => exact ⟨k, cur, t, L, F1, nv, ov, rfl, HK.out, H.out, HR0.out.symm, HS.out⟩
 case round =>
  obtain ⟨m, cr, tr, Lr, Fr, nvr, ovr, hgk0, hgk, hp, hset, hsr⟩ := hrel
  subst hgk0
  have HP := Lib.hid hp
  have HSET := Lib.hid hset
  have ltr := hp.b.lt
  have c6 : wr.cell? ⟨q, 6, none⟩ = some nvr := Blk.cell hp.b 6
  have cc := hp.c
  have HGK := Lib.hid hgk
  have HSR := Lib.hid hsr
  clear hp hset hgk hsr
  cases cr with
  | none =>
   have e : nvr = .pointer none := cc
   subst e
   clear cc
   go_wp2_with fail
   refine (hNext_nil _).mono ?_
   rintro e w1 ⟨rfl, b1⟩
   unfold AA.V
   dsimp only
   have d6 := (b1.cell (p := ⟨q, 6, none⟩) ltr).trans c6
   have HP1 := Lib.hid (HP.out.below b1)
   have lt1 : q < w1.heap.size := Nat.lt_of_lt_of_le ltr b1.size
   clear b1 c6
   go_upto_if 17 with fail
   go_cut [2, 3] from 4 to 46 (fun y2 y3 wx => ∃ (Lx Fx : Nat → Prop) (cx : Option HeaM) (tt : RelT) (kt : Nat) (nvt ovt : Value), RelB w0 O0 wx q Lx Fx cx tt nvt ovt ∧ relL kt none tt = R ∧ tt.left.toNat ≤ kt ∧ tt.left.toNat = tr.left.toNat)
   case first =>
    go_wp2
    go_meet
    exact ⟨Lr, Fr, none, tr, m, .pointer none, ovr, HP1.out.below (by go_grown), HSET.out, Nat.le_of_succ_le HGK.out, rfl⟩
   obtain ⟨Lx, Fx, cx, tt, kt, nvt, ovt, hcw, hrt, hgk, hgl⟩ := hcut
   have HC := Lib.hid hcw
   have HRT := Lib.hid hrt
   have HGK := Lib.hid hgk
   clear hcw hrt hgk
   have ltw := HC.out.b.lt
   have f6 := HC.out.b.frozen 6
   have ct6 : wc.cell? ⟨q, 6, none⟩ = some nvt := Blk.cell HC.out.b 6
   have ct5 : wc.cell? ⟨q, 5, none⟩ = some (.int .i64 tt.left) := Blk.cell HC.out.b 5
   have S1 := Lib.hid (HC.out.set (F1' := fun _ => False) (cur' := none) (nv' := .pointer none) 6 (.pointer none) rfl HC.out.d rfl id (fun i h => h.elim) (fun i h => h.elim))
   have g5 : (wc.setCell ⟨q, 6, none⟩ (.pointer none)).cell? ⟨q, 5, none⟩ = some (.int .i64 tt.left) := Blk.cell S1.out.b 5
   have k5 := S1.out.b.frozen 5
   by_cases hlt : tt.left < 1
   ·have HLT := Lib.hid hlt
    go_wp2
    refine bodyPost_ret (results_none rfl _ _ _) rfl ?_
    have e := HRT.out
    rw [relL_nil _ HLT.out] at e
    subst e
    exact ⟨rfl, (fun m hm => by cases hm), (fun h => absurd rfl h), _, _, _, _, S1.out⟩
   have HLT := Lib.hid hlt
   have hsm := HC.out.d.sm
   have HSM := Lib.hid hsm
   have W1 : IntKind.i64.wrap (tt.left - 1) = tt.left - 1 := IntWalk.i64_in _ ⟨by omega, by omega⟩
   have lts := S1.out.b.lt
   have D1 := S1.out.d
   have S2 := Lib.hid (S1.out.set1 (t' := { tt with left := tt.left - 1 }) 5 (.int .i64 (tt.left - 1)) rfl ⟨D1.hd, D1.nl, D1.ll, D1.bb, D1.bs, by show tt.heard.length + (tt.left - 1).toNat ≤ 1000 ∧ 0 ≤ tt.losses ∧ tt.losses + ((tt.left - 1).toNat : Int) ≤ 1000 ∧ tt.left - 1 ≤ 1000; omega⟩)
   have HRM : Hid (({ tt with left := tt.left - 1 } : RelT).rm) := Lib.hid (by show tt.heard.length + (tt.left - 1).toNat < 1000 ∧ tt.losses + ((tt.left - 1).toNat : Int) < 1000; omega)
   have HLN : Hid ((tt.left - 1).toNat + 1 = tt.left.toNat) := Lib.hid (by omega)
   clear hsm D1
   go_upto_region 7 with fail
   obtain ⟨w2, hw2⟩ : ∃ w2, w2 = (wc.setCell ⟨q, 6, none⟩ (.pointer none)).setCell ⟨q, 5, none⟩ (.int .i64 (tt.left - 1)) := ⟨_, rfl⟩
   rw [← hw2] at S2
   rw [← hw2]
   clear hw2 g5 k5 ct6 ct5 f6
   have h0 : w2.cell? ⟨q, 0, none⟩ = some (.int .i64 tt.b) := Blk.cell S2.out.b 0
   have h1 : w2.cell? ⟨q, 1, none⟩ = some (.int .i64 tt.s) := Blk.cell S2.out.b 1
   have h2 : w2.cell? ⟨q, 2, none⟩ = some (.int .i64 tt.ear.cu) := Blk.cell S2.out.b 2
   have h3 : w2.cell? ⟨q, 3, none⟩ = some (.int .i64 tt.ear.nx) := Blk.cell S2.out.b 3
   have h4 : w2.cell? ⟨q, 4, none⟩ = some (.int .i64 tt.ear.la) := Blk.cell S2.out.b 4
   have lt2 := S2.out.b.lt
   have HD := Lib.hid S2.out.d
   refine wp_region_held_drew (S := fun w' => w'.cell? ⟨q, 0, none⟩ = some (.int .i64 tt.b) ∧ w'.cell? ⟨q, 1, none⟩ = some (.int .i64 tt.s) ∧ w'.cell? ⟨q, 2, none⟩ = some (.int .i64 tt.ear.cu) ∧ w'.cell? ⟨q, 3, none⟩ = some (.int .i64 tt.ear.nx) ∧ w'.cell? ⟨q, 4, none⟩ = some (.int .i64 tt.ear.la)) (by kernel_rfl) ?_ (fun hHeld => ?_)
   ·try dsimp only
    exact ⟨h0, h1, h2, h3, h4⟩
   refine wpT (v := ?_) 0 rfl ?_ ?_
   rotate_left
   ·intro w0 hSw
    (try dsimp only at hSw)
    go_simp
    try with_reducible rfl
   try simp only [Act.put, tS]
   refine wpT (v := ?_) 1 rfl ?_ ?_
   rotate_left
   ·intro w0 hSw
    (try dsimp only at hSw)
    go_simp
    try with_reducible rfl
   try simp only [Act.put, tS]
   refine wpT (v := ?_) 2 rfl ?_ ?_
   rotate_left
   ·intro w0 hSw
    (try dsimp only at hSw)
    go_simp
    try with_reducible rfl
   try simp only [Act.put, tS]
   refine wpT (v := ?_) 3 rfl ?_ ?_
   rotate_left
   ·intro w0 hSw
    (try dsimp only at hSw)
    go_simp
    try with_reducible rfl
   try simp only [Act.put, tS]
   refine wpT (v := ?_) 4 rfl ?_ ?_
   rotate_left
   ·intro w0 hSw
    (try dsimp only at hSw)
    go_simp
    try with_reducible rfl
   try simp only [Act.put, tS]
   refine wpT (v := ?_) 5 rfl ?_ ?_
   rotate_left
   ·intro w0 hSw
    (try dsimp only at hSw)
    go_simp
    try with_reducible rfl
   try simp only [Act.put, tS]
   refine wpT (v := ?_) 6 rfl ?_ ?_
   rotate_left
   ·intro w0 hSw
    (try dsimp only at hSw)
    go_simp
    try with_reducible rfl
   try simp only [Act.put, tS]
   refine wpT (v := ?_) 7 rfl ?_ ?_
   rotate_left
   ·intro w0 hSw
    (try dsimp only at hSw)
    go_simp
    try with_reducible rfl
   try simp only [Act.put, tS]
   refine wpT (v := ?_) 8 rfl ?_ ?_
   rotate_left
   ·intro w0 hSw
    (try dsimp only at hSw)
    go_simp
    try with_reducible rfl
   try simp only [Act.put, tS]
   refine wpR 9 rfl fun K hK => ?_
   go_simp
   go_at_call 82
   refine (hNew_f tt.b tt.s tt.ear _ HD.out.bb.1 HD.out.bb.2 HD.out.bs.1 HD.out.bs.2).mono ?_
   rintro e w3 ⟨p, rfl, hp, hf, b3⟩
   have S3 := Lib.hid (S2.out.below (Below.trans (bel_drewN 1 (Below.refl _ _)) b3))
   have f36 := S3.out.b.frozen 6
   have c36 : w3.cell? ⟨q, 6, none⟩ = some (.pointer none) := Blk.cell S3.out.b 6
   have lt3 := S3.out.b.lt
   have z3 := b3.size
   simp at z3 hp
   have HF := Lib.hid hf
   go_wp2_with fail
   refine hK.out _ _ ?_ (fun hHeld => ?_)
   ·try dsimp only
    exact ⟨Blk.cell S3.out.b 0, Blk.cell S3.out.b 1, Blk.cell S3.out.b 2, Blk.cell S3.out.b 3, Blk.cell S3.out.b 4⟩
   clear hK K
   try simp only [Act.put, tS]
   refine wpT (v := ?_) 10 rfl ?_ ?_
   rotate_left
   ·intro w0 hSw
    (try dsimp only at hSw)
    go_simp
    try with_reducible rfl
   try simp only [Act.put, tS]
   refine wpT (v := ?_) 11 rfl ?_ ?_
   rotate_left
   ·intro w0 hSw
    (try dsimp only at hSw)
    go_simp
    try with_reducible rfl
   try simp only [Act.put, tS]
   have HNX := Lib.hid (S3.out.set (F1' := fun k => w2.heap.size ≤ k ∧ k < w3.heap.size) (cur' := some (HeaM.init tt.b tt.s tt.ear)) (nv' := ptr p) 6 (ptr p) rfl S3.out.d ⟨p, rfl, HF.out⟩ (fun h => by omega) (fun i hi => ⟨hi.2, fun h => by have := S2.out.d.ll i h; omega, fun h => by obtain ⟨es', _, h8, _⟩ := S2.out.d.hd; have := World.ownsRow.lt h8 i h; omega⟩) (fun i hi => .inr (Nat.le_trans S2.out.k.size hi.1)))
   refine wpR 12 rfl fun K hK => ?_
   go_simp
   refine hK.out _ _ ?_ (fun hHeld => ?_)
   ·try dsimp only
    exact ⟨Blk.cell HNX.out.b 0, Blk.cell HNX.out.b 1, Blk.cell HNX.out.b 2, Blk.cell HNX.out.b 3, Blk.cell HNX.out.b 4⟩
   clear hK K
   try simp only [Act.put, tS]
   refine wpAnyH_done (by kernel_rfl) ?_ _
   clear hHeld
   go_wp2_with fail
   go_roundg ((tt.left - 1).toNat + 1)
   case measure => (have := hgl; have := HLN.out; omega)
   case rel =>
    refine ⟨kt, _, { tt with left := tt.left - 1 }, _, _, _, _, rfl, ?_, HNX.out, ?_, fun _ => HRM.out⟩
    ·show (tt.left - 1).toNat + 1 ≤ kt
     have := HGK.out
     have := HLN.out
     omega
    ·exact (relL_cons kt (fun h => by have := HLT.out; omega)).symm.trans HRT.out
  | some s =>
   obtain ⟨p, e, hsf⟩ := cc
   subst e
   obtain ⟨hfine, O, Rh, mv, hO, hI⟩ := hsf.2.2
   have HI := Lib.hid hI
   clear hO hI hsf hfine
   unfold ptr at c6
   go_wp2_with fail
   refine (hNext_any _ HI.out).mono ?_
   rintro e w1 ⟨s0, sl, sc, rfl, hr, b1⟩
   unfold AA.V
   dsimp only
   have d6 := (b1.cell (p := ⟨q, 6, none⟩) ltr).trans c6
   have HP1 := Lib.hid (HP.out.below b1)
   have lt1 : q < w1.heap.size := Nat.lt_of_lt_of_le ltr b1.size
   clear b1 c6 hr
   by_cases hl : s.live = true
   ·rw [hl]
    have HL := Lib.hid hl
    clear hl
    go_wp2
    refine bodyPost_ret (results_none rfl _ _ _) rfl ?_
    have e := HSET.out
    rw [relL_live _ _ HL.out] at e
    subst e
    exact ⟨rfl, (fun m hm => by cases hm; exact HL.out), HSR.out, Lr, Fr, _, _, HP1.out.below (by go_grown)⟩
   ·have hl' : s.live = false := by simpa using hl
    rw [hl']
    have HL := Lib.hid hl'
    clear hl hl'
    obtain ⟨m', rfl⟩ : ∃ m', m = m' + 1 := ⟨m - 1, by have := HGK.out; omega⟩
    have HST := Lib.hid ((relL_dead m' tr HL.out).symm.trans HSET.out)
    have HGM : Hid (tr.left.toNat ≤ m') := Lib.hid (by have := HGK.out; omega)
    go_upto_if 17 with fail
    go_cut [2, 3] from 4 to 46 (fun y2 y3 wx => ∃ (Lx Fx : Nat → Prop) (cx : Option HeaM) (tt : RelT) (kt : Nat) (nvt ovt : Value), RelB w0 O0 wx q Lx Fx cx tt nvt ovt ∧ relL kt none tt = R ∧ tt.left.toNat ≤ kt ∧ tt.left.toNat = tr.left.toNat)
    case first =>
     go_wp2_with fail
     refine (relNote_any (HP1.out.below (by go_grown)) (HSR.out (by simp))).mono ?_
     rintro e w2 ⟨rfl, L2, ov2, hB2⟩
     have HB2 := Lib.hid hB2
     clear hB2
     go_wp2
     go_meet
     exact ⟨L2, Fr, some s, tr.en s, m', _, ov2, HB2.out, HST.out, HGM.out, rfl⟩
    obtain ⟨Lx, Fx, cx, tt, kt, nvt, ovt, hcw, hrt, hgk, hgl⟩ := hcut
    have HC := Lib.hid hcw
    have HRT := Lib.hid hrt
    have HGK := Lib.hid hgk
    clear hcw hrt hgk
    have ltw := HC.out.b.lt
    have f6 := HC.out.b.frozen 6
    have ct6 : wc.cell? ⟨q, 6, none⟩ = some nvt := Blk.cell HC.out.b 6
    have ct5 : wc.cell? ⟨q, 5, none⟩ = some (.int .i64 tt.left) := Blk.cell HC.out.b 5
    have S1 := Lib.hid (HC.out.set (F1' := fun _ => False) (cur' := none) (nv' := .pointer none) 6 (.pointer none) rfl HC.out.d rfl id (fun i h => h.elim) (fun i h => h.elim))
    have g5 : (wc.setCell ⟨q, 6, none⟩ (.pointer none)).cell? ⟨q, 5, none⟩ = some (.int .i64 tt.left) := Blk.cell S1.out.b 5
    have k5 := S1.out.b.frozen 5
    by_cases hlt : tt.left < 1
    ·have HLT := Lib.hid hlt
     go_wp2
     refine bodyPost_ret (results_none rfl _ _ _) rfl ?_
     have e := HRT.out
     rw [relL_nil _ HLT.out] at e
     subst e
     exact ⟨rfl, (fun m hm => by cases hm), (fun h => absurd rfl h), _, _, _, _, S1.out⟩
    have HLT := Lib.hid hlt
    have hsm := HC.out.d.sm
    have HSM := Lib.hid hsm
    have W1 : IntKind.i64.wrap (tt.left - 1) = tt.left - 1 := IntWalk.i64_in _ ⟨by omega, by omega⟩
    have lts := S1.out.b.lt
    have D1 := S1.out.d
    have S2 := Lib.hid (S1.out.set1 (t' := { tt with left := tt.left - 1 }) 5 (.int .i64 (tt.left - 1)) rfl ⟨D1.hd, D1.nl, D1.ll, D1.bb, D1.bs, by show tt.heard.length + (tt.left - 1).toNat ≤ 1000 ∧ 0 ≤ tt.losses ∧ tt.losses + ((tt.left - 1).toNat : Int) ≤ 1000 ∧ tt.left - 1 ≤ 1000; omega⟩)
    have HRM : Hid (({ tt with left := tt.left - 1 } : RelT).rm) := Lib.hid (by show tt.heard.length + (tt.left - 1).toNat < 1000 ∧ tt.losses + ((tt.left - 1).toNat : Int) < 1000; omega)
    have HLN : Hid ((tt.left - 1).toNat + 1 = tt.left.toNat) := Lib.hid (by omega)
    clear hsm D1
    go_upto_region 7 with fail
    obtain ⟨w2, hw2⟩ : ∃ w2, w2 = (wc.setCell ⟨q, 6, none⟩ (.pointer none)).setCell ⟨q, 5, none⟩ (.int .i64 (tt.left - 1)) := ⟨_, rfl⟩
    rw [← hw2] at S2
    rw [← hw2]
    clear hw2 g5 k5 ct6 ct5 f6
    have h0 : w2.cell? ⟨q, 0, none⟩ = some (.int .i64 tt.b) := Blk.cell S2.out.b 0
    have h1 : w2.cell? ⟨q, 1, none⟩ = some (.int .i64 tt.s) := Blk.cell S2.out.b 1
    have h2 : w2.cell? ⟨q, 2, none⟩ = some (.int .i64 tt.ear.cu) := Blk.cell S2.out.b 2
    have h3 : w2.cell? ⟨q, 3, none⟩ = some (.int .i64 tt.ear.nx) := Blk.cell S2.out.b 3
    have h4 : w2.cell? ⟨q, 4, none⟩ = some (.int .i64 tt.ear.la) := Blk.cell S2.out.b 4
    have lt2 := S2.out.b.lt
    have HD := Lib.hid S2.out.d
    refine wp_region_held_drew (S := fun w' => w'.cell? ⟨q, 0, none⟩ = some (.int .i64 tt.b) ∧ w'.cell? ⟨q, 1, none⟩ = some (.int .i64 tt.s) ∧ w'.cell? ⟨q, 2, none⟩ = some (.int .i64 tt.ear.cu) ∧ w'.cell? ⟨q, 3, none⟩ = some (.int .i64 tt.ear.nx) ∧ w'.cell? ⟨q, 4, none⟩ = some (.int .i64 tt.ear.la)) (by kernel_rfl) ?_ (fun hHeld => ?_)
    ·try dsimp only
     exact ⟨h0, h1, h2, h3, h4⟩
    refine wpT (v := ?_) 0 rfl ?_ ?_
    rotate_left
    ·intro w0 hSw
     (try dsimp only at hSw)
     go_simp
     try with_reducible rfl
    try simp only [Act.put, tS]
    refine wpT (v := ?_) 1 rfl ?_ ?_
    rotate_left
    ·intro w0 hSw
     (try dsimp only at hSw)
     go_simp
     try with_reducible rfl
    try simp only [Act.put, tS]
    refine wpT (v := ?_) 2 rfl ?_ ?_
    rotate_left
    ·intro w0 hSw
     (try dsimp only at hSw)
     go_simp
     try with_reducible rfl
    try simp only [Act.put, tS]
    refine wpT (v := ?_) 3 rfl ?_ ?_
    rotate_left
    ·intro w0 hSw
     (try dsimp only at hSw)
     go_simp
     try with_reducible rfl
    try simp only [Act.put, tS]
    refine wpT (v := ?_) 4 rfl ?_ ?_
    rotate_left
    ·intro w0 hSw
     (try dsimp only at hSw)
     go_simp
     try with_reducible rfl
    try simp only [Act.put, tS]
    refine wpT (v := ?_) 5 rfl ?_ ?_
    rotate_left
    ·intro w0 hSw
     (try dsimp only at hSw)
     go_simp
     try with_reducible rfl
    try simp only [Act.put, tS]
    refine wpT (v := ?_) 6 rfl ?_ ?_
    rotate_left
    ·intro w0 hSw
     (try dsimp only at hSw)
     go_simp
     try with_reducible rfl
    try simp only [Act.put, tS]
    refine wpT (v := ?_) 7 rfl ?_ ?_
    rotate_left
    ·intro w0 hSw
     (try dsimp only at hSw)
     go_simp
     try with_reducible rfl
    try simp only [Act.put, tS]
    refine wpT (v := ?_) 8 rfl ?_ ?_
    rotate_left
    ·intro w0 hSw
     (try dsimp only at hSw)
     go_simp
     try with_reducible rfl
    try simp only [Act.put, tS]
    refine wpR 9 rfl fun K hK => ?_
    go_simp
    go_at_call 82
    refine (hNew_f tt.b tt.s tt.ear _ HD.out.bb.1 HD.out.bb.2 HD.out.bs.1 HD.out.bs.2).mono ?_
    rintro e w3 ⟨p, rfl, hp, hf, b3⟩
    have S3 := Lib.hid (S2.out.below (Below.trans (bel_drewN 1 (Below.refl _ _)) b3))
    have f36 := S3.out.b.frozen 6
    have c36 : w3.cell? ⟨q, 6, none⟩ = some (.pointer none) := Blk.cell S3.out.b 6
    have lt3 := S3.out.b.lt
    have z3 := b3.size
    simp at z3 hp
    have HF := Lib.hid hf
    go_wp2_with fail
    refine hK.out _ _ ?_ (fun hHeld => ?_)
    ·try dsimp only
     exact ⟨Blk.cell S3.out.b 0, Blk.cell S3.out.b 1, Blk.cell S3.out.b 2, Blk.cell S3.out.b 3, Blk.cell S3.out.b 4⟩
    clear hK K
    try simp only [Act.put, tS]
    refine wpT (v := ?_) 10 rfl ?_ ?_
    rotate_left
    ·intro w0 hSw
     (try dsimp only at hSw)
     go_simp
     try with_reducible rfl
    try simp only [Act.put, tS]
    refine wpT (v := ?_) 11 rfl ?_ ?_
    rotate_left
    ·intro w0 hSw
     (try dsimp only at hSw)
     go_simp
     try with_reducible rfl
    try simp only [Act.put, tS]
    have HNX := Lib.hid (S3.out.set (F1' := fun k => w2.heap.size ≤ k ∧ k < w3.heap.size) (cur' := some (HeaM.init tt.b tt.s tt.ear)) (nv' := ptr p) 6 (ptr p) rfl S3.out.d ⟨p, rfl, HF.out⟩ (fun h => by omega) (fun i hi => ⟨hi.2, fun h => by have := S2.out.d.ll i h; omega, fun h => by obtain ⟨es', _, h8, _⟩ := S2.out.d.hd; have := World.ownsRow.lt h8 i h; omega⟩) (fun i hi => .inr (Nat.le_trans S2.out.k.size hi.1)))
    refine wpR 12 rfl fun K hK => ?_
    go_simp
    refine hK.out _ _ ?_ (fun hHeld => ?_)
    ·try dsimp only
     exact ⟨Blk.cell HNX.out.b 0, Blk.cell HNX.out.b 1, Blk.cell HNX.out.b 2, Blk.cell HNX.out.b 3, Blk.cell HNX.out.b 4⟩
    clear hK K
    try simp only [Act.put, tS]
    refine wpAnyH_done (by kernel_rfl) ?_ _
    clear hHeld
    go_wp2_with fail
    go_roundg ((tt.left - 1).toNat + 1)
    case measure => (have := hgl; have := HLN.out; omega)
    case rel =>
     refine ⟨kt, _, { tt with left := tt.left - 1 }, _, _, _, _, rfl, ?_, HNX.out, ?_, fun _ => HRM.out⟩
     ·show (tt.left - 1).toNat + 1 ≤ kt
      have := HGK.out
      have := HLN.out
      omega
     ·exact (relL_cons kt (fun h => by have := HLT.out; omega)).symm.trans HRT.out
end Go.Proofs.YtggjhleomocojaaGreat
namespace Go.Proofs.YtggjhleomocojaaGreat
set_option maxRecDepth 100000
open Go.RowKit
set_option linter.unusedVariables false
set_option linter.unusedSimpArgs false
theorem MsIn.ms_cell2 {w : World} {O R : Nat → Prop} {v : Value} {l : List (Int × List Int)} (h : MsIn w O R v l) {k : Nat} {t : Int} {d : List Int} (hk : l[k]? = some (t, d)) : ∃ g c s0 sl sc, v = .slice (some ⟨g, 0, none⟩) l.length c ∧ w.cell? ⟨g, k * 2, none⟩ = some (.int .i32 t) ∧ w.cell? ⟨g, k * 2 + 1, none⟩ = some (.slice s0 sl sc) ∧ RdB w (.slice s0 sl sc) d := by
 obtain ⟨⟨es, he, ho, hes⟩, _⟩ := h
 have hkl : k < l.length := (List.getElem?_eq_some_iff.1 hk).1
 have hel : es.length = l.length := by rw [← he, List.length_map]
 obtain ⟨e, hek⟩ : ∃ e, es[k]? = some e := ⟨_, List.getElem?_eq_getElem (by omega)⟩
 have h1 : e.1 = (t, d) := by
  rw [← he, List.getElem?_map, hek] at hk
  exact Option.some.inj hk
 obtain ⟨h2, _⟩ := hes e (List.mem_of_getElem? hek)
 obtain ⟨m1, m2⟩ := ms_at es k e hek
 obtain ⟨e1, e2⟩ := e
 dsimp only at h1 h2 m1 m2
 subst h1
 obtain ⟨sa, sl, sc, rfl⟩ := h2.isSl
 rcases ho.2 with ⟨_, h0⟩ | ⟨g, cap, cur, rfl, _⟩
 ·omega
 ·refine ⟨g, cap, sa, sl, sc, by rw [hel], ?_, ?_, h2⟩
  ·rw [World.ownsRow.cellAt ho _ (by omega), m1]
  ·rw [World.ownsRow.cellAt ho _ (by omega), m2]
end Go.Proofs.YtggjhleomocojaaGreat
section
namespace Go.Proofs.YtggjhleomocojaaGreat
set_option maxRecDepth 100000
open Go.RowKit
set_option linter.unusedVariables false
set_option linter.unusedSimpArgs false
structure DraT where
 b : Int
 s : Int
 times : Int
 most : Int
 out : List (Int × List Int)
def DraT.mo (t : DraT) : Option GetM × DraT := if t.times < 1 then (none, t) else (some (GetC.init ⟨t.b, t.s, t.most⟩), { t with times := t.times - 1 })
end Go.Proofs.YtggjhleomocojaaGreat
end
namespace Go.Proofs.YtggjhleomocojaaGreat
set_option maxRecDepth 100000
open Go.RowKit
set_option linter.unusedVariables false
set_option linter.unusedSimpArgs false
def FixM.rest (m : FixM) : List Value := [.int .i64 m.c.b, .int .i64 m.c.s, .int .i64 m.first, .int .i64 m.last, .int .i64 m.n, .int .i64 m.e]
def FixM.looked (m : FixM) (v : Int) : FixM := if 0 < loS v ∨ loS v < -(m.c.s - m.first) then m.stop else if loS v < 0 then { m with pc := .pd (-loS v) } else m.ahead (m.first + 8)
def FixM.pcOk (m : FixM) : Prop := match m.pc with
 | .done => True
 | .h0 => True
 | .t0 h => inU h
 | .lk => 0 ≤ m.first ∧ m.first < m.last ∧ m.last ≤ m.c.s
 | .ah a => (0 ≤ m.first ∧ m.first < m.last ∧ m.last ≤ m.c.s) ∧ m.first < a ∧ a < m.last
 | .bk a g => (0 ≤ m.first ∧ m.first < m.last ∧ m.last ≤ m.c.s) ∧ m.first ≤ a ∧ a < g ∧ g < m.last
 | .pd n => (0 ≤ m.first ∧ m.first < m.last ∧ m.last ≤ m.c.s) ∧ 0 < n ∧ n ≤ m.c.s - m.first
structure FixM.fine (m : FixM) : Prop where
 ok : m.live = true → rgOk m.c.b m.c.s = true
 pc : m.pcOk
end Go.Proofs.YtggjhleomocojaaGreat
namespace Go.Proofs.YtggjhleomocojaaGreat
set_option maxRecDepth 100000
open Go.RowKit
set_option linter.unusedVariables false
set_option linter.unusedSimpArgs false
structure MenT where
 b : Int
 s : Int
 times : Int
 sum : Int
def MenT.mo (t : MenT) : Option FixM × MenT := if t.times < 1 then (none, t) else (some (FixC.init ⟨t.b, t.s⟩), { t with times := t.times - 1 })
end Go.Proofs.YtggjhleomocojaaGreat
namespace Go.Proofs.YtggjhleomocojaaGreat
set_option maxRecDepth 100000
open Go.RowKit
set_option linter.unusedVariables false
set_option linter.unusedSimpArgs false
variable {q : Nat} {L F1 : Nat → Prop} {t : RelT} {nv ov : Value}
theorem RelB.lt {w0 w : World} {O0 : Nat → Prop} {cur : Option HeaM} (h : RelB w0 O0 w q L F1 cur t nv ov) : ∀ i, (i = q ∨ L i ∨ ov.ownBlock = some i ∨ F1 i) → i < w.heap.size := by
 rintro i (rfl | hi | hi | hi)
 ·exact h.b.lt
 ·exact h.d.ll i hi
 ·obtain ⟨es', _, h8, _⟩ := h.d.hd
  exact (World.ownsRow.lt h8 i hi).2
 ·exact (h.f1 i hi).1
theorem RelB.rebase {w0 w : World} {O0 F : Nat → Prop} {cur : Option HeaM} (h : RelB w0 O0 w q L F1 cur t nv ov) (hF : ∀ i, i < w.heap.size → O0 i ∨ w0.heap.size ≤ i → F i) : RelB w F w q L F1 cur t nv ov :=
 ⟨Keep.refl _ _, h.b, h.d, h.c, h.nq, h.qd, h.f1, fun i hi => .inl (hF i (h.lt i hi) (h.o i hi))⟩
def RelF (w : World) (F : Nat → Prop) (q : Nat) (s : relC.mac.σ) : Prop :=
 F q ∧ (∀ i, F i → i < w.heap.size) ∧ relC.fin s ∧ (s.1 ≠ none → RelT.rm s.2) ∧ ∃ L F1 nv ov, RelB w F w q L F1 s.1 s.2 nv ov
variable {w : World} {s : relC.mac.σ}
theorem RelF.mono {F F' : Nat → Prop} (h : RelF w F q s) (h1 : ∀ i, F i → F' i) (h2 : ∀ i, F' i → i < w.heap.size) : RelF w F' q s := by
 obtain ⟨a1, a2, a3, a4, L, F1, nv, ov, hb⟩ := h
 exact ⟨h1 q a1, h2, a3, a4, L, F1, nv, ov, ⟨Keep.refl _ _, hb.b, hb.d, hb.c, hb.nq, hb.qd, hb.f1, fun i hi => (hb.o i hi).imp_left (h1 i)⟩⟩
theorem RelF.keep {w w' : World} {F K : Nat → Prop} (h : RelF w F q s) (k : Keep K w w') (hd : ∀ i, F i → ¬ K i) : RelF w' F q s := by
 obtain ⟨a1, a2, a3, a4, L, F1, nv, ov, hb⟩ := h
 have ho : ∀ i, (i = q ∨ L i ∨ ov.ownBlock = some i ∨ F1 i) → F i := fun i hi => (hb.o i hi).resolve_right (by have := hb.lt i hi; omega)
 exact ⟨a1, fun i hi => Nat.lt_of_lt_of_le (a2 i hi) k.size, a3, a4, L, F1, nv, ov, ⟨Keep.refl _ _, hb.b.keep k (hd q a1), hb.d.keep k (fun i hi => hd i (ho i (.inr (.inl hi)))) (fun i hi => hd i (ho i (.inr (.inr (.inl hi))))),
  hb.c.keep k (fun i hi => hd i (ho i (.inr (.inr (.inr hi))))), hb.nq, hb.qd, fun i hi => ⟨Nat.lt_of_lt_of_le (hb.f1 i hi).1 k.size, (hb.f1 i hi).2⟩, fun i hi => .inl (ho i hi)⟩⟩
variable {F : Nat → Prop}
theorem RelF.below {w w' : World} (h : RelF w F q s) (b : Below w.heap.size w w') : RelF w' F q s := h.keep (K := fun _ => False) (Below.keeps b) (fun _ _ => id)
theorem RelB.take {w0 w w' : World} {O0 : Nat → Prop} {q p : Nat} {L F1 F2 : Nat → Prop} {m m' : HeaM} {ov : Value} (h : RelB w0 O0 w q L F1 (some m) t (ptr p) ov) (hs : HeaF w' F2 p m') (hg : ∀ i, F2 i → F1 i ∨ w.heap.size ≤ i) (k : Keep F1 w w') : RelB w0 O0 w' q L F2 (some m') t (ptr p) ov := by
 have hlt := h.lt
 have hn : ∀ i, i < w.heap.size → ¬ F1 i → ¬ F2 i := fun i hi hf h2 => (hg i h2).elim hf (by omega)
 refine ⟨h.k.then k (fun i hi hf => (h.o i (.inr (.inr (.inr hf)))).resolve_right (by omega)), h.b.keep k h.nq.2, h.d.keep k (fun i hi hf => (h.f1 i hf).2.1 hi) (fun i hi hf => (h.f1 i hf).2.2 hi), ⟨p, rfl, hs⟩, ⟨h.nq.1, hn q h.b.lt h.nq.2⟩, h.qd, fun i hi => ⟨hs.2.1 i hi, ?_, ?_⟩, ?_⟩
 ·intro hl
  exact hn i (h.d.ll i hl) (fun hf => (h.f1 i hf).2.1 hl) hi
 ·intro hl
  exact hn i (hlt i (.inr (.inr (.inl hl)))) (fun hf => (h.f1 i hf).2.2 hl) hi
 ·rintro i (hi | hi | hi | hi)
  ·exact h.o i (.inl hi)
  ·exact h.o i (.inr (.inl hi))
  ·exact h.o i (.inr (.inr (.inl hi)))
  ·rcases hg i hi with h1 | h1
   ·exact h.o i (.inr (.inr (.inr h1)))
   ·exact .inr (Nat.le_trans h.k.size h1)
set_option maxHeartbeats 2000000 in
theorem relNext_of {nv : Value} {W : AA} {L : Bool} (w : World) (hlt : q < w.heap.size) (c3 : w.cell? ⟨q, 6, none⟩ = some nv)
  (hc : ∀ w1, Below w.heap.size w w1 → Calls Tryz.prog 80 #[nv] w1 fun e w' => ∃ s0 sl sc, e = .returned (.tuple #[W.V (.slice s0 sl sc), .bool L]) ∧ RdB w' (.slice s0 sl sc) W.b ∧ Below w1.heap.size w1 w') :
  Calls Tryz.prog 194 #[ptr q] w fun e w' => ∃ s0 sl sc, e = .returned (.tuple #[W.V (.slice s0 sl sc), .bool L]) ∧ RdB w' (.slice s0 sl sc) W.b ∧ Below w.heap.size w w' := by
 have HC := Lib.hid hc
 clear hc
 unfold ptr
 go_enter Tryz.func194, Tryz.ntmps194
 go_wp2_with fail
 refine (HC.out (w.alloc (.cells #[.int .i64 0, .int .i64 0, .int .i64 0, .int .u64 0, .int .u64 0, .slice none 0 0] 72)) ((Below.refl w.heap.size w).alloc (Nat.le_refl _) _)).mono ?_
 rintro e w1 ⟨s0, sl, sc, rfl, hr, b1⟩
 unfold AA.V
 dsimp only
 have z1 := b1.size
 simp at z1
 have A1 := Lib.hid (Blk.below (Blk.made w #[.int .i64 0, .int .i64 0, .int .i64 0, .int .u64 0, .int .u64 0, .slice none 0 0] 72) b1 (by simp))
 have B1 : Below w.heap.size w w1 := ((Below.refl w.heap.size w).alloc (Nat.le_refl _) _).trans (b1.mono (by simp))
 have y1 : w.heap.size < w1.heap.size := by omega
 have HR := Lib.hid hr
 clear b1 hr
 have a0 := A1.out.cell 0
 have a1 := A1.out.cell 1
 have a2 := A1.out.cell 2
 have a3 := A1.out.cell 3
 have a4 := A1.out.cell 4
 have a5 := A1.out.cell 5
 have e0 := A1.out.frozen 0
 have e1 := A1.out.frozen 1
 have e2 := A1.out.frozen 2
 have e3 := A1.out.frozen 3
 have e4 := A1.out.frozen 4
 have e5 := A1.out.frozen 5
 simp only [List.getElem?_toArray, List.getElem?_cons_zero, List.getElem?_cons_succ] at a0 a1 a2 a3 a4 a5
 go_wp2
 refine bodyPost_ret (v := .tuple #[W.V (.slice s0 sl sc), .bool L]) (res_aa (c := W) rfl rfl rfl (((((((A1.out.set 0 _).set 1 _).set 2 _).set 3 _).set 4 _).set 5 _))) rfl ⟨s0, sl, sc, rfl, ?_, ?_⟩
 ·refine HR.out.keep (K := (· = w.heap.size)) ?_ (fun h => HR.out.apart h A1.out rfl)
  repeat' (refine Keep.setCell (M := (· = w.heap.size)) ?_ (Or.inl (by simp)) _)
  exact Keep.refl _ _
 ·repeat' (refine Below.setCell ?_ (by simp; try omega) _)
  exact B1
theorem relNext_any (h : RelF w F q s) :
  Calls Tryz.prog 194 #[ptr q] w fun e w' => ∃ s0 sl sc, e = .returned (.tuple #[(relC.mac.want s).V (.slice s0 sl sc), .bool (relC.mac.live s)]) ∧ RdB w' (.slice s0 sl sc) (relC.mac.want s).b ∧ Below w.heap.size w w' := by
 obtain ⟨cur, t⟩ := s
 obtain ⟨a1, a2, a3, a4, L, F1, nv, ov, hb⟩ := h
 refine relNext_of w (a2 q a1) (Blk.cell hb.b 6) (fun w1 b1 => ?_)
 cases cur with
 | none =>
  have e : nv = .pointer none := hb.c
  subst e
  refine (hNext_nil w1).mono ?_
  rintro e w2 ⟨rfl, b2⟩
  exact ⟨none, 0, 0, rfl, .inl ⟨rfl, rfl⟩, b2⟩
 | some m =>
  obtain ⟨p, rfl, hs⟩ := (hb.below b1).c
  obtain ⟨hf, O, R, mv, hO, hI⟩ := hs.2.2
  have hl : m.live = true := a3 m rfl
  refine (hNext_any w1 hI).mono ?_
  rintro e w2 ⟨s0, sl, sc, rfl, hr, b2⟩
  exact ⟨s0, sl, sc, by rw [hl]; rfl, hr, b2⟩
def RelTo (w : World) (F : Nat → Prop) (q : Nat) (s : relC.mac.σ) (w' : World) : Prop := ∃ F', RelF w' F' q s ∧ (∀ i, F' i → F i ∨ w.heap.size ≤ i) ∧ Keep F w w'
theorem relTo_of {w w' : World} (hF : F q) (h : RelB w F w' q L F1 s.1 s.2 nv ov) (hf : relC.fin s) (hs : s.1 ≠ none → RelT.rm s.2) : RelTo w F q s w' :=
 ⟨fun i => (F i ∨ w.heap.size ≤ i) ∧ i < w'.heap.size, ⟨⟨.inl hF, h.b.lt⟩, fun i hi => hi.2, hf, hs, L, F1, nv, ov, h.rebase fun i h1 h2 => ⟨h2, h1⟩⟩, fun i hi => hi.1, h.k⟩
set_option maxHeartbeats 2000000 in
theorem relTake_any (x : AN) (s0 : Option Addr) (sl sc : Nat) (h : RelF w F q s) (hl : relC.mac.live s = true) (hx : AN.ok (relC.mac.want s) x) (hr : RdB w (.slice s0 sl sc) x.b) :
  Calls Tryz.prog 195 #[ptr q, .agg #[.int .u64 x.v, .bool x.d, .slice s0 sl sc]] w fun e w' => e = .returned (.tuple #[]) ∧ RelTo w F q (relC.mac.step s x) w' := by
 obtain ⟨cur, t⟩ := s
 obtain ⟨a1, a2, a3, a4, L, F1, nv, ov, hb⟩ := h
 cases cur with
 | none => cases hl
 | some m =>
  obtain ⟨p, rfl, hs⟩ := hb.c
  have hml : m.live = true := a3 m rfl
  have hxa : AN.ok m.want x := hx
  obtain ⟨hxv, hxb⟩ := hea_xan hxa
  have hlt := a2 q a1
  have c3 : w.cell? ⟨q, 6, none⟩ = some (ptr p) := Blk.cell hb.b 6
  have HB := Lib.hid hb
  have HSF := Lib.hid hs
  have H4 := Lib.hid (a4 (by simp))
  have HFQ := Lib.hid a1
  have HF1 := Lib.hid (fun i (hi : F1 i) => (hb.f1 i hi).1)
  have HNQ := Lib.hid hb.nq.2
  obtain ⟨v, hv⟩ : ∃ v, v = x.v := ⟨_, rfl⟩
  obtain ⟨d, hd⟩ : ∃ d, d = x.d := ⟨_, rfl⟩
  have HC : Hid (∀ w1, Below w.heap.size w w1 → Calls Tryz.prog 196 #[.pointer (some ⟨p, 0, none⟩), .agg #[.int .u64 v, .bool d, .slice s0 sl sc]] w1 fun e w' => e = .returned (.tuple #[]) ∧ (∃ F2, RelB w F w' q L F2 (some (m.step x)) t (ptr p) ov) ∧ Keep F1 w1 w') := Lib.hid (by
   intro w1 b1
   rw [hv, hd]
   refine (hTake_f x s0 sl sc w1 (hs.below b1) hml hxv hxb (hr.below b1)).mono ?_
   rintro e w' ⟨rfl, F', g1, g2, g3⟩
   exact ⟨rfl, ⟨F', (hb.below b1).take g1 g2 g3⟩, g3⟩)
  rw [← hv, ← hd]
  clear hb hs hml hx hxv hxb hxa hr a4 a1 a2 a3 hv hd
  unfold ptr at c3
  unfold ptr
  go_enter Tryz.func195, Tryz.ntmps195
  go_wp2_with fail
  go_region_held3 (fun w' => w'.cell? ⟨w.heap.size, 0, none⟩ = some (.int .u64 v) ∧ w'.cell? ⟨w.heap.size, 1, none⟩ = some (.bool d) ∧ w'.cell? ⟨w.heap.size, 2, none⟩ = some (.slice s0 sl sc) ∧ w'.cell? ⟨q, 6, none⟩ = some (.pointer (some ⟨p, 0, none⟩))) (first | go_keep | trivial)
   (first
    | (go_at_call 196; refine (HC.out _ (by go_grown)).mono ?_; rintro e w2 ⟨rfl, hQ, hk⟩; have hc := fun o => hk.cell (b := w.heap.size) o (by simp) (fun h => by have := HF1.out _ h; omega); have hc3 := fun o => hk.cell (b := q) o (by simp; omega) HNQ.out))
  all_goals (
   clear hc hc3
   obtain ⟨F2, hQ⟩ := hQ
   have HQ := Lib.hid hQ
   clear hQ hk
   go_wp2_with fail
   refine (relSettle_any (cur := some (m.step x)) (t := t) (t.left.toNat + 2) (by omega) (fun _ => H4.out) (HQ.out.below (by go_grown))).mono ?_
   rintro e w5 ⟨rfl, hlive, hs5, L5, F5, nv5, ov5, hB5⟩
   have HB5 := Lib.hid hB5
   have HL5 := Lib.hid hlive
   have HS5 := Lib.hid hs5
   clear hB5 hlive hs5
   go_wp2
   go_end0
   exact ⟨rfl, relTo_of (s := relC.mac.step (some m, t) x) HFQ.out HB5.out HL5.out HS5.out⟩)
theorem rel_wf (h : RelF w F q s) : (relC.mac.want s).wf := by
 obtain ⟨cur, t⟩ := s
 obtain ⟨a1, a2, a3, a4, L, F1, nv, ov, hb⟩ := h
 cases cur with
 | none => exact aaZ_wf
 | some m =>
  obtain ⟨p, _, hs⟩ := hb.c
  exact hs.2.2.1.wf
theorem relM_next (b : Nat) (w : World) : (method (Tryz.prog.types.size + Made.depth) 43 (.pointer (some ⟨b, 0, none⟩)) "Next").run Tryz.prog w = .ok (194, .pointer (some ⟨b, 0, none⟩)) w := by kernel_rfl
theorem relM_take (b : Nat) (w : World) : (method (Tryz.prog.types.size + Made.depth) 43 (.pointer (some ⟨b, 0, none⟩)) "Take").run Tryz.prog w = .ok (195, .pointer (some ⟨b, 0, none⟩)) w := by kernel_rfl
theorem relE_next (args : Array Value) (w : World) : (callFunc 194 args).run Tryz.prog w = .ok (.enter 194 args) w :=
 enters_of Tryz.func194 (by kernel_rfl) rfl args w
theorem relE_take (args : Array Value) (w : World) : (callFunc 195 args).run Tryz.prog w = .ok (.enter 195 args) w :=
 enters_of Tryz.func195 (by kernel_rfl) rfl args w
def relFam : Fam where
 M := relC.mac
 inv := fun w F q s => RelF w F q s
 ty := fun _ => 43
 fn := fun _ => 194
 ft := fun _ => 195
 mn := fun _ b w => relM_next b w
 mt := fun _ b w => relM_take b w
 en := fun _ args w => relE_next args w
 et := fun _ args w => relE_take args w
 ts := fun _ _ => rfl
 dom := fun h => ⟨h.1, h.2.1⟩
 mono := fun h k1 k2 => RelF.mono h k1 k2
 keep := fun h k hd => RelF.keep h k hd
 wf := fun {w F q s} h => rel_wf h
 next := fun {w F q s} h => relNext_any h
 take := fun {w F q s x s0 sl sc} h hl hx hr => by
  refine (relTake_any x s0 sl sc h hl hx hr).mono ?_
  rintro e w' ⟨rfl, F', g1, g2, g3⟩
  exact ⟨rfl, F', g1, g2, g3⟩
end Go.Proofs.YtggjhleomocojaaGreat
namespace Go.Proofs.YtggjhleomocojaaGreat
set_option maxRecDepth 100000
open Go.RowKit
set_option linter.unusedVariables false
set_option linter.unusedSimpArgs false
structure HsIn (w : World) (O R : Nat → Prop) (ov : Value) (out : List (Int × (Int × List Int))) : Prop where
 ex : ∃ es : List ((Int × (Int × List Int)) × Value), es.map (·.1) = out ∧ w.ownsRow 0 50 3 ov es.length (es.flatMap hsL) ∧ ∀ e ∈ es, RdB w e.2 e.1.2.2 ∧ ∀ i, e.2.ownBlock = some i → O i
 rb : ∀ i, ov.ownBlock = some i → R i
theorem qSlH (w : World) (a : Option Addr) (n c n' c' : Nat) : (binOp .eql 47 (.slice a n c) (.slice none n' c')).run Tryz.prog w = .ok (.bool a.isNone) w := Lib.run_eql_slice_nil w _ _ a n c n' c' Tryz.underlying47
theorem ones_hs : ∀ (es : List ((Int × (Int × List Int)) × Value)) (w : World), (∀ e ∈ es, RdB w e.2 e.1.2.2) → ∀ u ∈ es.flatMap hsL, u.oneCell' = true := by
 intro es w h u hu
 obtain ⟨e, he, hu⟩ := List.mem_flatMap.1 hu
 obtain ⟨a, n, c, h1⟩ := (h e he).isSl
 unfold hsL at hu
 rw [h1] at hu
 simp at hu
 rcases hu with rfl | rfl | rfl <;> rfl
theorem hsL_len (e : (Int × (Int × List Int)) × Value) : (hsL e).length = 3 := rfl
theorem hsL_flat (es : List ((Int × (Int × List Int)) × Value)) : (es.flatMap hsL).length = es.length * 3 := by
 induction es with
 | nil => rfl
 | cons x r ih => rw [List.flatMap_cons, List.length_append, ih, hsL_len, List.length_cons]; omega
theorem hs_at : ∀ (es : List ((Int × (Int × List Int)) × Value)) (k : Nat) (e : (Int × (Int × List Int)) × Value), es[k]? = some e → (es.flatMap hsL)[k * 3]? = some (.int .i64 e.1.1) ∧ (es.flatMap hsL)[k * 3 + 2]? = some e.2
 | [], k, e, h => by simp at h
 | x :: r, 0, e, h => by
  simp at h
  subst h
  exact ⟨rfl, rfl⟩
 | x :: r, k + 1, e, h => by
  obtain ⟨h1, h2⟩ := hs_at r k e (by simpa using h)
  rw [List.flatMap_cons, List.getElem?_append_right (by rw [hsL_len]; omega), List.getElem?_append_right (by rw [hsL_len]; omega), hsL_len, show (k + 1) * 3 - 3 = k * 3 by omega, show (k + 1) * 3 + 2 - 3 = k * 3 + 2 by omega]
  exact ⟨h1, h2⟩
theorem hs_set : ∀ (es : List ((Int × (Int × List Int)) × Value)) (k : Nat) (e : (Int × (Int × List Int)) × Value) (v : Value), es[k]? = some e → (es.flatMap hsL).set (k * 3 + 2) v = (es.set k (e.1, v)).flatMap hsL
 | [], k, e, _, h => by simp at h
 | x :: r, 0, e, v, h => by
  simp at h
  subst h
  rfl
 | x :: r, k + 1, e, v, h => by
  have ih := hs_set r k e v (by simpa using h)
  rw [List.flatMap_cons, List.set_append_right _ _ (by rw [hsL_len]; omega), hsL_len, show (k + 1) * 3 + 2 - 3 = k * 3 + 2 by omega, ih, List.set_cons_succ, List.flatMap_cons]
set_option maxHeartbeats 1000000 in
theorem hsClone_any {O R : Nat → Prop} {ov : Value} {out : List (Int × (Int × List Int))} (w : World) (h : HsIn w O R ov out) (hl : out.length ≤ 100000) :
  Calls Tryz.prog 41 #[ov] w fun e w' => ∃ v, e = .returned v ∧ HsIn w' O (fun i => w.heap.size ≤ i) v out ∧ Below w.heap.size w w' := by
 have q := qSlH
 obtain ⟨i0, hi, hz0, hz1, hz2⟩ := info_parts hdinfo
 obtain ⟨⟨es, he, ho, hes⟩, hr⟩ := h
 have hel : es.length ≤ 100000 := by rw [← he, List.length_map] at hl; exact hl
 have HE := Lib.hid he
 have HES := Lib.hid hes
 have HO := Lib.hid ho
 rcases ho.2 with ⟨rfl, h0⟩ | ⟨g, cap, cur, rfl, _⟩
 ·clear he hes ho
  have h1 : es = [] := List.eq_nil_of_length_eq_zero h0
  go_enter Tryz.func41, Tryz.ntmps41
  go_wp2
  go_ret
  exact ⟨_, rfl, ⟨⟨es, HE.out, by rw [h1]; exact World.ownsRow_nil _ _ _ _, HES.out⟩, fun i hi => by cases hi⟩, Below.refl _ _⟩
 ·clear he hes ho
  go_enter Tryz.func41, Tryz.ntmps41
  have b1 : Below w.heap.size w (w.alloc (.cells #[] 50)) := (Below.refl _ _).alloc (Nat.le_refl _) _
  have o1 : (w.alloc (.cells #[] 50)).ownsRow 0 50 3 (.slice (some ⟨w.heap.size, 0, none⟩) 0 0) 0 [] := ⟨by simp, .inr ⟨w.heap.size, 0, #[], rfl, Nat.zero_le _, (MapKept.heap_alloc w _).1, Nat.le_refl _, by unfold maxLen; omega, by simp, by simp⟩⟩
  have o2 := ownsRow_keep HO.out (Below.keeps (M := fun _ => False) b1) (fun _ _ => id)
  have HN := Lib.hid (show ∀ j u, (es.flatMap hsL)[j]? = some u → (w.alloc (.cells #[] 50)).cell? ⟨g, j, none⟩ = some u from by
   intro j u hu
   have hj : j < es.length * 3 := by have := (List.getElem?_eq_some_iff.1 hu).1; rwa [hsL_flat] at this
   rw [World.ownsRow.cellAt o2 j hj]
   exact hu)
  have O1 := Lib.hid o1
  have O2 := Lib.hid o2
  have B1 := Lib.hid b1
  clear o1 o2 b1
  go_wp2_with (refine list_appN rfl (.tmp 5) (.tmp 6) 47 50 rfl Tryz.underlying47 hi hz0 hz1 hz2 rfl (by decide) (.slice (some ⟨w.heap.size, 0, none⟩) 0 0) 0 [] rfl O1.out g es.length cap (es.flatMap hsL) rfl HN.out (hsL_flat es) (ones_hs es w fun e he => (HES.out e he).1) (by omega) (by unfold maxLen; omega) ?_)
  intro v' w' o3 g3 e3
  have K3 := grown_keep g3
  have kk : Keep (fun i => (Value.slice (some ⟨w.heap.size, 0, none⟩) 0 0).ownBlock = some i) w w' := (Below.keeps B1.out).trans K3
  have bb : Below w.heap.size w w' := (Below.refl w.heap.size w).trans (kk.below (B := w.heap.size) (Nat.le_refl _) (fun i hi h => by have h2 : w.heap.size = i := Option.some.inj h; omega))
  go_wp2
  go_ret
  refine ⟨v', rfl, ⟨⟨es, HE.out, by simpa using o3, fun e he => ⟨(HES.out e he).1.keepP (Below.keeps (M := fun _ => False) bb) (fun _ _ => id), (HES.out e he).2⟩⟩, fun i hi => ?_⟩, bb⟩
  show w.heap.size ≤ i
  rcases e3 with e | e
  ·rw [e] at hi
   cases hi
   exact Nat.le_refl _
  ·rw [e] at hi
   cases hi
   simp
set_option maxHeartbeats 2000000 in
theorem relHeard_at {q : Nat} {w0 : World} {O0 L F1 : Nat → Prop} {cur : Option HeaM} {t : RelT} {nv ov : Value} (w : World) (h : RelB w0 O0 w q L F1 cur t nv ov) :
  Calls Tryz.prog 15 #[ptr q] w fun e w' => ∃ v, e = .returned v ∧ HsIn w' (fun i => w.heap.size ≤ i ∧ i < w'.heap.size) (fun i => w.heap.size ≤ i) v t.heard ∧ Below w.heap.size w w' := by
 have hl : t.heard.length ≤ 100000 := by have := h.d.sm.1; omega
 obtain ⟨xs, x1, x2, x3⟩ := h.d.hd
 have MS := Lib.hid (show HsIn w L (fun i => ov.ownBlock = some i) ov t.heard from ⟨⟨xs, x1, x2, fun e he => ⟨(x3 e he).1, (x3 e he).2.2⟩⟩, fun i hi => hi⟩)
 have LO := Lib.hid h.d.ll
 have HB := Lib.hid (show ∀ x ∈ t.heard, x.2.2.length ≤ 70368744177664 from fun x hx => by
  rw [← x1] at hx
  obtain ⟨e, he, rfl⟩ := List.mem_map.1 hx
  have := (x3 e he).2.1
  omega)
 have c7 : w.cell? ⟨q, 7, none⟩ = some ov := Blk.cell h.b 7
 have hlt : q < w.heap.size := h.b.lt
 clear h x1 x2 x3
 unfold ptr
 go_enter Tryz.func15, Tryz.ntmps15
 go_wp2_with fail
 refine (hsClone_any w MS.out hl).mono ?_
 rintro e w1 ⟨v, rfl, hM, b1⟩
 have z1 := b1.size
 obtain ⟨⟨es, he, ho, hes⟩, hr⟩ := hM
 obtain ⟨va, vl, vc, rfl⟩ := own_isSl ho
 have hvl : vl = es.length := by
  rcases ho.2 with ⟨h1, h2⟩ | ⟨g, cap, cur, h1, _⟩
  ·rw [h2]; injection h1
  ·injection h1
 subst hvl
 have hel : es.length ≤ 100000 := by rw [← he, List.length_map] at hl; exact hl
 have B1 := Lib.hid b1
 have HR := Lib.hid hr
 have INV := Lib.hid (show ∃ es' : List ((Int × (Int × List Int)) × Value), es'.length = es.length ∧ es'.map (·.1) = t.heard ∧ w1.ownsRow 0 50 3 (.slice va es.length vc) es.length (es'.flatMap hsL) ∧ ∀ (j : Nat) (e : (Int × (Int × List Int)) × Value), es'[j]? = some e → RdB w1 e.2 e.1.2.2 ∧ ∀ i, e.2.ownBlock = some i → (Value.slice va es.length vc).ownBlock ≠ some i ∧ (j < 0 → w.heap.size ≤ i ∧ i < w1.heap.size) from
  ⟨es, rfl, he, ho, fun j e hj => ⟨(hes e (List.mem_of_getElem? hj)).1, fun i hi => ⟨fun h2 => by
   have h3 := LO.out i (((hes e (List.mem_of_getElem? hj)).2 i hi))
   have h4 : w.heap.size ≤ i := hr i h2
   omega, fun h0 => absurd h0 (by omega)⟩⟩⟩)
 clear he ho hes hr b1 c7
 go_wp2_with fail
 go_loopw [14] (fun i wr => ∃ k : Nat, k ≤ es.length ∧ i = .int .i64 k ∧ (∃ es' : List ((Int × (Int × List Int)) × Value), es'.length = es.length ∧ es'.map (·.1) = t.heard ∧ wr.ownsRow 0 50 3 (.slice va es.length vc) es.length (es'.flatMap hsL) ∧ ∀ (j : Nat) (e : (Int × (Int × List Int)) × Value), es'[j]? = some e → RdB wr e.2 e.1.2.2 ∧ ∀ i, e.2.ownBlock = some i → (Value.slice va es.length vc).ownBlock ≠ some i ∧ (j < k → w.heap.size ≤ i ∧ i < wr.heap.size)) ∧ Below w.heap.size w wr) (fun i _ => es.length - (intOf i).toNat)
 case atStart => exact ⟨0, by omega, rfl, INV.out, B1.out⟩
 case round =>
  obtain ⟨k, hk, rfl, ⟨es', hlen, hmap, hown, hall⟩, hB⟩ := hrel
  by_cases hlt : k < es.length
  ·obtain ⟨e, hek⟩ : ∃ e, es'[k]? = some e := ⟨_, List.getElem?_eq_getElem (by omega)⟩
   obtain ⟨hrd, hno⟩ := hall k e hek
   obtain ⟨g, cap, hg⟩ : ∃ g cap, Value.slice va es.length vc = .slice (some ⟨g, 0, none⟩) es.length cap := by
    rcases hown.2 with ⟨_, h2⟩ | ⟨g, cap, cur, h1, _⟩
    ·omega
    ·exact ⟨g, cap, h1⟩
   have hva : va = some ⟨g, 0, none⟩ := by injection hg
   have hvc : vc = cap := by injection hg
   subst hva hvc
   have hgl : w.heap.size ≤ g := HR.out g rfl
   obtain ⟨m1, m2⟩ := hs_at es' k e hek
   have hem : e.1 ∈ t.heard := by rw [← hmap]; exact List.mem_map.2 ⟨e, List.mem_of_getElem? hek, rfl⟩
   have hbl := HB.out e.1 hem
   obtain ⟨sa, sl, sc, hs⟩ := hrd.isSl
   obtain ⟨e1, e2⟩ := e
   dsimp only at hs hrd hno m1 m2 hem hbl
   subst hs
   have d1 : wr.cell? ⟨g, k * 3 + 1 + 1, none⟩ = some (.slice sa sl sc) := by rw [World.ownsRow.cellAt hown _ (by omega), m2]
   have hgw : g < wr.heap.size := World.block_lt_of_cell? _ _ d1
   have HRD := Lib.hid hrd
   have HOWN := Lib.hid hown
   have HALL := Lib.hid hall
   have HEK := Lib.hid hek
   have HMAP := Lib.hid hmap
   have HBw := Lib.hid hB
   have zB := hB.size
   clear hrd hown hall hek hmap hB hno m1 m2 hem hg
   go_wp2_with fail
   refine (clone_any _ _ _ HRD.out hbl).mono ?_
   rintro e w2 ⟨s2, rfl, o2, b2⟩
   obtain ⟨ta, tl, tc, hs2⟩ := own_isSl o2
   subst hs2
   have z2 := b2.size
   have OW := Lib.hid (ownsRow_keep HOWN.out (Below.keeps (M := fun _ => False) b2) (fun _ _ => id))
   have d2 : w2.cell? ⟨g, k * 3 + 1 + 1, none⟩ = some (.slice sa sl sc) := (b2.cell (p := ⟨g, k * 3 + 1 + 1, none⟩) hgw).trans d1
   have f2 := World.ownsRow.frozenAt OW.out (k * 3 + 1 + 1)
   have ST := Lib.hid (World.ownsRow.stored OW.out (k * 3 + 1 + 1) (.slice ta tl tc))
   have O2 := Lib.hid o2
   have B2 := Lib.hid b2
   clear o2 b2 d1
   go_wp2
   have kk : Keep (fun i => i = g) w2 (w2.setCell ⟨g, k * 3 + 1 + 1, none⟩ (.slice ta tl tc)) := Keep.setCell (M := fun i => i = g) (Keep.refl _ _) (p := ⟨g, k * 3 + 1 + 1, none⟩) (.inl rfl) _
   have K := (Below.keeps (M := fun i => i = g) B2.out).trans kk
   refine ⟨⟨k + 1, by omega, by go_num, ⟨es'.set k (e1, .slice ta tl tc), by simp [hlen], ?_, ?_, ?_⟩, ?_⟩, by simp [intOf]; omega⟩
   ·rw [List.map_set]
    have h1 : (es'.map (·.1))[k]? = some e1 := by rw [List.getElem?_map, HEK.out]; rfl
    rw [← HMAP.out]
    apply List.ext_getElem?
    intro j
    by_cases hj : k = j
    ·subst hj
     rw [List.getElem?_set_self (by simp; omega)]
     exact h1.symm
    ·rw [List.getElem?_set_ne hj]
   ·rw [← hs_set es' k (e1, .slice sa sl sc) (.slice ta tl tc) HEK.out]
    exact ST.out.1
   ·intro j e hj
    by_cases hjk : j = k
    ·subst hjk
     rw [List.getElem?_set_self (by omega)] at hj
     obtain rfl := Option.some.inj hj
     have hr2 : ∀ i, (Value.slice ta tl tc).ownBlock = some i → wr.heap.size ≤ i := fun i hi => (World.ownsRow.lt O2.out i hi).1
     refine ⟨O2.out.rd.keepP kk (fun i hi => ?_), fun i hi => ⟨fun h2 => ?_, fun _ => ?_⟩⟩
     ·have := hr2 i hi
      omega
     ·have := hr2 i hi
      have h3 : g = i := Option.some.inj h2
      omega
     ·have h8 := hr2 i hi
      have h9 := (World.ownsRow.lt O2.out i hi).2
      have h10 := kk.size
      omega
    ·rw [List.getElem?_set_ne (by omega)] at hj
     obtain ⟨a1, a2⟩ := HALL.out j e hj
     exact ⟨a1.keepP K (fun i hi h => (a2 i hi).1 (by rw [h]; rfl)), fun i hi => ⟨(a2 i hi).1, fun h => ⟨((a2 i hi).2 (by omega)).1, Nat.lt_of_lt_of_le ((a2 i hi).2 (by omega)).2 K.size⟩⟩⟩
   ·exact HBw.out.trans (K.below (B := w.heap.size) zB (fun i hi h => by omega))
  ·obtain rfl : k = es.length := by omega
   go_wp2
   go_ret
   refine ⟨_, rfl, ⟨⟨es', hmap, by rw [hlen]; exact hown, fun e he => ?_⟩, HR.out⟩, hB⟩
   obtain ⟨j, hj⟩ := List.getElem?_of_mem he
   have hjl : j < es.length := by have := (List.getElem?_eq_some_iff.1 hj).1; omega
   exact ⟨(hall j e hj).1, fun i hi => ((hall j e hj).2 i hi).2 hjl⟩
end Go.Proofs.YtggjhleomocojaaGreat
namespace Go.Proofs.YtggjhleomocojaaGreat
set_option maxRecDepth 100000
open Go.RowKit
set_option linter.unusedVariables false
set_option linter.unusedSimpArgs false
set_option maxHeartbeats 4000000 in
theorem relNew_any (b s : Int) (x : EarV) (times : Int) (w : World) (hb0 : -9223372036854775808 ≤ b) (hb1 : b ≤ 9223372036854775807) (hs0 : -9223372036854775808 ≤ s) (hs1 : s ≤ 9223372036854775807) :
  Calls Tryz.prog 14 #[.agg #[.int .i64 b, .int .i64 s], .agg #[.int .i64 x.cu, .int .i64 x.nx, .int .i64 x.la], .int .i64 times] w fun e w' => ∃ q F, e = .returned (ptr q) ∧ w.heap.size ≤ q ∧ relFam.inv w' F q (relC.start (⟨b, s, x, min times 64, [], 0⟩ : RelT)) ∧ (∀ i, F i → w.heap.size ≤ i) ∧ Below w.heap.size w w' := by
 obtain ⟨cu, nx, la⟩ := x
 dsimp only
 obtain ⟨T, hT⟩ : ∃ T, T = min times 64 := ⟨_, rfl⟩
 rw [← hT]
 have hT1 : T ≤ 64 := by omega
 have HB := Lib.hid (And.intro hb0 (And.intro hb1 (And.intro hs0 hs1)))
 have main : ∀ w3 : World, w3 = ((w.alloc (.cells #[.int .i64 b, .int .i64 s] 25)).alloc (.cells #[.int .i64 cu, .int .i64 nx, .int .i64 la] 46)).alloc (.cells #[.int .i64 b, .int .i64 s, .int .i64 cu, .int .i64 nx, .int .i64 la, .int .i64 T, .pointer none, .slice none 0 0, .int .i64 0] 127) → RelB w (fun _ => False) w3 (w.heap.size + 1 + 1) (fun _ => False) (fun _ => False) none (⟨b, s, ⟨cu, nx, la⟩, T, [], 0⟩ : RelT) (.pointer none) (.slice none 0 0) := by
  intro w3 hw3
  have bb : Below w.heap.size w w3 := by rw [hw3]; go_grown
  refine ⟨Below.keeps bb, ?_, ⟨⟨[], rfl, World.ownsRow_nil _ _ _ _, fun e he => (by cases he)⟩, fun i hi => (by cases hi), fun i hi => hi.elim, ⟨hb0, hb1⟩, ⟨hs0, hs1⟩, by show (0 : Nat) + T.toNat ≤ 1000 ∧ (0 : Int) ≤ 0 ∧ (0 : Int) + (T.toNat : Int) ≤ 1000 ∧ T ≤ 1000; omega⟩, rfl, ⟨id, id⟩, nofun, fun i hi => hi.elim, fun i hi => ?_⟩
  ·rw [hw3]
   have := Blk.made ((w.alloc (.cells #[.int .i64 b, .int .i64 s] 25)).alloc (.cells #[.int .i64 cu, .int .i64 nx, .int .i64 la] 46)) #[.int .i64 b, .int .i64 s, .int .i64 cu, .int .i64 nx, .int .i64 la, .int .i64 T, .pointer none, .slice none 0 0, .int .i64 0] 127
   have e : ((w.alloc (.cells #[.int .i64 b, .int .i64 s] 25)).alloc (.cells #[.int .i64 cu, .int .i64 nx, .int .i64 la] 46)).heap.size = w.heap.size + 1 + 1 := by simp
   rw [e] at this
   exact this
  ·rcases hi with hi | hi | hi | hi
   ·right
    omega
   ·exact hi.elim
   ·cases hi
   ·exact hi.elim
 have MAIN := Lib.hid main
 clear main hb0 hb1 hs0 hs1
 by_cases ht : times ≤ 64
 ·have e : T = times := by omega
  subst e
  clear hT
  go_enter Tryz.func14, Tryz.ntmps14
  go_wp2_with fail
  all_goals
   refine (relSettle_any (T.toNat + 2) (by show T.toNat + 1 ≤ T.toNat + 2; omega) (fun h => absurd rfl h) (MAIN.out _ rfl)).mono ?_
   rintro e w5 ⟨rfl, hlive, hs5, L5, F5, nv5, ov5, hB5⟩
   have HB5 := Lib.hid hB5
   have HL5 := Lib.hid hlive
   have HS5 := Lib.hid hs5
   clear hB5 hlive hs5
   go_wp2
   go_ret
   have hh := HB5.out
   refine ⟨w.heap.size + 1 + 1, fun i => w.heap.size ≤ i ∧ i < w5.heap.size, rfl, by omega, ⟨⟨by omega, hh.b.lt⟩, fun i hi => hi.2, HL5.out, HS5.out, L5, F5, nv5, ov5, hh.rebase fun i h1 h2 => ⟨h2.resolve_left id, h1⟩⟩, fun i hi => hi.1, hh.k.below (Nat.le_refl _) (fun i hi h => h)⟩
 ·have e : T = 64 := by omega
  subst e
  clear hT
  have ht' : ¬ times ≤ 64 := ht
  have ht2 : 64 < times := by omega
  go_enter Tryz.func14, Tryz.ntmps14
  go_wp2_with fail
  all_goals
   refine (relSettle_any ((64 : Int).toNat + 2) (by show (64 : Int).toNat + 1 ≤ (64 : Int).toNat + 2; omega) (fun h => absurd rfl h) (MAIN.out _ rfl)).mono ?_
   rintro e w5 ⟨rfl, hlive, hs5, L5, F5, nv5, ov5, hB5⟩
   have HB5 := Lib.hid hB5
   have HL5 := Lib.hid hlive
   have HS5 := Lib.hid hs5
   clear hB5 hlive hs5
   go_wp2
   go_ret
   have hh := HB5.out
   refine ⟨w.heap.size + 1 + 1, fun i => w.heap.size ≤ i ∧ i < w5.heap.size, rfl, by omega, ⟨⟨by omega, hh.b.lt⟩, fun i hi => hi.2, HL5.out, HS5.out, L5, F5, nv5, ov5, hh.rebase fun i h1 h2 => ⟨h2.resolve_left id, h1⟩⟩, fun i hi => hi.1, hh.k.below (Nat.le_refl _) (fun i hi h => h)⟩
set_option maxHeartbeats 1000000 in
theorem relState_any {q : Nat} {w0 : World} {O0 L F1 : Nat → Prop} {cur : Option HeaM} {t : RelT} {nv ov : Value} (w : World) (h : RelB w0 O0 w q L F1 cur t nv ov) :
  Calls Tryz.prog 17 #[ptr q] w fun e w' => e = .returned (.agg #[.int .i64 t.ear.cu, .int .i64 t.ear.nx, .int .i64 t.ear.la]) ∧ Below w.heap.size w w' := by
 have c2 : w.cell? ⟨q, 2, none⟩ = some (.int .i64 t.ear.cu) := Blk.cell h.b 2
 have c3 : w.cell? ⟨q, 3, none⟩ = some (.int .i64 t.ear.nx) := Blk.cell h.b 3
 have c4 : w.cell? ⟨q, 4, none⟩ = some (.int .i64 t.ear.la) := Blk.cell h.b 4
 have hlt : q < w.heap.size := h.b.lt
 clear h
 unfold ptr
 go_enter Tryz.func17, Tryz.ntmps17
 go_wp2
 refine bodyPost_ret (v := .agg #[.int .i64 t.ear.cu, .int .i64 t.ear.nx, .int .i64 t.ear.la]) (res_ear rfl rfl (Blk.made w _ _)) rfl ⟨rfl, by go_grown⟩
set_option maxHeartbeats 1000000 in
theorem relLosses_any {q : Nat} {w0 : World} {O0 L F1 : Nat → Prop} {cur : Option HeaM} {t : RelT} {nv ov : Value} (w : World) (h : RelB w0 O0 w q L F1 cur t nv ov) :
  Calls Tryz.prog 16 #[ptr q] w fun e w' => e = .returned (.int .i64 t.losses) ∧ w = w' := by
 have c8 : w.cell? ⟨q, 8, none⟩ = some (.int .i64 t.losses) := Blk.cell h.b 8
 have hlt : q < w.heap.size := h.b.lt
 clear h
 unfold ptr
 go_enter Tryz.func16, Tryz.ntmps16
 go_wp2
 go_ret
 exact ⟨rfl, rfl⟩
end Go.Proofs.YtggjhleomocojaaGreat
