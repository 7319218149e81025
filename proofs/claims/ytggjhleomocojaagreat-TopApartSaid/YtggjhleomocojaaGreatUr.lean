/- ring.Fill. Conditions: as each says. ring.Filler: Done, Places. Conditions: as each says. -/
import Derived.Test.YtggjhleomocojaaGreatYw
import Derived.Test.YtggjhleomocojaaGreatDs
import Derived.Test.YtggjhleomocojaaGreatDd
import Derived.Test.YtggjhleomocojaaGreatNv
import Derived.Test.YtggjhleomocojaaGreatQb
import Derived.Test.YtggjhleomocojaaGreatGp
import Derived.Lib.SlBytesConst
import Derived.Test.YtggjhleomocojaaGreatOy
import Derived.Test.YtggjhleomocojaaGreatVs
import Derived.Test.YtggjhleomocojaaGreatUo
section
namespace Go.Proofs.YtggjhleomocojaaGreat
set_option maxRecDepth 100000
open Go.RowKit
set_option linter.unusedVariables false
set_option linter.unusedSimpArgs false
structure FilN (w0 w : World) (q : Nat) (b s T : Int) (out : List (Int × List Int)) (ov : Value) : Prop where
 blk : Blk w q [.pointer none, .nilFunc, .nilFunc, .bool false, .int .i64 b, .int .i64 s, ov, .int .i64 T, .slice none 0 0, .slice none 0 0]
 ms : ∃ O R, MsIn w O R ov out ∧ (∀ i, O i ∨ R i → q < i ∧ i < w.heap.size) ∧ ∀ i, O i → ¬ R i
 lo : w0.heap.size ≤ q
 bel : Below w0.heap.size w0 w
theorem FilN.step {w0 wr w3 : World} {q B : Nat} {b s T : Int} {out out' : List (Int × List Int)} {ov v3 : Value} {O R O2 : Nat → Prop} (h : FilN w0 wr q b s T out ov) (k3 : Keep R wr w3) (ms : MsIn w3 (fun i => O i ∨ O2 i) (fun i => R i ∨ (B ≤ i ∧ i < w3.heap.size)) v3 out') (hor : ∀ i, O i ∨ R i → q < i ∧ i < wr.heap.size) (hdj : ∀ i, O i → ¬ R i)
  (h2 : ∀ i, O2 i → wr.heap.size ≤ i ∧ i < B) (hB : wr.heap.size ≤ B) (hB3 : B ≤ w3.heap.size) : FilN w0 (w3.setCell ⟨q, 6, none⟩ v3) q b s T out' v3 := by
 have lq := h.blk.lt
 have nq : ¬ R q := fun h => Nat.lt_irrefl _ (hor _ (.inr h)).1
 have ks : Keep (· = q) w3 (w3.setCell ⟨q, 6, none⟩ v3) := Keep.setCell (M := (· = q)) (Keep.refl _ w3) (p := ⟨q, 6, none⟩) (.inl rfl) v3
 have z3 := k3.size
 have zs := ks.size
 refine ⟨(h.blk.keep k3 nq).set 6 v3, ⟨_, _, ms.keep ks ?_ ?_, ?_, ?_⟩, h.lo, (h.bel.trans (k3.below h.bel.size (fun i hi hr => by have := hor i (.inr hr); have := h.lo; omega))).setCell h.lo _⟩
 ·rintro i (hi | hi) e
  ·have := hor i (.inl hi)
   have e : i = q := e
   omega
  ·have := h2 i hi
   have e : i = q := e
   omega
 ·rintro i (hi | hi) e
  ·have := hor i (.inr hi)
   have e : i = q := e
   omega
  ·have e : i = q := e
   omega
 ·rintro i ((hi | hi) | (hi | hi))
  ·have := hor i (.inl hi)
   omega
  ·have := h2 i hi
   omega
  ·have := hor i (.inr hi)
   omega
  ·omega
 ·rintro i (hi | hi) (hr | hr)
  ·exact hdj i hi hr
  ·have := hor i (.inl hi)
   omega
  ·have := h2 i hi
   have := hor i (.inr hr)
   omega
  ·have := h2 i hi
   omega
theorem FilN.own {w0 w : World} {q : Nat} {b s T : Int} {out : List (Int × List Int)} {ov : Value} (h : FilN w0 w q b s T out ov) (hb : ∀ x ∈ out, IsB x.2 ∧ x.2.length ≤ 70368744177664) (hl : out.length ≤ 64) (hbb : -9223372036854775808 ≤ b ∧ b ≤ 9223372036854775807) (hbs : -9223372036854775808 ≤ s ∧ s ≤ 9223372036854775807) (hT : 0 ≤ T ∧ T ≤ 9223372036854775807) :
  filK.P ((w.setCell ⟨q, 1, none⟩ (.func (.func 47) #[.pointer (some ⟨q, 0, none⟩)] #[])).setCell ⟨q, 2, none⟩ (.func (.func 48) #[.pointer (some ⟨q, 0, none⟩)] #[])) q (fun i => q ≤ i ∧ i < w.heap.size) none (⟨b, s, out, T, [], []⟩ : FilT) := by
 obtain ⟨O, R, ms, hor, hdj⟩ := h.ms
 have lq := h.blk.lt
 have ks : Keep (fun i => i = q) w ((w.setCell ⟨q, 1, none⟩ (.func (.func 47) #[.pointer (some ⟨q, 0, none⟩)] #[])).setCell ⟨q, 2, none⟩ (.func (.func 48) #[.pointer (some ⟨q, 0, none⟩)] #[])) := ((Keep.refl (fun i => i = q) w).setCell (p := ⟨q, 1, none⟩) (.inl rfl) _).setCell (p := ⟨q, 2, none⟩) (.inl rfl) _
 have ms2 := ms.keep ks (fun i hi e => by have := hor i (.inl hi); omega) (fun i hi e => by have := hor i (.inr hi); omega)
 have zs := ks.size
 refine ⟨fun i => O i ∨ R i, fun _ => False, .pointer none, ov, .slice none 0 0, .slice none 0 0, ⟨(h.blk.set 1 _).set 2 _, ?_, rfl, ⟨fun hh => by have := hor q hh; omega, id⟩, ⟨nofun, nofun⟩, fun i hi => hi.elim⟩, ?_, fun i hi => by omega⟩
 ·exact ⟨ms2.rdms (fun i hi => by have := hor i (.inr hi); omega), World.ownsRow_nil _ _ _ _, World.ownsRow_nil _ _ _ _, fun i hi => (nomatch hi), fun i hi => (nomatch hi), fun i hi => by have := hor i hi; omega, hb, hbb, hbs, hT, ⟨by show 0 + out.length ≤ _; omega, Nat.le_refl _⟩⟩
 ·rintro i (hi | hi | hi | hi | hi)
  ·omega
  ·have := hor i hi
   omega
  ·cases hi
  ·cases hi
  ·exact hi.elim
theorem RdMs.below {w w' : World} {L : Nat → Prop} {v : Value} {l : List (Int × List Int)} (h : RdMs w L v l) (b : Below w.heap.size w w') : RdMs w' L v l := h.keep (K := fun _ => False) (Below.keeps b) (fun _ _ => id)
theorem RdMs.at_ {w : World} {L : Nat → Prop} {a : Option Addr} {n c : Nat} {l : List (Int × List Int)} (h : RdMs w L (.slice a n c) l) {k : Nat} {x : Int × List Int} (hx : l[k]? = some x) : ∃ g off s0 sl sc, a = some ⟨g, off, none⟩ ∧ g < w.heap.size ∧ w.cell? ⟨g, off + k * 2, none⟩ = some (.int .i32 x.1) ∧ w.cell? ⟨g, off + k * 2 + 1, none⟩ = some (.slice s0 sl sc) ∧ RdB w (.slice s0 sl sc) x.2 := by
 rcases h with ⟨_, _, _, rfl, _⟩ | ⟨g, off, cap, e1, e2, e3, e4, e5, e6⟩
 ·cases hx
 ·obtain ⟨s0, sl, sc, h1, h2, h3, _⟩ := e6 k x hx
  cases e1
  exact ⟨g, off, s0, sl, sc, rfl, e5, h1, h2, h3⟩
set_option maxHeartbeats 4000000 in
theorem filNew_any (b s tr : Int) (lv : Value) (l : List (Int × List Int)) (L0 : Nat → Prop) (w : World) (hr : RdMs w L0 lv l) (hb : ∀ x ∈ l, IsB x.2 ∧ x.2.length ≤ 70368744177664) (hb0 : -9223372036854775808 ≤ b) (hb1 : b ≤ 9223372036854775807) (hs0 : -9223372036854775808 ≤ s) (hs1 : s ≤ 9223372036854775807) (ht1 : tr ≤ 9223372036854775807) :
  Calls Tryz.prog 21 #[.agg #[.int .i64 b, .int .i64 s], lv, .int .i64 tr] w fun e w' => ∃ q F, e = .returned (ptr q) ∧ w.heap.size ≤ q ∧ filFam.inv w' F q (filC.start ⟨b, s, l.take 64, max tr 0, [], []⟩) ∧ (∀ i, F i → w.heap.size ≤ i) ∧ Below w.heap.size w w' := by
 have HR := Lib.hid hr
 have HB := Lib.hid hb
 obtain ⟨la, lc, rfl, hlc, hlm⟩ := hr.sl
 have HLC := Lib.hid hlc
 obtain ⟨N, hN⟩ : ∃ N, N = min l.length 64 := ⟨_, rfl⟩
 have HN := Lib.hid hN
 obtain ⟨ln, hln⟩ : ∃ ln, ln = l.length := ⟨_, rfl⟩
 have HLN := Lib.hid hln
 rw [← hln] at hlc hN ⊢
 obtain ⟨T, hT⟩ : ∃ T, T = max tr 0 := ⟨_, rfl⟩
 rw [← hT]
 have HTT := Lib.hid hT
 have HNN := Lib.hid hN
 clear hr hb hln hT hN
 go_enter Tryz.func21, Tryz.ntmps21
 go_upto_region 1 with fail
 go_cut [7] from 10 to 14 (fun f wx => f = .pointer (some ⟨w.heap.size + 1, 0, none⟩) ∧ FilN w wx (w.heap.size + 1) b s T [] (.slice none 0 0))
 case first =>
  by_cases h0 : tr < 0
  ·obtain rfl : T = 0 := by have := HTT.out; omega
   go_wp2_with fail
   all_goals (go_meet; refine ⟨rfl, ?_, ⟨fun _ => False, fun _ => False, MsIn.none2 _ _ _, fun i h => h.elim False.elim False.elim, fun i h => h.elim⟩, by omega, by go_grown⟩; have := Blk.made (w.alloc (Obj.cells #[.int .i64 b, .int .i64 s] 25)) #[.pointer none, .nilFunc, .nilFunc, .bool false, .int .i64 b, .int .i64 s, .slice none 0 0, .int .i64 0, .slice none 0 0, .slice none 0 0] 145; simpa using this)
  ·obtain rfl : tr = T := by have := HTT.out; omega
   go_wp2_with fail
   all_goals (go_meet; refine ⟨rfl, ?_, ⟨fun _ => False, fun _ => False, MsIn.none2 _ _ _, fun i h => h.elim False.elim False.elim, fun i h => h.elim⟩, by omega, by go_grown⟩; have := Blk.made (w.alloc (Obj.cells #[.int .i64 b, .int .i64 s] 25)) #[.pointer none, .nilFunc, .nilFunc, .bool false, .int .i64 b, .int .i64 s, .slice none 0 0, .int .i64 tr, .slice none 0 0, .slice none 0 0] 145; simpa using this)
 case rest =>
  obtain ⟨rfl, hfn⟩ := hcut
  have HFN := Lib.hid hfn
  clear hfn
  go_upto_region 2 with fail
  go_cut [19, 20, 21] from 15 to 21 (fun v n i wx => v = .slice la N lc ∧ n = .int .i64 N ∧ i = .int .i64 0 ∧ wx = wc)
  case first =>
   by_cases h6 : ln ≤ 64
   ·obtain rfl : ln = N := by have := HNN.out; omega
    have h7 : (ln : Int) ≤ 64 := by omega
    have h8 : (ln : Int) ≤ lc := by omega
    have h9 : ¬ (64 : Int) < ln := by omega
    by_cases h10 : ln = 64
    ·subst h10
     go_wp2_with fail
     all_goals (go_meet; exact ⟨rfl, rfl, rfl, rfl⟩)
    ·have h11 : (ln : Int) < 64 := by omega
     go_wp2_with fail
     all_goals (go_meet; exact ⟨rfl, rfl, rfl, rfl⟩)
   ·obtain rfl : N = 64 := by have := HNN.out; omega
    have h7 : ¬ (ln : Int) < 64 := by omega
    have h10 : ¬ (ln : Int) ≤ 64 := by omega
    have h9 : (64 : Int) < ln := by omega
    have h8 : (64 : Int) ≤ lc := by omega
    go_wp2_with fail
    all_goals (go_meet; exact ⟨rfl, rfl, rfl, rfl⟩)
  case rest =>
   obtain ⟨rfl, rfl, rfl, rfl⟩ := hcut
   go_wp2_with fail
   go_loopg [21] (N + 1) (fun gk i wr => ∃ (k : Nat) (ov : Value), gk + k = N + 1 ∧ k ≤ N ∧ i = .int .i64 k ∧ FilN w wr (w.heap.size + 1) b s T (l.take k) ov)
   case atStart => exact ⟨0, .slice none 0 0, by omega, by omega, rfl, by simpa using HFN.out⟩
   case round =>
    obtain ⟨k, ov, hgk, hkN, rfl, hF⟩ := hrel
    have HF := Lib.hid hF
    have HGK := Lib.hid hgk
    have hNl : N ≤ l.length := by have := HN.out; omega
    have HNL := Lib.hid hNl
    have hN64 : N ≤ 64 := by have := HN.out; omega
    have HN64 := Lib.hid hN64
    have W1 : IntKind.i64.wrap ((k : Int) + 1) = (k : Int) + 1 := IntWalk.i64_in _ ⟨by omega, by omega⟩
    have zr := hF.bel.size
    have lq := hF.blk.lt
    clear hF hgk hNl hN64
    by_cases hkl : k < N
    ·obtain ⟨x, hx⟩ : ∃ x, l[k]? = some x := ⟨_, List.getElem?_eq_getElem (by have := HNL.out; omega)⟩
     have HX := Lib.hid hx
     have hki : (k : Int) < (N : Int) := by omega
     obtain ⟨g, off, sa, sl, sc, rfl, hg, m0, m1, hrd⟩ := (HR.out.below (w' := wr) (HF.out.bel)).at_ hx
     have RX := Lib.hid hrd
     have HXB := Lib.hid (HB.out x (List.mem_of_getElem? hx))
     obtain ⟨O, R, hms, hor, hdj⟩ := HF.out.ms
     have HMS := Lib.hid hms
     have HOR := Lib.hid hor
     have HDJ := Lib.hid hdj
     obtain ⟨va0, vc0, rfl⟩ := hms.sl
     have HFL : Hid ((l.take k).length = k) := Lib.hid (by rw [List.length_take]; have := HNL.out; omega)
     have c6 : wr.cell? ⟨w.heap.size + 1, 6, none⟩ = some (.slice va0 (l.take k).length vc0) := Blk.cell HF.out.blk 6
     have f6 : wr.frozen? ⟨w.heap.size + 1, 6, none⟩ = false := HF.out.blk.frozen 6
     rw [HFL.out] at c6
     rw [HFL.out] at hms
     have HMS := Lib.hid hms
     have HNR : Hid (¬ R (w.heap.size + 1)) := Lib.hid (fun h => Nat.lt_irrefl _ (hor _ (.inr h)).1)
     have HTK : Hid (l.take (k + 1) = l.take k ++ [(x.1, x.2)]) := Lib.hid (by rw [List.take_add_one, hx]; rfl)
     clear hx hrd hms hor hdj
     go_upto_region 5 with fail
     refine wp_region_held_drew (S := (fun w' => w'.cell? ⟨wr.heap.size, 0, none⟩ = some (.int .i32 x.1) ∧ w'.cell? ⟨wr.heap.size, 1, none⟩ = some (.slice sa sl sc))) (by kernel_rfl) ?_ (fun hHeld => ?_)
     ·try dsimp only
      go_keep
     refine wpT 0 rfl ?_
     try simp only [Act.put, tS]
     refine wpT 1 rfl ?_
     try simp only [Act.put, tS]
     refine wpT 2 rfl ?_
     try simp only [Act.put, tS]
     refine wpT 3 rfl ?_
     try simp only [Act.put, tS]
     refine wpT 5 rfl ?_
     try simp only [Act.put, tS]
     refine wpT 6 rfl ?_
     try simp only [Act.put, tS]
     refine wpT 7 rfl ?_
     try simp only [Act.put, tS]
     refine wpT 8 rfl ?_
     try simp only [Act.put, tS]
     refine wpAnyH_ready (rs := [4, 9]) (by kernel_rfl) (by simp) ?_
     refine AllReadyH.cons rfl (fun K hK => ?_) (AllReadyH.cons rfl (fun K hK => ?_) AllReadyH.nil)
     ·go_simp
      refine hK.out _ _ ?_ (fun hHeld => ?_)
      ·try dsimp only
       go_keep
      clear hK K
      try simp only [Act.put, tS]
      refine wpR 9 rfl fun K hK => ?_
      go_simp
      refine (clone_any _ x.2 _ (RX.out.below (by go_grown)) (by have := HXB.out.2; omega)).mono ?_
      rintro e w2 ⟨sv, rfl, ho2, b2⟩
      obtain ⟨va, vn, vc, rfl⟩ := own_isSl ho2
      have HO2 := Lib.hid ho2
      have HO2L : Hid (∀ i, (Value.slice va vn vc).ownBlock = some i → wr.heap.size ≤ i ∧ i < w2.heap.size) := Lib.hid (fun i hi => by have := World.ownsRow.lt ho2 i hi; simp at this; omega)
      have HD3 : Hid (∀ i, O i ∨ (Value.slice va vn vc).ownBlock = some i → ¬ R i) := Lib.hid (fun i hi h => by rcases hi with hi | hi; exact HDJ.out i hi h; have h1 := HO2L.out i hi; have h2 := HOR.out i (.inr h); omega)
      have B2 : Hid (Below wr.heap.size wr w2) := Lib.hid ((by go_grown : Below wr.heap.size wr _).trans (b2.mono (by simp)))
      have z2 := b2.size
      simp at z2
      have lq2 : w.heap.size + 1 < w2.heap.size := by omega
      have c62 := (B2.out.cell (p := ⟨w.heap.size + 1, 6, none⟩) lq).trans c6
      have HM2 : Hid (w2.cell? ⟨wr.heap.size, 0, none⟩ = some (.int .i32 x.1) ∧ w2.cell? ⟨wr.heap.size, 1, none⟩ = some (.slice sa sl sc)) := Lib.hid ⟨(b2.cell (p := ⟨wr.heap.size, 0, none⟩) (by simp)).trans hHeld.1, (b2.cell (p := ⟨wr.heap.size, 1, none⟩) (by simp)).trans hHeld.2⟩
      clear ho2 b2
      go_wp2_with fail
      refine hK.out _ _ ?_ (fun hHeld => ?_)
      ·try dsimp only
       exact HM2.out
      clear hK K
      try simp only [Act.put, tS]
      refine wpT 10 rfl ?_
      try simp only [Act.put, tS]
      refine wpR 11 rfl fun K hK => ?_
      go_simp
      refine hK.out _ _ ?_ (fun hHeld => ?_)
      ·try dsimp only
       go_keep
      clear hK K
      try simp only [Act.put, tS]
      refine wpR 12 rfl fun K hK => ?_
      have hnew := Lib.hid (Blk.made w2 #[.int .i32 x.1, .slice va vn vc] 34)
      have B3 : Hid (Below wr.heap.size wr (w2.alloc (Obj.cells #[.int .i32 x.1, .slice va vn vc] 34))) := Lib.hid (B2.out.trans ((Below.refl w2.heap.size w2).alloc (Nat.le_refl _) _ |>.mono (by omega)))
      have b4 : Below w2.heap.size w2 (w2.alloc (Obj.cells #[.int .i32 x.1, .slice va vn vc] 34)) := (Below.refl w2.heap.size w2).alloc (Nat.le_refl _) _
      have HMS3 := Lib.hid (HMS.out.keep (Below.keeps (M := fun _ => False) B3.out) (fun _ _ => id) (fun _ _ => id))
      refine step_appMs1 (by rfl) _ _ (by rfl) (O := O) (R := R) (O2 := fun i => (Value.slice va vn vc).ownBlock = some i) (v := .slice va0 k vc0) (dv := .slice va vn vc) (l := l.take k) (t := x.1) (d := x.2) (by rfl) w2.heap.size (by rfl) hnew.out HMS3.out (HO2.out.rd.below b4) (fun i hi => hi) (by have := HFL.out; have := HN64.out; omega) HD3.out ?_
      intro v3 w3 ms3 k3
      have z3 := k3.size
      simp only [World.size_alloc] at z3
      obtain ⟨xa, xn, xc, rfl⟩ : ∃ a n c, v3 = .slice a n c := by obtain ⟨a, c, e⟩ := ms3.sl; exact ⟨_, _, _, e⟩
      have K3 : Hid (Keep R wr w3) := Lib.hid ((Below.keeps (M := R) B3.out).trans k3)
      have MS3 := Lib.hid ms3
      have c63 := (K3.out.cell (b := w.heap.size + 1) 6 lq HNR.out).trans c6
      have f63 := (K3.out.frozen (b := w.heap.size + 1) 6 lq HNR.out).trans f6
      have hs3 : (fun w' : World => w'.cell? ⟨wr.heap.size, 0, none⟩ = some (.int .i32 x.1) ∧ w'.cell? ⟨wr.heap.size, 1, none⟩ = some (.slice sa sl sc)) w3 := ⟨(k3.cell (b := wr.heap.size) 0 (by simp; omega) (fun h => by have := HOR.out _ (.inr h); omega)).trans ((b4.cell (p := ⟨wr.heap.size, 0, none⟩) (by show wr.heap.size < w2.heap.size; omega)).trans HM2.out.1), (k3.cell (b := wr.heap.size) 1 (by simp; omega) (fun h => by have := HOR.out _ (.inr h); omega)).trans ((b4.cell (p := ⟨wr.heap.size, 1, none⟩) (by show wr.heap.size < w2.heap.size; omega)).trans HM2.out.2)⟩
      have HS3 := Lib.hid hs3
      have HKS := Lib.hid (Keep.setCell (M := (· = w.heap.size + 1)) (Keep.refl _ w3) (p := ⟨w.heap.size + 1, 6, none⟩) (.inl rfl) (.slice xa xn xc))
      clear k3 ms3 hs3
      refine hK.out _ _ ?_ (fun hHeld => ?_)
      ·try dsimp only
       exact HS3.out
      clear hK K
      try simp only [Act.put, tS]
      refine wpT 13 rfl ?_
      try simp only [Act.put, tS]
      refine wpT 14 rfl ?_
      try simp only [Act.put, tS]
      refine wpR 15 rfl fun K hK => ?_
      go_simp
      refine hK.out _ _ ?_ (fun hHeld => ?_)
      ·try dsimp only
       exact ⟨(HKS.out.cell (b := wr.heap.size) 0 (by omega) (by omega)).trans HS3.out.1, (HKS.out.cell (b := wr.heap.size) 1 (by omega) (by omega)).trans HS3.out.2⟩
      clear hK K
      try simp only [Act.put, tS]
      refine wpAnyH_done (by kernel_rfl) ?_ _
      clear hHeld
      have HFE := Lib.hid (HF.out.step K3.out MS3.out HOR.out HDJ.out (fun i hi => by have := HO2L.out i hi; simp; omega) (by simp; omega) (by simp; omega))
      go_wp2_with fail
      have hn64 := HN64.out
      go_roundg (N - k)
      case measure => have := HGK.out; omega
      case rel => exact ⟨k + 1, _, by omega, by omega, by go_num, by rw [HTK.out]; exact HFE.out⟩
     ·go_simp
      refine (clone_any _ x.2 _ (RX.out.below (by go_grown)) (by have := HXB.out.2; omega)).mono ?_
      rintro e w2 ⟨sv, rfl, ho2, b2⟩
      obtain ⟨va, vn, vc, rfl⟩ := own_isSl ho2
      have HO2 := Lib.hid ho2
      have HO2L : Hid (∀ i, (Value.slice va vn vc).ownBlock = some i → wr.heap.size ≤ i ∧ i < w2.heap.size) := Lib.hid (fun i hi => by have := World.ownsRow.lt ho2 i hi; simp at this; omega)
      have HD3 : Hid (∀ i, O i ∨ (Value.slice va vn vc).ownBlock = some i → ¬ R i) := Lib.hid (fun i hi h => by rcases hi with hi | hi; exact HDJ.out i hi h; have h1 := HO2L.out i hi; have h2 := HOR.out i (.inr h); omega)
      have B2 : Hid (Below wr.heap.size wr w2) := Lib.hid ((by go_grown : Below wr.heap.size wr _).trans (b2.mono (by simp)))
      have z2 := b2.size
      simp at z2
      have lq2 : w.heap.size + 1 < w2.heap.size := by omega
      have c62 := (B2.out.cell (p := ⟨w.heap.size + 1, 6, none⟩) lq).trans c6
      have HM2 : Hid (w2.cell? ⟨wr.heap.size, 0, none⟩ = some (.int .i32 x.1) ∧ w2.cell? ⟨wr.heap.size, 1, none⟩ = some (.slice sa sl sc)) := Lib.hid ⟨(b2.cell (p := ⟨wr.heap.size, 0, none⟩) (by simp)).trans hHeld.1, (b2.cell (p := ⟨wr.heap.size, 1, none⟩) (by simp)).trans hHeld.2⟩
      clear ho2 b2
      go_wp2_with fail
      refine hK.out _ _ ?_ (fun hHeld => ?_)
      ·try dsimp only
       exact HM2.out
      clear hK K
      try simp only [Act.put, tS]
      refine wpT 10 rfl ?_
      try simp only [Act.put, tS]
      refine wpAnyH_ready (rs := [4, 11]) (by kernel_rfl) (by simp) ?_
      refine AllReadyH.cons rfl (fun K hK => ?_) (AllReadyH.cons rfl (fun K hK => ?_) AllReadyH.nil)
      ·go_simp
       refine hK.out _ _ ?_ (fun hHeld => ?_)
       ·try dsimp only
        exact HM2.out
       clear hK K
       try simp only [Act.put, tS]
       refine wpR 11 rfl fun K hK => ?_
       go_simp
       refine hK.out _ _ ?_ (fun hHeld => ?_)
       ·try dsimp only
        go_keep
       clear hK K
       try simp only [Act.put, tS]
       refine wpR 12 rfl fun K hK => ?_
       have hnew := Lib.hid (Blk.made w2 #[.int .i32 x.1, .slice va vn vc] 34)
       have B3 : Hid (Below wr.heap.size wr (w2.alloc (Obj.cells #[.int .i32 x.1, .slice va vn vc] 34))) := Lib.hid (B2.out.trans ((Below.refl w2.heap.size w2).alloc (Nat.le_refl _) _ |>.mono (by omega)))
       have b4 : Below w2.heap.size w2 (w2.alloc (Obj.cells #[.int .i32 x.1, .slice va vn vc] 34)) := (Below.refl w2.heap.size w2).alloc (Nat.le_refl _) _
       have HMS3 := Lib.hid (HMS.out.keep (Below.keeps (M := fun _ => False) B3.out) (fun _ _ => id) (fun _ _ => id))
       refine step_appMs1 (by rfl) _ _ (by rfl) (O := O) (R := R) (O2 := fun i => (Value.slice va vn vc).ownBlock = some i) (v := .slice va0 k vc0) (dv := .slice va vn vc) (l := l.take k) (t := x.1) (d := x.2) (by rfl) w2.heap.size (by rfl) hnew.out HMS3.out (HO2.out.rd.below b4) (fun i hi => hi) (by have := HFL.out; have := HN64.out; omega) HD3.out ?_
       intro v3 w3 ms3 k3
       have z3 := k3.size
       simp only [World.size_alloc] at z3
       obtain ⟨xa, xn, xc, rfl⟩ : ∃ a n c, v3 = .slice a n c := by obtain ⟨a, c, e⟩ := ms3.sl; exact ⟨_, _, _, e⟩
       have K3 : Hid (Keep R wr w3) := Lib.hid ((Below.keeps (M := R) B3.out).trans k3)
       have MS3 := Lib.hid ms3
       have c63 := (K3.out.cell (b := w.heap.size + 1) 6 lq HNR.out).trans c6
       have f63 := (K3.out.frozen (b := w.heap.size + 1) 6 lq HNR.out).trans f6
       have hs3 : (fun w' : World => w'.cell? ⟨wr.heap.size, 0, none⟩ = some (.int .i32 x.1) ∧ w'.cell? ⟨wr.heap.size, 1, none⟩ = some (.slice sa sl sc)) w3 := ⟨(k3.cell (b := wr.heap.size) 0 (by simp; omega) (fun h => by have := HOR.out _ (.inr h); omega)).trans ((b4.cell (p := ⟨wr.heap.size, 0, none⟩) (by show wr.heap.size < w2.heap.size; omega)).trans HM2.out.1), (k3.cell (b := wr.heap.size) 1 (by simp; omega) (fun h => by have := HOR.out _ (.inr h); omega)).trans ((b4.cell (p := ⟨wr.heap.size, 1, none⟩) (by show wr.heap.size < w2.heap.size; omega)).trans HM2.out.2)⟩
       have HS3 := Lib.hid hs3
       have HKS := Lib.hid (Keep.setCell (M := (· = w.heap.size + 1)) (Keep.refl _ w3) (p := ⟨w.heap.size + 1, 6, none⟩) (.inl rfl) (.slice xa xn xc))
       clear k3 ms3 hs3
       refine hK.out _ _ ?_ (fun hHeld => ?_)
       ·try dsimp only
        exact HS3.out
       clear hK K
       try simp only [Act.put, tS]
       refine wpT 13 rfl ?_
       try simp only [Act.put, tS]
       refine wpT 14 rfl ?_
       try simp only [Act.put, tS]
       refine wpR 15 rfl fun K hK => ?_
       go_simp
       refine hK.out _ _ ?_ (fun hHeld => ?_)
       ·try dsimp only
        exact ⟨(HKS.out.cell (b := wr.heap.size) 0 (by omega) (by omega)).trans HS3.out.1, (HKS.out.cell (b := wr.heap.size) 1 (by omega) (by omega)).trans HS3.out.2⟩
       clear hK K
       try simp only [Act.put, tS]
       refine wpAnyH_done (by kernel_rfl) ?_ _
       clear hHeld
       have HFE := Lib.hid (HF.out.step K3.out MS3.out HOR.out HDJ.out (fun i hi => by have := HO2L.out i hi; simp; omega) (by simp; omega) (by simp; omega))
       go_wp2_with fail
       have hn64 := HN64.out
       go_roundg (N - k)
       case measure => have := HGK.out; omega
       case rel => exact ⟨k + 1, _, by omega, by omega, by go_num, by rw [HTK.out]; exact HFE.out⟩
      ·go_simp
       refine hK.out _ _ ?_ (fun hHeld => ?_)
       ·try dsimp only
        go_keep
       clear hK K
       try simp only [Act.put, tS]
       refine wpR 4 rfl fun K hK => ?_
       go_simp
       refine hK.out _ _ ?_ (fun hHeld => ?_)
       ·try dsimp only
        go_keep
       clear hK K
       try simp only [Act.put, tS]
       refine wpR 12 rfl fun K hK => ?_
       have hnew := Lib.hid (Blk.made w2 #[.int .i32 x.1, .slice va vn vc] 34)
       have B3 : Hid (Below wr.heap.size wr (w2.alloc (Obj.cells #[.int .i32 x.1, .slice va vn vc] 34))) := Lib.hid (B2.out.trans ((Below.refl w2.heap.size w2).alloc (Nat.le_refl _) _ |>.mono (by omega)))
       have b4 : Below w2.heap.size w2 (w2.alloc (Obj.cells #[.int .i32 x.1, .slice va vn vc] 34)) := (Below.refl w2.heap.size w2).alloc (Nat.le_refl _) _
       have HMS3 := Lib.hid (HMS.out.keep (Below.keeps (M := fun _ => False) B3.out) (fun _ _ => id) (fun _ _ => id))
       refine step_appMs1 (by rfl) _ _ (by rfl) (O := O) (R := R) (O2 := fun i => (Value.slice va vn vc).ownBlock = some i) (v := .slice va0 k vc0) (dv := .slice va vn vc) (l := l.take k) (t := x.1) (d := x.2) (by rfl) w2.heap.size (by rfl) hnew.out HMS3.out (HO2.out.rd.below b4) (fun i hi => hi) (by have := HFL.out; have := HN64.out; omega) HD3.out ?_
       intro v3 w3 ms3 k3
       have z3 := k3.size
       simp only [World.size_alloc] at z3
       obtain ⟨xa, xn, xc, rfl⟩ : ∃ a n c, v3 = .slice a n c := by obtain ⟨a, c, e⟩ := ms3.sl; exact ⟨_, _, _, e⟩
       have K3 : Hid (Keep R wr w3) := Lib.hid ((Below.keeps (M := R) B3.out).trans k3)
       have MS3 := Lib.hid ms3
       have c63 := (K3.out.cell (b := w.heap.size + 1) 6 lq HNR.out).trans c6
       have f63 := (K3.out.frozen (b := w.heap.size + 1) 6 lq HNR.out).trans f6
       have hs3 : (fun w' : World => w'.cell? ⟨wr.heap.size, 0, none⟩ = some (.int .i32 x.1) ∧ w'.cell? ⟨wr.heap.size, 1, none⟩ = some (.slice sa sl sc)) w3 := ⟨(k3.cell (b := wr.heap.size) 0 (by simp; omega) (fun h => by have := HOR.out _ (.inr h); omega)).trans ((b4.cell (p := ⟨wr.heap.size, 0, none⟩) (by show wr.heap.size < w2.heap.size; omega)).trans HM2.out.1), (k3.cell (b := wr.heap.size) 1 (by simp; omega) (fun h => by have := HOR.out _ (.inr h); omega)).trans ((b4.cell (p := ⟨wr.heap.size, 1, none⟩) (by show wr.heap.size < w2.heap.size; omega)).trans HM2.out.2)⟩
       have HS3 := Lib.hid hs3
       have HKS := Lib.hid (Keep.setCell (M := (· = w.heap.size + 1)) (Keep.refl _ w3) (p := ⟨w.heap.size + 1, 6, none⟩) (.inl rfl) (.slice xa xn xc))
       clear k3 ms3 hs3
       refine hK.out _ _ ?_ (fun hHeld => ?_)
       ·try dsimp only
        exact HS3.out
       clear hK K
       try simp only [Act.put, tS]
       refine wpT 13 rfl ?_
       try simp only [Act.put, tS]
       refine wpT 14 rfl ?_
       try simp only [Act.put, tS]
       refine wpR 15 rfl fun K hK => ?_
       go_simp
       refine hK.out _ _ ?_ (fun hHeld => ?_)
       ·try dsimp only
        exact ⟨(HKS.out.cell (b := wr.heap.size) 0 (by omega) (by omega)).trans HS3.out.1, (HKS.out.cell (b := wr.heap.size) 1 (by omega) (by omega)).trans HS3.out.2⟩
       clear hK K
       try simp only [Act.put, tS]
       refine wpAnyH_done (by kernel_rfl) ?_ _
       clear hHeld
       have HFE := Lib.hid (HF.out.step K3.out MS3.out HOR.out HDJ.out (fun i hi => by have := HO2L.out i hi; simp; omega) (by simp; omega) (by simp; omega))
       go_wp2_with fail
       have hn64 := HN64.out
       go_roundg (N - k)
       case measure => have := HGK.out; omega
       case rel => exact ⟨k + 1, _, by omega, by omega, by go_num, by rw [HTK.out]; exact HFE.out⟩
    ·obtain rfl : k = N := by omega
     have hnl : ¬ (k : Int) < (k : Int) := by omega
     have c1 : wr.cell? ⟨w.heap.size + 1, 1, none⟩ = some .nilFunc := Blk.cell HF.out.blk 1
     have c2 : wr.cell? ⟨w.heap.size + 1, 2, none⟩ = some .nilFunc := Blk.cell HF.out.blk 2
     have f1 : wr.frozen? ⟨w.heap.size + 1, 1, none⟩ = false := HF.out.blk.frozen 1
     have f2 : wr.frozen? ⟨w.heap.size + 1, 2, none⟩ = false := HF.out.blk.frozen 2
     have HTK : Hid (l.take k = l.take 64) := Lib.hid (List.take_eq_take_iff.2 (by have := HN.out; omega))
     have hP := HF.out.own (fun x hx => HB.out x (List.mem_of_mem_take hx)) (by rw [List.length_take]; have := HN64.out; omega) ⟨hb0, hb1⟩ ⟨hs0, hs1⟩ (by have := HTT.out; omega)
     rw [HTK.out] at hP
     have HP := Lib.hid hP
     have HFB := Lib.hid HF.out.bel
     clear hP
     go_wp2_with fail
     refine (chStart_p filK fil_ty _ (w.heap.size + 1) _ none (⟨b, s, l.take 64, T, [], []⟩ : FilT) (filC.fu ⟨b, s, l.take 64, T, [], []⟩) HP.out (fil_enough.mo _)).mono ?_
     rintro e w5 ⟨rfl, ho5, F5, hp5, hg5, k5⟩
     have z5 := k5.size
     simp at z5
     have HP5 := Lib.hid hp5
     have HO5 := Lib.hid ho5
     have HG5 : Hid (∀ i, F5 i → w.heap.size ≤ i) := Lib.hid (fun i hi => (hg5 i hi).elim (fun h => by omega) (fun h => by simp at h; omega))
     have HB5 : Hid (Below w.heap.size w w5) := Lib.hid (((HFB.out.setCell (by show w.heap.size ≤ w.heap.size + 1; omega) _).setCell (by show w.heap.size ≤ w.heap.size + 1; omega) _).trans (k5.below (by simp; omega) (fun i hi h => by omega)))
     clear hp5 hg5 k5 ho5
     go_wp2
     go_ret
     exact ⟨w.heap.size + 1, F5, rfl, by omega, ⟨HP5.out, fil_enough.mo _, HO5.out⟩, HG5.out, HB5.out⟩
end Go.Proofs.YtggjhleomocojaaGreat
end
namespace Go.Proofs.YtggjhleomocojaaGreat
set_option maxRecDepth 100000
open Go.RowKit
set_option linter.unusedVariables false
set_option linter.unusedSimpArgs false
theorem RdMs.at2 {w : World} {L : Nat → Prop} {a : Option Addr} {n c : Nat} {l : List (Int × List Int)} (h : RdMs w L (.slice a n c) l) {k : Nat} {x : Int × List Int} (hx : l[k]? = some x) : ∃ g off s0 sl sc, a = some ⟨g, off, none⟩ ∧ g < w.heap.size ∧ w.cell? ⟨g, off + k * 2, none⟩ = some (.int .i32 x.1) ∧ w.cell? ⟨g, off + k * 2 + 1, none⟩ = some (.slice s0 sl sc) ∧ RdB w (.slice s0 sl sc) x.2 ∧ (x.2.length ≠ 0 → ∀ j, (Value.slice s0 sl sc).ownBlock = some j → L j) := by
 rcases h with ⟨_, _, _, rfl, _⟩ | ⟨g, off, cap, e1, e2, e3, e4, e5, e6⟩
 ·cases hx
 ·obtain ⟨s0, sl, sc, h1, h2, h3, h4⟩ := e6 k x hx
  cases e1
  exact ⟨g, off, s0, sl, sc, rfl, e5, h1, h2, h3, h4⟩
end Go.Proofs.YtggjhleomocojaaGreat
namespace Go.Proofs.YtggjhleomocojaaGreat
set_option maxRecDepth 100000
open Go.RowKit
set_option linter.unusedVariables false
set_option linter.unusedSimpArgs false
def fewT (S : Int) (l : List (Int × List Int)) : Bool := l.all (fun x => decide ((x.2.length : Int) ≤ S ∧ 1 ≤ x.1)) && decide (l.length ≤ 12)
variable {S : Int} {l : List (Int × List Int)}
theorem fewT_true (h : fewT S l = true) : (∀ x ∈ l, (x.2.length : Int) ≤ S ∧ 1 ≤ x.1) ∧ l.length ≤ 12 := by
 unfold fewT at h
 rw [Bool.and_eq_true] at h
 exact ⟨fun x hx => of_decide_eq_true (List.all_eq_true.1 h.1 x hx), of_decide_eq_true h.2⟩
theorem fewT_not {x : Int × List Int} (hx : x ∈ l) (h : ¬ ((x.2.length : Int) ≤ S ∧ 1 ≤ x.1)) : fewT S l = false := by
 cases hb : fewT S l with
 | false => rfl
 | true => exact absurd ((fewT_true hb).1 x hx) h
theorem fewT_len (h : ∀ x ∈ l, (x.2.length : Int) ≤ S ∧ 1 ≤ x.1) : fewT S l = decide (l.length ≤ 12) := by
 unfold fewT
 rw [List.all_eq_true.2 (fun x hx => decide_eq_true (h x hx)), Bool.true_and]
set_option maxHeartbeats 2000000 in
theorem fewT_any (size : Int) (hz0 : 0 ≤ size) (hz1 : size ≤ 100000) {w : World} {L0 : Nat → Prop} {lv : Value} {l : List (Int × List Int)} (hr : RdMs w L0 lv l) :
  Calls Tryz.prog 8 #[lv, .int .i64 size] w fun e w' => e = .returned (.bool (fewT (size / 8) l)) ∧ Below w.heap.size w w' := by
 obtain ⟨la, lc, rfl, hlc, hlm⟩ := hr.sl
 have HR := Lib.hid hr
 obtain ⟨n, hn⟩ : ∃ n, n = l.length := ⟨_, rfl⟩
 have HN := Lib.hid hn
 rw [← hn] at hlc ⊢
 unfold maxLen at hlm
 obtain ⟨bo, hbo⟩ : ∃ bo, bo = fewT (size / 8) l := ⟨_, rfl⟩
 have HBO := Lib.hid hbo
 rw [← hbo]
 have hs8 : size.tdiv 8 = size / 8 := Int.tdiv_eq_ediv_of_nonneg hz0
 have W8 : IntKind.i64.wrap (size.tdiv 8) = size.tdiv 8 := IntWalk.i64_in _ ⟨by omega, by omega⟩
 clear hr hn hbo
 go_enter Tryz.func8, Tryz.ntmps8
 go_wp2_with fail
 go_loopg [9] (n + 1) (fun gk iv wr => ∃ i : Nat, gk + i = n + 1 ∧ i ≤ n ∧ iv = .int .i64 i ∧ (∀ j x, j < i → l[j]? = some x → (x.2.length : Int) ≤ size / 8 ∧ 1 ≤ x.1) ∧ Below w.heap.size w wr)
 case atStart => exact ⟨0, by omega, by omega, rfl, fun j x h => absurd h (Nat.not_lt_zero _), Below.refl _ _⟩
 case round =>
  obtain ⟨i, hgk, hi, rfl, hs, hb⟩ := hrel
  have HGK := Lib.hid hgk
  have HS := Lib.hid hs
  have HB := Lib.hid hb
  clear hgk hs hb
  by_cases hin : i < n
  ·have hii : (i : Int) < (n : Int) := by omega
   have W1 : IntKind.i64.wrap ((i : Int) + 1) = (i : Int) + 1 := IntWalk.i64_in _ ⟨by omega, by omega⟩
   obtain ⟨y, hy⟩ : ∃ y, l[i]? = some y := ⟨_, List.getElem?_eq_getElem (by have := HN.out; omega)⟩
   obtain ⟨g, off, sa, sl, sc, rfl, hg, m0, m1, hrd, _⟩ := (HR.out.below HB.out).at2 hy
   have HSL := Lib.hid (rd_len hrd)
   have HY := Lib.hid hy
   clear hy hrd
   by_cases h3 : size.tdiv 8 < (sl : Int)
   ·obtain rfl : bo = false := by rw [HBO.out]; exact fewT_not (List.mem_of_getElem? HY.out) (by have := HSL.out; omega)
    go_wp2
    go_ret
    exact ⟨rfl, HB.out.alloc HB.out.size _⟩
   by_cases h4 : y.1 < 1
   ·obtain rfl : bo = false := by rw [HBO.out]; exact fewT_not (List.mem_of_getElem? HY.out) (by omega)
    go_wp2
    go_ret
    exact ⟨rfl, HB.out.alloc HB.out.size _⟩
   ·go_wp2_with fail
    go_roundg (n - i)
    case measure => have := HGK.out; omega
    case rel =>
     refine ⟨i + 1, by omega, by omega, by go_num, fun j x hj hx => ?_, HB.out.alloc HB.out.size _⟩
     by_cases hji : j < i
     ·exact HS.out j x hji hx
     ·obtain rfl : j = i := by omega
      have := HY.out
      rw [hx] at this
      cases this
      have := HSL.out
      omega
  ·obtain rfl : i = n := by omega
   have hnl : ¬ (i : Int) < (i : Int) := by omega
   have hbo : bo = decide ((i : Int) ≤ 12) := by
    rw [HBO.out, fewT_len (fun x hx => by
     obtain ⟨j, hj⟩ := List.getElem?_of_mem hx
     exact HS.out j x (by have := (List.getElem?_eq_some_iff.1 hj).1; have := HN.out; omega) hj), ← HN.out]
    exact decide_eq_decide.2 (by omega)
   have HB2 := Lib.hid hbo
   clear hbo
   go_wp2
   go_ret
   refine ⟨?_, HB.out⟩
   rw [HB2.out]
   rfl
end Go.Proofs.YtggjhleomocojaaGreat
namespace Go.Proofs.YtggjhleomocojaaGreat
set_option maxRecDepth 100000
open Go.RowKit
set_option linter.unusedVariables false
set_option linter.unusedSimpArgs false
structure HsIn (w : World) (O R : Nat → Prop) (ov : Value) (out : List (Int × (Int × List Int))) : Prop where
 ex : ∃ es : List ((Int × (Int × List Int)) × Value), es.map (·.1) = out ∧ w.ownsRow 0 50 3 ov es.length (es.flatMap hsL) ∧ ∀ e ∈ es, RdB w e.2 e.1.2.2 ∧ ∀ i, e.2.ownBlock = some i → O i
 rb : ∀ i, ov.ownBlock = some i → R i
theorem qSlH (w : World) (a : Option Addr) (n c n' c' : Nat) : (binOp .eql 47 (.slice a n c) (.slice none n' c')).run Tryz.prog w = .ok (.bool a.isNone) w := Lib.run_eql_slice_nil w _ _ a n c n' c' Tryz.underlying47
theorem ones_hs : ∀ (es : List ((Int × (Int × List Int)) × Value)) (w : World), (∀ e ∈ es, RdB w e.2 e.1.2.2) → ∀ u ∈ es.flatMap hsL, u.oneCell' = true := by
 intro es w h u hu
 obtain ⟨e, he, hu⟩ := List.mem_flatMap.1 hu
 obtain ⟨a, n, c, h1⟩ := (h e he).isSl
 unfold hsL at hu
 rw [h1] at hu
 simp at hu
 rcases hu with rfl | rfl | rfl <;> rfl
theorem hsL_len (e : (Int × (Int × List Int)) × Value) : (hsL e).length = 3 := rfl
theorem hsL_flat (es : List ((Int × (Int × List Int)) × Value)) : (es.flatMap hsL).length = es.length * 3 := by
 induction es with
 | nil => rfl
 | cons x r ih => rw [List.flatMap_cons, List.length_append, ih, hsL_len, List.length_cons]; omega
theorem hs_at : ∀ (es : List ((Int × (Int × List Int)) × Value)) (k : Nat) (e : (Int × (Int × List Int)) × Value), es[k]? = some e → (es.flatMap hsL)[k * 3]? = some (.int .i64 e.1.1) ∧ (es.flatMap hsL)[k * 3 + 2]? = some e.2
 | [], k, e, h => by simp at h
 | x :: r, 0, e, h => by
  simp at h
  subst h
  exact ⟨rfl, rfl⟩
 | x :: r, k + 1, e, h => by
  obtain ⟨h1, h2⟩ := hs_at r k e (by simpa using h)
  rw [List.flatMap_cons, List.getElem?_append_right (by rw [hsL_len]; omega), List.getElem?_append_right (by rw [hsL_len]; omega), hsL_len, show (k + 1) * 3 - 3 = k * 3 by omega, show (k + 1) * 3 + 2 - 3 = k * 3 + 2 by omega]
  exact ⟨h1, h2⟩
theorem hs_set : ∀ (es : List ((Int × (Int × List Int)) × Value)) (k : Nat) (e : (Int × (Int × List Int)) × Value) (v : Value), es[k]? = some e → (es.flatMap hsL).set (k * 3 + 2) v = (es.set k (e.1, v)).flatMap hsL
 | [], k, e, _, h => by simp at h
 | x :: r, 0, e, v, h => by
  simp at h
  subst h
  rfl
 | x :: r, k + 1, e, v, h => by
  have ih := hs_set r k e v (by simpa using h)
  rw [List.flatMap_cons, List.set_append_right _ _ (by rw [hsL_len]; omega), hsL_len, show (k + 1) * 3 + 2 - 3 = k * 3 + 2 by omega, ih, List.set_cons_succ, List.flatMap_cons]
set_option maxHeartbeats 1000000 in
theorem hsClone_any {O R : Nat → Prop} {ov : Value} {out : List (Int × (Int × List Int))} (w : World) (h : HsIn w O R ov out) (hl : out.length ≤ 100000) :
  Calls Tryz.prog 41 #[ov] w fun e w' => ∃ v, e = .returned v ∧ HsIn w' O (fun i => w.heap.size ≤ i) v out ∧ Below w.heap.size w w' := by
 have q := qSlH
 obtain ⟨i0, hi, hz0, hz1, hz2⟩ := info_parts hdinfo
 obtain ⟨⟨es, he, ho, hes⟩, hr⟩ := h
 have hel : es.length ≤ 100000 := by rw [← he, List.length_map] at hl; exact hl
 have HE := Lib.hid he
 have HES := Lib.hid hes
 have HO := Lib.hid ho
 rcases ho.2 with ⟨rfl, h0⟩ | ⟨g, cap, cur, rfl, _⟩
 ·clear he hes ho
  have h1 : es = [] := List.eq_nil_of_length_eq_zero h0
  go_enter Tryz.func41, Tryz.ntmps41
  go_wp2
  go_ret
  exact ⟨_, rfl, ⟨⟨es, HE.out, by rw [h1]; exact World.ownsRow_nil _ _ _ _, HES.out⟩, fun i hi => by cases hi⟩, Below.refl _ _⟩
 ·clear he hes ho
  go_enter Tryz.func41, Tryz.ntmps41
  have b1 : Below w.heap.size w (w.alloc (.cells #[] 50)) := (Below.refl _ _).alloc (Nat.le_refl _) _
  have o1 : (w.alloc (.cells #[] 50)).ownsRow 0 50 3 (.slice (some ⟨w.heap.size, 0, none⟩) 0 0) 0 [] := ⟨by simp, .inr ⟨w.heap.size, 0, #[], rfl, Nat.zero_le _, (MapKept.heap_alloc w _).1, Nat.le_refl _, by unfold maxLen; omega, by simp, by simp⟩⟩
  have o2 := ownsRow_keep HO.out (Below.keeps (M := fun _ => False) b1) (fun _ _ => id)
  have HN := Lib.hid (show ∀ j u, (es.flatMap hsL)[j]? = some u → (w.alloc (.cells #[] 50)).cell? ⟨g, j, none⟩ = some u from by
   intro j u hu
   have hj : j < es.length * 3 := by have := (List.getElem?_eq_some_iff.1 hu).1; rwa [hsL_flat] at this
   rw [World.ownsRow.cellAt o2 j hj]
   exact hu)
  have O1 := Lib.hid o1
  have O2 := Lib.hid o2
  have B1 := Lib.hid b1
  clear o1 o2 b1
  go_wp2_with (refine list_appN rfl (.tmp 5) (.tmp 6) 47 50 rfl Tryz.underlying47 hi hz0 hz1 hz2 rfl (by decide) (.slice (some ⟨w.heap.size, 0, none⟩) 0 0) 0 [] rfl O1.out g es.length cap (es.flatMap hsL) rfl HN.out (hsL_flat es) (ones_hs es w fun e he => (HES.out e he).1) (by omega) (by unfold maxLen; omega) ?_)
  intro v' w' o3 g3 e3
  have K3 := grown_keep g3
  have kk : Keep (fun i => (Value.slice (some ⟨w.heap.size, 0, none⟩) 0 0).ownBlock = some i) w w' := (Below.keeps B1.out).trans K3
  have bb : Below w.heap.size w w' := (Below.refl w.heap.size w).trans (kk.below (B := w.heap.size) (Nat.le_refl _) (fun i hi h => by have h2 : w.heap.size = i := Option.some.inj h; omega))
  go_wp2
  go_ret
  refine ⟨v', rfl, ⟨⟨es, HE.out, by simpa using o3, fun e he => ⟨(HES.out e he).1.keepP (Below.keeps (M := fun _ => False) bb) (fun _ _ => id), (HES.out e he).2⟩⟩, fun i hi => ?_⟩, bb⟩
  show w.heap.size ≤ i
  rcases e3 with e | e
  ·rw [e] at hi
   cases hi
   exact Nat.le_refl _
  ·rw [e] at hi
   cases hi
   simp
set_option maxHeartbeats 2000000 in
theorem relHeard_at {q : Nat} {w0 : World} {O0 L F1 : Nat → Prop} {cur : Option HeaM} {t : RelT} {nv ov : Value} (w : World) (h : RelB w0 O0 w q L F1 cur t nv ov) :
  Calls Tryz.prog 15 #[ptr q] w fun e w' => ∃ v, e = .returned v ∧ HsIn w' (fun i => w.heap.size ≤ i ∧ i < w'.heap.size) (fun i => w.heap.size ≤ i) v t.heard ∧ Below w.heap.size w w' := by
 have hl : t.heard.length ≤ 100000 := by have := h.d.sm.1; omega
 obtain ⟨xs, x1, x2, x3⟩ := h.d.hd
 have MS := Lib.hid (show HsIn w L (fun i => ov.ownBlock = some i) ov t.heard from ⟨⟨xs, x1, x2, fun e he => ⟨(x3 e he).1, (x3 e he).2.2⟩⟩, fun i hi => hi⟩)
 have LO := Lib.hid h.d.ll
 have HB := Lib.hid (show ∀ x ∈ t.heard, x.2.2.length ≤ 70368744177664 from fun x hx => by
  rw [← x1] at hx
  obtain ⟨e, he, rfl⟩ := List.mem_map.1 hx
  have := (x3 e he).2.1
  omega)
 have c7 : w.cell? ⟨q, 7, none⟩ = some ov := Blk.cell h.b 7
 have hlt : q < w.heap.size := h.b.lt
 clear h x1 x2 x3
 unfold ptr
 go_enter Tryz.func15, Tryz.ntmps15
 go_wp2_with fail
 refine (hsClone_any w MS.out hl).mono ?_
 rintro e w1 ⟨v, rfl, hM, b1⟩
 have z1 := b1.size
 obtain ⟨⟨es, he, ho, hes⟩, hr⟩ := hM
 obtain ⟨va, vl, vc, rfl⟩ := own_isSl ho
 have hvl : vl = es.length := by
  rcases ho.2 with ⟨h1, h2⟩ | ⟨g, cap, cur, h1, _⟩
  ·rw [h2]; injection h1
  ·injection h1
 subst hvl
 have hel : es.length ≤ 100000 := by rw [← he, List.length_map] at hl; exact hl
 have B1 := Lib.hid b1
 have HR := Lib.hid hr
 have INV := Lib.hid (show ∃ es' : List ((Int × (Int × List Int)) × Value), es'.length = es.length ∧ es'.map (·.1) = t.heard ∧ w1.ownsRow 0 50 3 (.slice va es.length vc) es.length (es'.flatMap hsL) ∧ ∀ (j : Nat) (e : (Int × (Int × List Int)) × Value), es'[j]? = some e → RdB w1 e.2 e.1.2.2 ∧ ∀ i, e.2.ownBlock = some i → (Value.slice va es.length vc).ownBlock ≠ some i ∧ (j < 0 → w.heap.size ≤ i ∧ i < w1.heap.size) from
  ⟨es, rfl, he, ho, fun j e hj => ⟨(hes e (List.mem_of_getElem? hj)).1, fun i hi => ⟨fun h2 => by
   have h3 := LO.out i (((hes e (List.mem_of_getElem? hj)).2 i hi))
   have h4 : w.heap.size ≤ i := hr i h2
   omega, fun h0 => absurd h0 (by omega)⟩⟩⟩)
 clear he ho hes hr b1 c7
 go_wp2_with fail
 go_loopw [14] (fun i wr => ∃ k : Nat, k ≤ es.length ∧ i = .int .i64 k ∧ (∃ es' : List ((Int × (Int × List Int)) × Value), es'.length = es.length ∧ es'.map (·.1) = t.heard ∧ wr.ownsRow 0 50 3 (.slice va es.length vc) es.length (es'.flatMap hsL) ∧ ∀ (j : Nat) (e : (Int × (Int × List Int)) × Value), es'[j]? = some e → RdB wr e.2 e.1.2.2 ∧ ∀ i, e.2.ownBlock = some i → (Value.slice va es.length vc).ownBlock ≠ some i ∧ (j < k → w.heap.size ≤ i ∧ i < wr.heap.size)) ∧ Below w.heap.size w wr) (fun i _ => es.length - (intOf i).toNat)
 case atStart => exact ⟨0, by omega, rfl, INV.out, B1.out⟩
 case round =>
  obtain ⟨k, hk, rfl, ⟨es', hlen, hmap, hown, hall⟩, hB⟩ := hrel
  by_cases hlt : k < es.length
  ·obtain ⟨e, hek⟩ : ∃ e, es'[k]? = some e := ⟨_, List.getElem?_eq_getElem (by omega)⟩
   obtain ⟨hrd, hno⟩ := hall k e hek
   obtain ⟨g, cap, hg⟩ : ∃ g cap, Value.slice va es.length vc = .slice (some ⟨g, 0, none⟩) es.length cap := by
    rcases hown.2 with ⟨_, h2⟩ | ⟨g, cap, cur, h1, _⟩
    ·omega
    ·exact ⟨g, cap, h1⟩
   have hva : va = some ⟨g, 0, none⟩ := by injection hg
   have hvc : vc = cap := by injection hg
   subst hva hvc
   have hgl : w.heap.size ≤ g := HR.out g rfl
   obtain ⟨m1, m2⟩ := hs_at es' k e hek
   have hem : e.1 ∈ t.heard := by rw [← hmap]; exact List.mem_map.2 ⟨e, List.mem_of_getElem? hek, rfl⟩
   have hbl := HB.out e.1 hem
   obtain ⟨sa, sl, sc, hs⟩ := hrd.isSl
   obtain ⟨e1, e2⟩ := e
   dsimp only at hs hrd hno m1 m2 hem hbl
   subst hs
   have d1 : wr.cell? ⟨g, k * 3 + 1 + 1, none⟩ = some (.slice sa sl sc) := by rw [World.ownsRow.cellAt hown _ (by omega), m2]
   have hgw : g < wr.heap.size := World.block_lt_of_cell? _ _ d1
   have HRD := Lib.hid hrd
   have HOWN := Lib.hid hown
   have HALL := Lib.hid hall
   have HEK := Lib.hid hek
   have HMAP := Lib.hid hmap
   have HBw := Lib.hid hB
   have zB := hB.size
   clear hrd hown hall hek hmap hB hno m1 m2 hem hg
   go_wp2_with fail
   refine (clone_any _ _ _ HRD.out hbl).mono ?_
   rintro e w2 ⟨s2, rfl, o2, b2⟩
   obtain ⟨ta, tl, tc, hs2⟩ := own_isSl o2
   subst hs2
   have z2 := b2.size
   have OW := Lib.hid (ownsRow_keep HOWN.out (Below.keeps (M := fun _ => False) b2) (fun _ _ => id))
   have d2 : w2.cell? ⟨g, k * 3 + 1 + 1, none⟩ = some (.slice sa sl sc) := (b2.cell (p := ⟨g, k * 3 + 1 + 1, none⟩) hgw).trans d1
   have f2 := World.ownsRow.frozenAt OW.out (k * 3 + 1 + 1)
   have ST := Lib.hid (World.ownsRow.stored OW.out (k * 3 + 1 + 1) (.slice ta tl tc))
   have O2 := Lib.hid o2
   have B2 := Lib.hid b2
   clear o2 b2 d1
   go_wp2
   have kk : Keep (fun i => i = g) w2 (w2.setCell ⟨g, k * 3 + 1 + 1, none⟩ (.slice ta tl tc)) := Keep.setCell (M := fun i => i = g) (Keep.refl _ _) (p := ⟨g, k * 3 + 1 + 1, none⟩) (.inl rfl) _
   have K := (Below.keeps (M := fun i => i = g) B2.out).trans kk
   refine ⟨⟨k + 1, by omega, by go_num, ⟨es'.set k (e1, .slice ta tl tc), by simp [hlen], ?_, ?_, ?_⟩, ?_⟩, by simp [intOf]; omega⟩
   ·rw [List.map_set]
    have h1 : (es'.map (·.1))[k]? = some e1 := by rw [List.getElem?_map, HEK.out]; rfl
    rw [← HMAP.out]
    apply List.ext_getElem?
    intro j
    by_cases hj : k = j
    ·subst hj
     rw [List.getElem?_set_self (by simp; omega)]
     exact h1.symm
    ·rw [List.getElem?_set_ne hj]
   ·rw [← hs_set es' k (e1, .slice sa sl sc) (.slice ta tl tc) HEK.out]
    exact ST.out.1
   ·intro j e hj
    by_cases hjk : j = k
    ·subst hjk
     rw [List.getElem?_set_self (by omega)] at hj
     obtain rfl := Option.some.inj hj
     have hr2 : ∀ i, (Value.slice ta tl tc).ownBlock = some i → wr.heap.size ≤ i := fun i hi => (World.ownsRow.lt O2.out i hi).1
     refine ⟨O2.out.rd.keepP kk (fun i hi => ?_), fun i hi => ⟨fun h2 => ?_, fun _ => ?_⟩⟩
     ·have := hr2 i hi
      omega
     ·have := hr2 i hi
      have h3 : g = i := Option.some.inj h2
      omega
     ·have h8 := hr2 i hi
      have h9 := (World.ownsRow.lt O2.out i hi).2
      have h10 := kk.size
      omega
    ·rw [List.getElem?_set_ne (by omega)] at hj
     obtain ⟨a1, a2⟩ := HALL.out j e hj
     exact ⟨a1.keepP K (fun i hi h => (a2 i hi).1 (by rw [h]; rfl)), fun i hi => ⟨(a2 i hi).1, fun h => ⟨((a2 i hi).2 (by omega)).1, Nat.lt_of_lt_of_le ((a2 i hi).2 (by omega)).2 K.size⟩⟩⟩
   ·exact HBw.out.trans (K.below (B := w.heap.size) zB (fun i hi h => by omega))
  ·obtain rfl : k = es.length := by omega
   go_wp2
   go_ret
   refine ⟨_, rfl, ⟨⟨es', hmap, by rw [hlen]; exact hown, fun e he => ?_⟩, HR.out⟩, hB⟩
   obtain ⟨j, hj⟩ := List.getElem?_of_mem he
   have hjl : j < es.length := by have := (List.getElem?_eq_some_iff.1 hj).1; omega
   exact ⟨(hall j e hj).1, fun i hi => ((hall j e hj).2 i hi).2 hjl⟩
end Go.Proofs.YtggjhleomocojaaGreat
namespace Go.Proofs.YtggjhleomocojaaGreat
set_option maxRecDepth 100000
open Go.RowKit
set_option linter.unusedVariables false
set_option linter.unusedSimpArgs false
theorem rdB_at {w : World} {sa : Option Addr} {sn sc : Nat} {l : List Int} (h : RdB w (.slice sa sn sc) l) {k : Nat} (hk : k < l.length) : ∃ bk off, sa = some ⟨bk, off, none⟩ ∧ w.cell? ⟨bk, off + k, none⟩ = some (.int .u8 (gB l k)) ∧ l.length ≤ sc ∧ sc ≤ maxLen := by
 rcases h with ⟨_, e⟩ | ⟨_, _, _, e, _⟩ | ⟨bk, off, cap, e, h1, h2, hc⟩
 ·rw [e] at hk
  exact absurd hk (Nat.not_lt_zero _)
 ·rw [e] at hk
  exact absurd hk (Nat.not_lt_zero _)
 ·cases e
  exact ⟨bk, off, rfl, hc k hk, h1, h2⟩
theorem mcinfoO : (Tryz.prog.info? 66).map (fun i => (i.zero, i.size, i.bytes)) = some (some .nilIface, 1, 16) := by kernel_rfl
theorem bytes_slice {E B : Nat} {w : World} {v : Value} {l : List Int} (h : OwB E B w v l) (h0 : 0 < l.length) : ∃ g cp, v = .slice (some ⟨g, 0, none⟩) l.length cp ∧ l.length ≤ cp ∧ cp ≤ maxLen ∧ B ≤ g ∧ g < w.heap.size ∧ ∀ i, i < l.length → w.cell? ⟨g, i, none⟩ = some (.int .u8 (gB l i)) := by
 have hr := h.rd
 have hb := fun i hi => World.ownsRow.lt h i hi
 rcases hr with ⟨_, e⟩ | ⟨_, _, _, e, _⟩ | ⟨g, off, cap, e, h1, h2, hc⟩
 ·rw [e] at h0
  exact absurd h0 (Nat.lt_irrefl 0)
 ·rw [e] at h0
  exact absurd h0 (Nat.lt_irrefl 0)
 ·obtain ⟨_, ho⟩ := h
  rcases ho with ⟨e2, _⟩ | ⟨g2, cap2, cur, e2, _⟩
  ·rw [e] at e2
   cases e2
  ·rw [e] at e2
   cases e2
   subst e
   have := hb g rfl
   exact ⟨g, cap, rfl, h1, h2, this.1, this.2, fun i hi => by have := hc i hi; rwa [Nat.zero_add] at this⟩
end Go.Proofs.YtggjhleomocojaaGreat
namespace Go.Proofs.YtggjhleomocojaaGreat
set_option maxRecDepth 100000
open Go.RowKit
set_option linter.unusedVariables false
set_option linter.unusedSimpArgs false
structure ApR where
 p : Nat
 c : Nat
 qd : Nat
 qx : Nat
structure ApLoop (w : World) (lo : Nat) (T : Nat → SW apM.σ) (k : Nat) (As : List ApR) (U : Nat → Prop) (bv dv xv : Value) : Prop where
 len : As.length = k
 b : w.ownsRow 0 27 1 bv k (As.map fun a => ptr a.p)
 d : w.ownsRow 0 61 1 dv k (As.map fun a => ptr a.qd)
 x : w.ownsRow 0 43 1 xv k (As.map fun a => ptr a.qx)
 ub : ∀ g, bv.ownBlock = some g → lo ≤ g ∧ ¬ U g ∧ dv.ownBlock ≠ some g ∧ xv.ownBlock ≠ some g
 ud : ∀ g, dv.ownBlock = some g → lo ≤ g ∧ ¬ U g ∧ xv.ownBlock ≠ some g
 ux : ∀ g, xv.ownBlock = some g → lo ≤ g ∧ ¬ U g
 lu : ∀ i, U i → i < w.heap.size
 lw : lo ≤ w.heap.size
 at_ : ∀ j a, As[j]? = some a → ApIn w U (T j) (decide (j ≠ 2)) (decide (j ≠ 1)) a.p a.c a.qd a.qx
theorem ApLoop.start (w : World) {lo : Nat} (h : lo ≤ w.heap.size) (T : Nat → SW apM.σ) : ApLoop w lo T 0 [] (fun _ => False) (.slice none 0 0) (.slice none 0 0) (.slice none 0 0) :=
 ⟨rfl, ⟨rfl, .inl ⟨rfl, rfl⟩⟩, ⟨rfl, .inl ⟨rfl, rfl⟩⟩, ⟨rfl, .inl ⟨rfl, rfl⟩⟩, nofun, nofun, nofun, fun _ => False.elim, h, fun j a h => (by simp at h)⟩
theorem ApLoop.next {w w0 w1 w2 w3 : World} {lo : Nat} {T : Nat → SW apM.σ} {k : Nat} {As : List ApR} {U : Nat → Prop} {bv dv xv bv' dv' xv' : Value} (h : ApLoop w lo T k As U bv dv xv) (b : Below w.heap.size w w0) {a : ApR} (hin : ApIn w0 (fun i => w.heap.size ≤ i ∧ i < w0.heap.size) (T k) (decide (k ≠ 2)) (decide (k ≠ 1)) a.p a.c a.qd a.qx)
  (k1 : Keep (fun i => bv.ownBlock = some i) w0 w1) (o1 : w1.ownsRow 0 27 1 bv' (k + 1) ((As.map fun a => ptr a.p) ++ [ptr a.p])) (e1 : bv'.ownBlock = bv.ownBlock ∨ ∃ i, bv'.ownBlock = some i ∧ w0.heap.size ≤ i)
  (k2 : Keep (fun i => dv.ownBlock = some i) w1 w2) (o2 : w2.ownsRow 0 61 1 dv' (k + 1) ((As.map fun a => ptr a.qd) ++ [ptr a.qd])) (e2 : dv'.ownBlock = dv.ownBlock ∨ ∃ i, dv'.ownBlock = some i ∧ w1.heap.size ≤ i)
  (k3 : Keep (fun i => xv.ownBlock = some i) w2 w3) (o3 : w3.ownsRow 0 43 1 xv' (k + 1) ((As.map fun a => ptr a.qx) ++ [ptr a.qx])) (e3 : xv'.ownBlock = xv.ownBlock ∨ ∃ i, xv'.ownBlock = some i ∧ w2.heap.size ≤ i) :
  ApLoop w3 lo T (k + 1) (As ++ [a]) (fun i => U i ∨ (w.heap.size ≤ i ∧ i < w0.heap.size)) bv' dv' xv' := by
 have hb : ∀ g, bv.ownBlock = some g → g < w.heap.size := fun g hg => (World.ownsRow.lt h.b g hg).2
 have hd : ∀ g, dv.ownBlock = some g → g < w.heap.size := fun g hg => (World.ownsRow.lt h.d g hg).2
 have hx : ∀ g, xv.ownBlock = some g → g < w.heap.size := fun g hg => (World.ownsRow.lt h.x g hg).2
 have z0 := b.size
 have z1 := k1.size
 have z2 := k2.size
 have z3 := k3.size
 have hb' : ∀ g, bv'.ownBlock = some g → (bv.ownBlock = some g ∨ w0.heap.size ≤ g) ∧ g < w1.heap.size := fun g hg => ⟨by
  rcases e1 with e | ⟨i, e, hi⟩
  ·rw [e] at hg
   exact .inl hg
  ·rw [e] at hg
   cases hg
   exact .inr hi, (World.ownsRow.lt o1 g hg).2⟩
 have hd' : ∀ g, dv'.ownBlock = some g → (dv.ownBlock = some g ∨ w1.heap.size ≤ g) ∧ g < w2.heap.size := fun g hg => ⟨by
  rcases e2 with e | ⟨i, e, hi⟩
  ·rw [e] at hg
   exact .inl hg
  ·rw [e] at hg
   cases hg
   exact .inr hi, (World.ownsRow.lt o2 g hg).2⟩
 have hx' : ∀ g, xv'.ownBlock = some g → (xv.ownBlock = some g ∨ w2.heap.size ≤ g) ∧ g < w3.heap.size := fun g hg => ⟨by
  rcases e3 with e | ⟨i, e, hi⟩
  ·rw [e] at hg
   exact .inl hg
  ·rw [e] at hg
   cases hg
   exact .inr hi, (World.ownsRow.lt o3 g hg).2⟩
 have hlu := h.lu
 have hlw := h.lw
 have hU : ∀ i, (U i ∨ (w.heap.size ≤ i ∧ i < w0.heap.size)) → bv.ownBlock ≠ some i ∧ dv.ownBlock ≠ some i ∧ xv.ownBlock ≠ some i := fun i hi => by
  rcases hi with hi | hi
  ·exact ⟨fun e => (h.ub i e).2.1 hi, fun e => (h.ud i e).2.1 hi, fun e => (h.ux i e).2 hi⟩
  ·exact ⟨fun e => by have := hb i e; omega, fun e => by have := hd i e; omega, fun e => by have := hx i e; omega⟩
 have hnU : ∀ i, w0.heap.size ≤ i → ¬ (U i ∨ (w.heap.size ≤ i ∧ i < w0.heap.size)) := fun i hi h9 => by
  rcases h9 with h9 | h9
  ·have := hlu i h9
   omega
  ·omega
 refine ⟨by rw [List.length_append, h.len]; rfl, ?_, ?_, ?_, fun g hg => ?_, fun g hg => ?_, fun g hg => ?_, fun i hi => ?_, by omega, fun j y hj => ?_⟩
 ·rw [List.map_append]
  refine ownsRow_keep (ownsRow_keep o1 k2 (fun i hi e => ?_)) k3 (fun i hi e => ?_)
  ·rcases (hb' i hi).1 with h9 | h9
   ·exact (h.ub i h9).2.2.1 e
   ·have := hd i e
    omega
  ·rcases (hb' i hi).1 with h9 | h9
   ·exact (h.ub i h9).2.2.2 e
   ·have := hx i e
    omega
 ·rw [List.map_append]
  refine ownsRow_keep o2 k3 (fun i hi e => ?_)
  rcases (hd' i hi).1 with h9 | h9
  ·exact (h.ud i h9).2.2 e
  ·have := hx i e
   omega
 ·rw [List.map_append]
  exact o3
 ·obtain ⟨h1, h2⟩ := hb' g hg
  rcases h1 with h1 | h1
  ·have h3 := h.ub g h1
   have h4 := hb g h1
   refine ⟨h3.1, fun e => (hU g e).1 h1, fun e => ?_, fun e => ?_⟩
   ·rcases (hd' g e).1 with h9 | h9
    ·exact h3.2.2.1 h9
    ·omega
   ·rcases (hx' g e).1 with h9 | h9
    ·exact h3.2.2.2 h9
    ·omega
  ·refine ⟨by omega, hnU g h1, fun e => ?_, fun e => ?_⟩
   ·rcases (hd' g e).1 with h9 | h9
    ·have := hd g h9
     omega
    ·omega
   ·rcases (hx' g e).1 with h9 | h9
    ·have := hx g h9
     omega
    ·omega
 ·obtain ⟨h1, h2⟩ := hd' g hg
  rcases h1 with h1 | h1
  ·have h3 := h.ud g h1
   have h4 := hd g h1
   refine ⟨h3.1, fun e => (hU g e).2.1 h1, fun e => ?_⟩
   rcases (hx' g e).1 with h9 | h9
   ·exact h3.2.2 h9
   ·omega
  ·refine ⟨by omega, hnU g (by omega), fun e => ?_⟩
   rcases (hx' g e).1 with h9 | h9
   ·have := hx g h9
    omega
   ·omega
 ·obtain ⟨h1, h2⟩ := hx' g hg
  rcases h1 with h1 | h1
  ·exact ⟨(h.ux g h1).1, fun e => (hU g e).2.2 h1⟩
  ·exact ⟨by omega, hnU g (by omega)⟩
 ·rcases hi with hi | hi
  ·have := hlu i hi
   omega
  ·omega
 ·have hkeep : ∀ {j : Nat} {y : ApR} {V : Nat → Prop}, ApIn w0 V (T j) (decide (j ≠ 2)) (decide (j ≠ 1)) y.p y.c y.qd y.qx → (∀ i, V i → (U i ∨ (w.heap.size ≤ i ∧ i < w0.heap.size))) → ApIn w3 (fun i => U i ∨ (w.heap.size ≤ i ∧ i < w0.heap.size)) (T j) (decide (j ≠ 2)) (decide (j ≠ 1)) y.p y.c y.qd y.qx := fun h8 h9 =>
   (((h8.mono h9).keep k1 (fun i hi e => (hU i hi).1 e)).keep k2 (fun i hi e => (hU i hi).2.1 e)).keep k3 (fun i hi e => (hU i hi).2.2 e)
  by_cases hjk : j < As.length
  ·rw [List.getElem?_append_left hjk] at hj
   exact hkeep ((h.at_ j y hj).keep (K := fun _ => False) (Below.keeps b) (fun _ _ => id)) (fun i hi => .inl hi)
  ·have hjl := (List.getElem?_eq_some_iff.1 hj).1
   rw [List.length_append] at hjl
   have hjk' : j = As.length := by
    have : j < As.length + 1 := hjl
    omega
   subst hjk'
   rw [List.getElem?_append_right (Nat.le_refl _), Nat.sub_self] at hj
   cases hj
   rw [h.len]
   exact hkeep hin (fun i hi => .inr hi)
variable {w : World}
theorem ap_slice {B E s n : Nat} {v : Value} {xs : List Value} (h : w.ownsRow B E s v n xs) : ∃ a c, v = .slice a n c := by
 rcases h.2 with ⟨rfl, rfl⟩ | ⟨g, cap, cur, rfl, _⟩
 ·exact ⟨_, _, rfl⟩
 ·exact ⟨_, _, rfl⟩
theorem ap_slice1 {B E s n : Nat} {v : Value} {xs : List Value} (h : w.ownsRow B E s v (n + 1) xs) : ∃ g c, v = .slice (some ⟨g, 0, none⟩) (n + 1) c ∧ ∀ i, i < xs.length → w.cell? ⟨g, i, none⟩ = xs[i]? := by
 rcases id h.2 with ⟨_, h0⟩ | ⟨g, cap, cur, rfl, _⟩
 ·omega
 ·exact ⟨g, cap, rfl, fun i hi => World.ownsRow.cellAt h i (by rw [← h.1]; exact hi)⟩
theorem rd_apart {g off n cap : Nat} {l : List Int} (hm : cap ≤ maxLen) (hn : l.length = n) (hc : n ≤ cap) (h : ∀ i, i < n → w.cell? ⟨g, off + i, none⟩ = some (.int .u8 (gB l i))) (a k : Nat) (ha : a + k ≤ n) : RdB w (.slice (some ⟨g, off + a, none⟩) k (cap - a)) (bts l a k) := by
 have hl : (bts l a k).length = k := bts_len (by omega)
 refine .inr (.inr ⟨g, off + a, cap - a, by rw [hl], by rw [hl]; omega, by omega, fun i hi => ?_⟩)
 rw [hl] at hi
 rw [show off + a + i = off + (a + i) by omega, h (a + i) (by omega), bts_at hi]
end Go.Proofs.YtggjhleomocojaaGreat
namespace Go.Proofs.YtggjhleomocojaaGreat
set_option maxRecDepth 100000
open Go.RowKit
set_option linter.unusedVariables false
set_option linter.unusedSimpArgs false
theorem ApRow.made (r : Bool) {w : World} {lo g : Nat} {FL : List (Option PutM × FilT)} {d : Option GetM × DraT} {x : Option HeaM × RelT} {qs : Nat → Nat} {Fs : Nat → Nat → Prop} (h : ApRow w lo g (fun _ => none) (upF (upF (fun _ => none) 3 (some (.inl (.inr d)))) 5 (some (.inr (.inr x)))) qs Fs) : ApRow w lo g (msF r FL 0) (mkF r FL 0 d x) qs Fs := by
 refine h.to (fun j _ => msF_ge (Nat.zero_le _)) (fun j y e => ?_)
 unfold mkF at e
 by_cases h3 : j = 3
 ·subst h3
  rw [if_pos rfl] at e
  rw [upF_ne _ _ (by decide), upF_eq]
  exact e
 rw [if_neg h3] at e
 by_cases h5 : j = 5
 ·subst h5
  rw [if_pos rfl] at e
  rw [upF_eq]
  exact e
 rw [if_neg h5, msF_ge (Nat.zero_le _)] at e
 cases e
def ms1 (r : Bool) (FL : List (Option PutM × FilT)) (n : Nat) (d : Option GetM × DraT) (j : Nat) : Option ApS := if j = 3 then (if r = true then some (.inl (.inr d)) else none) else msF r FL n j
variable {w : World} {FL : List (Option PutM × FilT)} {d : Option GetM × DraT} {x : Option HeaM × RelT} {qs : Nat → Nat} {Fs : Nat → Nat → Prop}
theorem ApRow.if1 {lo g n : Nat} (h : ApRow w lo g (msF true FL n) (mkF true FL n d x) qs Fs) : ApRow (w.setCell ⟨g, 3, none⟩ (.iface 61 (ptr (qs 3)))) lo g (ms1 true FL n d) (mkF true FL n d x) qs Fs := by
 refine (h.put (i := 3) (by omega) (.inl (.inr d))).to (fun j hj => ?_) (fun j y e => e)
 unfold ms1
 by_cases h3 : j = 3
 ·subst h3
  rw [upF_eq, if_pos rfl, if_pos rfl]
 ·rw [upF_ne _ _ h3, if_neg h3]
theorem ApRow.if1n {lo g n : Nat} (h : ApRow w lo g (msF false FL n) (mkF false FL n d x) qs Fs) : ApRow w lo g (ms1 false FL n d) (mkF false FL n d x) qs Fs := by
 refine h.to (fun j hj => ?_) (fun j y e => e)
 unfold ms1
 rw [msF_skip]
 by_cases h3 : j = 3
 ·rw [if_pos h3]
  rfl
 ·rw [if_neg h3]
variable {r : Bool} {j : Nat}
theorem msF_all : msF r FL FL.length j = if r = true then (FL[j]?).map (fun f => (.inl (.inl f) : ApS)) else none := by
 unfold msF
 cases r with
 | false => rfl
 | true =>
  by_cases hj : j < FL.length
  ·rw [if_pos ⟨rfl, hj⟩, if_pos rfl]
  ·rw [if_neg (fun h => hj h.2), if_pos rfl, List.getElem?_eq_none_iff.2 (by omega)]
   rfl
theorem apAt_lt {r c : Bool} {s : Option SenM × CasT} (h3 : FL.length ≤ 3) (hj : j < 4) : apAt r c FL d s x j = ms1 r FL FL.length d j := by
 unfold apAt ms1
 by_cases h : j < 3
 ·rw [if_pos h, if_neg (show ¬ j = 3 by omega), msF_all]
 ·rw [if_neg h, if_pos (show j = 3 by omega), if_pos (show j = 3 by omega)]
theorem ms1_ge (h3 : FL.length ≤ 3) (hj : ¬ j < 4) : ms1 r FL FL.length d j = none := by
 unfold ms1
 rw [if_neg (by omega), msF_ge (by omega)]
theorem ms1_mk {n j : Nat} {y : ApS} (hj : j < 4) (h : ms1 r FL n d j = some y) : mkF r FL n d x j = some y := by
 unfold ms1 at h
 unfold mkF
 by_cases h3 : j = 3
 ·rw [if_pos h3] at h ⊢
  cases r with
  | false => cases h
  | true => exact h
 ·rw [if_neg h3] at h ⊢
  rw [if_neg (show ¬ j = 5 by omega)]
  exact h
theorem ApRow.if2 {w w' : World} {lo g : Nat} (h : ApRow w lo g (ms1 r FL FL.length d) (mkF r FL FL.length d x) qs Fs) (h3 : FL.length ≤ 3) (b : Below w.heap.size w w') {s : Option SenM × CasT} {q : Nat} {F : Nat → Prop} (hv : casFam.inv w' F q s) (hF : ∀ b, F b → w.heap.size ≤ b) :
  ApRow ((w'.setCell ⟨g, 4, none⟩ (.iface 67 (ptr q))).setCell ⟨g, 5, none⟩ (.iface 43 (ptr (qs 5)))) lo g (apAt r true FL d s x) (apAt r true FL d s x) (upF qs 4 q) (upF Fs 4 F) := by
 have h1 := h.add b (i := 4) (by omega) (ms1_ge h3 (by omega)) (y := .inr (.inl s)) (q := q) (F := F) hv hF
 have h2 := h1.put (i := 4) (by omega) (.inr (.inl s))
 rw [upF_eq] at h2
 have h4 := h2.put (i := 5) (by omega) (.inr (.inr x))
 rw [upF_ne qs q (show 5 ≠ 4 by decide)] at h4
 refine h4.to (fun j hj => ?_) (fun j y e => ?_)
 ·by_cases h9 : j < 4
  ·rw [upF_ne _ _ (by omega), upF_ne _ _ (by omega), apAt_lt h3 h9]
  ·by_cases e4 : j = 4
   ·subst e4
    rw [upF_ne _ _ (by decide), upF_eq]
    rfl
   ·by_cases e5 : j = 5
    ·subst e5
     rw [upF_eq]
     rfl
    ·rw [upF_ne _ _ e5, upF_ne _ _ e4, ms1_ge h3 h9]
     unfold apAt
     rw [if_neg (by omega), if_neg (by omega), if_neg e4, if_neg e5]
 ·by_cases h9 : j < 4
  ·rw [apAt_lt h3 h9] at e
   rw [upF_ne _ _ (by omega)]
   exact ms1_mk h9 e
  ·by_cases e4 : j = 4
   ·subst e4
    rw [upF_eq]
    exact e
   ·rw [upF_ne _ _ e4]
    unfold apAt at e
    rw [if_neg (by omega), if_neg (by omega), if_neg e4] at e
    by_cases e5 : j = 5
    ·subst e5
     exact e
    ·rw [if_neg e5] at e
     cases e
theorem ApRow.if2n {lo g : Nat} (h : ApRow w lo g (ms1 r FL FL.length d) (mkF r FL FL.length d x) qs Fs) (h3 : FL.length ≤ 3) (s : Option SenM × CasT) : ApRow w lo g (apAt r false FL d s x) (apAt r false FL d s x) qs Fs := by
 refine h.to (fun j hj => ?_) (fun j y e => ?_)
 ·by_cases h9 : j < 4
  ·rw [apAt_lt h3 h9]
  ·rw [apAt_nosent h9, ms1_ge h3 h9]
 ·by_cases h9 : j < 4
  ·rw [apAt_lt h3 h9] at e
   exact ms1_mk h9 e
  ·rw [apAt_nosent h9] at e
   cases e
theorem pick_bsl (M : Mac) (S : SW M.σ) (j : Nat) : (M.pick S 0 j 0).1.bs.length = S.bs.length := by
 rw [pick_eq]
 cases h1 : S.acts[j]? with
 | none => rfl
 | some c =>
  dsimp only
  have hst : (M.stepA S j c).1.bs.length = S.bs.length := by
   obtain ⟨m, d⟩ := c
   cases m with
   | none => rfl
   | some s =>
    by_cases hl : M.live s = false
    ·rw [show M.stepA S j ⟨some s, d⟩ = (S, (aaZ, anZ), 0) from if_pos hl]
    ·by_cases he : (M.want s).err S.bs.length = 0
     ·rw [show M.stepA S j ⟨some s, d⟩ = ({ S with bs := (M.want s).out S.bs, cnt := S.cnt + 1, acts := S.acts.set j ⟨some (M.step s ((M.want s).ans S.bs)), d⟩ }, (M.want s, (M.want s).ans S.bs), 0) from (if_neg hl).trans (if_pos he)]
      exact AA.out_len he
     ·rw [show M.stepA S j ⟨some s, d⟩ = ({ S with acts := S.acts.set j ⟨some s, true⟩ }, (aaZ, anZ), (M.want s).err S.bs.length) from (if_neg hl).trans (if_neg he)]
  split
  ·rfl
  ·split
   ·exact hst
   ·exact hst
theorem pks_bsl (M : Mac) : ∀ (js : List Nat) (S : SW M.σ), (M.pks js S).bs.length = S.bs.length
 | [], S => rfl
 | j :: js, S => (pks_bsl M js _).trans (pick_bsl M S j)
theorem ap_eq {T : Nat → SW apM.σ} {s : Option SenM × CasT} {js : List Nat} (hT : T = fun j => apM.pks js (apS (List.replicate (8 * 128) 0) (decide (j ≠ 2)) (decide (j ≠ 1)) FL d s x)) (hF : ∀ f ∈ FL, FilC.lc 8 256 f) (hd : DraC.lc 8 256 d) (hs : CasC.lc 304 256 s) (hx : RelC.lc 304 256 x) :
  ApEq (T 0) (T 1) (T 2) ∧ ∀ j, (T j).bs.length = 1024 := by
 subst hT
 refine ⟨apart_law hF hd hs hx (fun y hy => ?_) js, fun j => (pks_bsl apM js _).trans ?_⟩
 ·rw [List.eq_of_mem_replicate hy]
  exact ⟨by decide, by decide⟩
 ·show (List.replicate (8 * 128) (0 : Int)).length = 1024
  rw [List.length_replicate]
theorem ap_starts {α : Type} {f : α → List (Int × List Int)} {Lb : List α} {l : List (Int × List Int)} (hL : ∀ y ∈ Lb, ∀ x ∈ f y, IsB x.2) (hl : ∀ x ∈ l, IsB x.2) :
  (∀ z ∈ Lb.map (fun y => filC.start (⟨8, 256, (f y).take 64, max 5 0, [], []⟩ : FilT)), FilC.lc 8 256 z) ∧ DraC.lc 8 256 (draC.start (⟨8, 256, min 20 64, 3, []⟩ : DraT)) ∧ CasC.lc 304 256 (casC.start (⟨304, 256, l.take 64, [], []⟩ : CasT)) ∧ RelC.lc 304 256 (relC.start (⟨304, 256, ⟨0, 0, 0⟩, min 20 64, [], 0⟩ : RelT)) := by
 refine ⟨fun z hz => ?_, dra_started 8 256 _ ⟨rfl, rfl⟩, cas_started 304 256 _ ⟨rfl, rfl, fun x hx => hl x (List.mem_of_mem_take hx)⟩, rel_started 304 256 _ ⟨rfl, rfl⟩⟩
 obtain ⟨y, hy, rfl⟩ := List.mem_map.1 hz
 exact fil_started 8 256 _ ⟨rfl, rfl, fun x hx => hL y hy x (List.mem_of_mem_take hx)⟩
theorem fl_at {α : Type} (f : α → List (Int × List Int)) {Lb : List α} {j : Nat} {x : α} (h : Lb[j]? = some x) : (Lb.map (fun y => filC.start (⟨8, 256, (f y).take 64, max 5 0, [], []⟩ : FilT)))[j]? = some (filC.start (⟨8, 256, (f x).take 64, max 5 0, [], []⟩ : FilT)) := by
 refine (List.getElem?_map (f := fun y => filC.start (⟨8, 256, (f y).take 64, max 5 0, [], []⟩ : FilT))).trans ?_
 rw [h]
 rfl
theorem ap_bytes {E B : Nat} {v : Value} {l : List Int} (h : OwB E B w v l) (hl : l.length = 1024) : ∃ g cp, v = .slice (some ⟨g, 0, none⟩) 1024 cp ∧ 1024 ≤ cp ∧ cp ≤ maxLen ∧ g < w.heap.size ∧ ∀ a k, a + k ≤ 1024 → RdB w (.slice (some ⟨g, a, none⟩) k (cp - a)) (bts l a k) := by
 obtain ⟨g, cp, rfl, h1, h2, _, h3, h4⟩ := bytes_slice h (by omega)
 rw [hl] at h1 h4 ⊢
 refine ⟨g, cp, rfl, h1, h2, h3, fun a k hak => ?_⟩
 have h5 := rd_apart (off := 0) h2 hl h1 (fun i hi => by rw [Nat.zero_add]; exact h4 i hi) a k hak
 rw [Nat.zero_add] at h5
 exact h5
theorem ApEq.dra_same {T0 T1 T2 : SW apM.σ} (h : ApEq T0 T1 T2) {d0 d1 : Option GetM × DraT} {e0 e1 : Bool} (h0 : T0.acts[3]? = some ⟨some (Sum.inl (Sum.inr d0) : ApS), e0⟩) (h1 : T1.acts[3]? = some ⟨some (Sum.inl (Sum.inr d1) : ApS), e1⟩) : d0 = d1 := by
 have e := h.dra
 rw [h0, h1] at e
 injection e with e
 injection e with e _
 injection e with e
 have e : (Sum.inl (Sum.inr d0) : ApS) = Sum.inl (Sum.inr d1) := e
 injection e with e
 injection e
theorem ApEq.rel_same {T0 T1 T2 : SW apM.σ} (h : ApEq T0 T1 T2) {x0 x1 : Option HeaM × RelT} {e0 e1 : Bool} (h0 : T0.acts[5]? = some ⟨some (Sum.inr (Sum.inr x0) : ApS), e0⟩) (h1 : T2.acts[5]? = some ⟨some (Sum.inr (Sum.inr x1) : ApS), e1⟩) : x0 = x1 := by
 have e := h.rel
 rw [h0, h1] at e
 injection e with e
 injection e with e _
 injection e with e
 have e : (Sum.inr (Sum.inr x0) : ApS) = Sum.inr (Sum.inr x1) := e
 injection e with e
 injection e
theorem MsIn.leN {O R : Nat → Prop} {ov : Value} {out : List (Int × List Int)} (h : MsIn w O R ov out) : out.length ≤ maxLen := by
 obtain ⟨⟨es, rfl, ⟨_, h2⟩, _⟩, _⟩ := h
 rw [List.length_map]
 rcases h2 with ⟨rfl, h0⟩ | ⟨g, cap, cur, rfl, _, _, h3, h4, _⟩
 ·omega
 ·omega
theorem HsIn.slN {O R : Nat → Prop} {ov : Value} {out : List (Int × (Int × List Int))} (h : HsIn w O R ov out) : ∃ a c, ov = .slice a out.length c := by
 obtain ⟨⟨es, rfl, ⟨_, h2⟩, _⟩, _⟩ := h
 rcases h2 with ⟨rfl, h0⟩ | ⟨g, cap, cur, rfl, _⟩
 ·exact ⟨none, 0, by rw [List.length_map, h0]⟩
 ·exact ⟨_, _, by rw [List.length_map]⟩
end Go.Proofs.YtggjhleomocojaaGreat
