/- ring.Fill. Conditions: as each says. ring.Filler: Done, Places. Conditions: as each says. -/
import Derived.Test.YtggjhleomocojaaGreatDv
import Derived.Test.YtggjhleomocojaaGreatDm
section
namespace Go.Proofs.YtggjhleomocojaaGreat
set_option maxRecDepth 100000
open Go.RowKit
set_option linter.unusedVariables false
set_option linter.unusedSimpArgs false
structure FilN (w0 w : World) (q : Nat) (b s T : Int) (out : List (Int × List Int)) (ov : Value) : Prop where
 blk : Blk w q [.pointer none, .nilFunc, .nilFunc, .bool false, .int .i64 b, .int .i64 s, ov, .int .i64 T, .slice none 0 0, .slice none 0 0]
 ms : ∃ O R, MsIn w O R ov out ∧ (∀ i, O i ∨ R i → q < i ∧ i < w.heap.size) ∧ ∀ i, O i → ¬ R i
 lo : w0.heap.size ≤ q
 bel : Below w0.heap.size w0 w
theorem FilN.step {w0 wr w3 : World} {q B : Nat} {b s T : Int} {out out' : List (Int × List Int)} {ov v3 : Value} {O R O2 : Nat → Prop} (h : FilN w0 wr q b s T out ov) (k3 : Keep R wr w3) (ms : MsIn w3 (fun i => O i ∨ O2 i) (fun i => R i ∨ (B ≤ i ∧ i < w3.heap.size)) v3 out') (hor : ∀ i, O i ∨ R i → q < i ∧ i < wr.heap.size) (hdj : ∀ i, O i → ¬ R i)
  (h2 : ∀ i, O2 i → wr.heap.size ≤ i ∧ i < B) (hB : wr.heap.size ≤ B) (hB3 : B ≤ w3.heap.size) : FilN w0 (w3.setCell ⟨q, 6, none⟩ v3) q b s T out' v3 := by
 have lq := h.blk.lt
 have nq : ¬ R q := fun h => Nat.lt_irrefl _ (hor _ (.inr h)).1
 have ks : Keep (· = q) w3 (w3.setCell ⟨q, 6, none⟩ v3) := Keep.setCell (M := (· = q)) (Keep.refl _ w3) (p := ⟨q, 6, none⟩) (.inl rfl) v3
 have z3 := k3.size
 have zs := ks.size
 refine ⟨(h.blk.keep k3 nq).set 6 v3, ⟨_, _, ms.keep ks ?_ ?_, ?_, ?_⟩, h.lo, (h.bel.trans (k3.below h.bel.size (fun i hi hr => by have := hor i (.inr hr); have := h.lo; omega))).setCell h.lo _⟩
 ·rintro i (hi | hi) e
  ·have := hor i (.inl hi)
   have e : i = q := e
   omega
  ·have := h2 i hi
   have e : i = q := e
   omega
 ·rintro i (hi | hi) e
  ·have := hor i (.inr hi)
   have e : i = q := e
   omega
  ·have e : i = q := e
   omega
 ·rintro i ((hi | hi) | (hi | hi))
  ·have := hor i (.inl hi)
   omega
  ·have := h2 i hi
   omega
  ·have := hor i (.inr hi)
   omega
  ·omega
 ·rintro i (hi | hi) (hr | hr)
  ·exact hdj i hi hr
  ·have := hor i (.inl hi)
   omega
  ·have := h2 i hi
   have := hor i (.inr hr)
   omega
  ·have := h2 i hi
   omega
variable {q : Nat}
theorem FilN.own {w0 w : World} {b s T : Int} {out : List (Int × List Int)} {ov : Value} (h : FilN w0 w q b s T out ov) (hb : ∀ x ∈ out, IsB x.2 ∧ x.2.length ≤ 70368744177664) (hl : out.length ≤ 64) (hbb : -9223372036854775808 ≤ b ∧ b ≤ 9223372036854775807) (hbs : -9223372036854775808 ≤ s ∧ s ≤ 9223372036854775807) (hT : 0 ≤ T ∧ T ≤ 9223372036854775807) :
  filK.P ((w.setCell ⟨q, 1, none⟩ (.func (.func 47) #[.pointer (some ⟨q, 0, none⟩)] #[])).setCell ⟨q, 2, none⟩ (.func (.func 48) #[.pointer (some ⟨q, 0, none⟩)] #[])) q (fun i => q ≤ i ∧ i < w.heap.size) none (⟨b, s, out, T, [], []⟩ : FilT) := by
 obtain ⟨O, R, ms, hor, hdj⟩ := h.ms
 have lq := h.blk.lt
 have ks : Keep (fun i => i = q) w ((w.setCell ⟨q, 1, none⟩ (.func (.func 47) #[.pointer (some ⟨q, 0, none⟩)] #[])).setCell ⟨q, 2, none⟩ (.func (.func 48) #[.pointer (some ⟨q, 0, none⟩)] #[])) := ((Keep.refl (fun i => i = q) w).setCell (p := ⟨q, 1, none⟩) (.inl rfl) _).setCell (p := ⟨q, 2, none⟩) (.inl rfl) _
 have ms2 := ms.keep ks (fun i hi e => by have := hor i (.inl hi); omega) (fun i hi e => by have := hor i (.inr hi); omega)
 have zs := ks.size
 refine ⟨fun i => O i ∨ R i, fun _ => False, .pointer none, ov, .slice none 0 0, .slice none 0 0, ⟨(h.blk.set 1 _).set 2 _, ?_, rfl, ⟨fun hh => by have := hor q hh; omega, id⟩, ⟨nofun, nofun⟩, fun i hi => hi.elim⟩, ?_, fun i hi => by omega⟩
 ·exact ⟨ms2.rdms (fun i hi => by have := hor i (.inr hi); omega), World.ownsRow_nil _ _ _ _, World.ownsRow_nil _ _ _ _, fun i hi => (nomatch hi), fun i hi => (nomatch hi), fun i hi => by have := hor i hi; omega, hb, hbb, hbs, hT, ⟨by show 0 + out.length ≤ _; omega, Nat.le_refl _⟩⟩
 ·rintro i (hi | hi | hi | hi | hi)
  ·omega
  ·have := hor i hi
   omega
  ·cases hi
  ·cases hi
  ·exact hi.elim
variable {v : Value}
theorem RdMs.below {w w' : World} {L : Nat → Prop} {l : List (Int × List Int)} (h : RdMs w L v l) (b : Below w.heap.size w w') : RdMs w' L v l := h.keep (K := fun _ => False) (Below.keeps b) (fun _ _ => id)
variable {w : World}
theorem RdMs.at_ {L : Nat → Prop} {a : Option Addr} {n c : Nat} {l : List (Int × List Int)} (h : RdMs w L (.slice a n c) l) {k : Nat} {x : Int × List Int} (hx : l[k]? = some x) : ∃ g off s0 sl sc, a = some ⟨g, off, none⟩ ∧ g < w.heap.size ∧ w.cell? ⟨g, off + k * 2, none⟩ = some (.int .i32 x.1) ∧ w.cell? ⟨g, off + k * 2 + 1, none⟩ = some (.slice s0 sl sc) ∧ RdB w (.slice s0 sl sc) x.2 := by
 rcases h with ⟨_, _, _, rfl, _⟩ | ⟨g, off, cap, e1, e2, e3, e4, e5, e6⟩
 ·cases hx
 ·obtain ⟨s0, sl, sc, h1, h2, h3, _⟩ := e6 k x hx
  cases e1
  exact ⟨g, off, s0, sl, sc, rfl, e5, h1, h2, h3⟩
set_option maxHeartbeats 4000000 in
theorem filNew_any (b s tr : Int) (lv : Value) (l : List (Int × List Int)) (L0 : Nat → Prop) (w : World) (hr : RdMs w L0 lv l) (hb : ∀ x ∈ l, IsB x.2 ∧ x.2.length ≤ 70368744177664) (hb0 : -9223372036854775808 ≤ b) (hb1 : b ≤ 9223372036854775807) (hs0 : -9223372036854775808 ≤ s) (hs1 : s ≤ 9223372036854775807) (ht1 : tr ≤ 9223372036854775807) :
  Calls Tryz.prog 21 #[.agg #[.int .i64 b, .int .i64 s], lv, .int .i64 tr] w fun e w' => ∃ q F, e = .returned (ptr q) ∧ w.heap.size ≤ q ∧ filFam.inv w' F q (filC.start ⟨b, s, l.take 64, max tr 0, [], []⟩) ∧ (∀ i, F i → w.heap.size ≤ i) ∧ Below w.heap.size w w' := by
 have HR := Lib.hid hr
 have HB := Lib.hid hb
 obtain ⟨la, lc, rfl, hlc, hlm⟩ := hr.sl
 have HLC := Lib.hid hlc
 obtain ⟨N, hN⟩ : ∃ N, N = min l.length 64 := ⟨_, rfl⟩
 have HN := Lib.hid hN
 obtain ⟨ln, hln⟩ : ∃ ln, ln = l.length := ⟨_, rfl⟩
 have HLN := Lib.hid hln
 rw [← hln] at hlc hN ⊢
 obtain ⟨T, hT⟩ : ∃ T, T = max tr 0 := ⟨_, rfl⟩
 rw [← hT]
 have HTT := Lib.hid hT
 have HNN := Lib.hid hN
 clear hr hb hln hT hN
 go_enter Tryz.func21, Tryz.ntmps21
 go_upto_region 1 with fail
 go_cut [7] from 10 to 14 (fun f wx => f = .pointer (some ⟨w.heap.size + 1, 0, none⟩) ∧ FilN w wx (w.heap.size + 1) b s T [] (.slice none 0 0))
 case first =>
  by_cases h0 : tr < 0
  ·obtain rfl : T = 0 := by have := HTT.out; omega
   go_wp2_with fail
   all_goals (go_meet; refine ⟨rfl, ?_, ⟨fun _ => False, fun _ => False, MsIn.none2 _ _ _, fun i h => h.elim False.elim False.elim, fun i h => h.elim⟩, by omega, by go_grown⟩; have := Blk.made (w.alloc (Obj.cells #[.int .i64 b, .int .i64 s] 25)) #[.pointer none, .nilFunc, .nilFunc, .bool false, .int .i64 b, .int .i64 s, .slice none 0 0, .int .i64 0, .slice none 0 0, .slice none 0 0] 145; simpa using this)
  ·obtain rfl : tr = T := by have := HTT.out; omega
   go_wp2_with fail
   all_goals (go_meet; refine ⟨rfl, ?_, ⟨fun _ => False, fun _ => False, MsIn.none2 _ _ _, fun i h => h.elim False.elim False.elim, fun i h => h.elim⟩, by omega, by go_grown⟩; have := Blk.made (w.alloc (Obj.cells #[.int .i64 b, .int .i64 s] 25)) #[.pointer none, .nilFunc, .nilFunc, .bool false, .int .i64 b, .int .i64 s, .slice none 0 0, .int .i64 tr, .slice none 0 0, .slice none 0 0] 145; simpa using this)
 case rest =>
  obtain ⟨rfl, hfn⟩ := hcut
  have HFN := Lib.hid hfn
  clear hfn
  go_upto_region 2 with fail
  go_cut [19, 20, 21] from 15 to 21 (fun v n i wx => v = .slice la N lc ∧ n = .int .i64 N ∧ i = .int .i64 0 ∧ wx = wc)
  case first =>
   by_cases h6 : ln ≤ 64
   ·obtain rfl : ln = N := by have := HNN.out; omega
    have h7 : (ln : Int) ≤ 64 := by omega
    have h8 : (ln : Int) ≤ lc := by omega
    have h9 : ¬ (64 : Int) < ln := by omega
    by_cases h10 : ln = 64
    ·subst h10
     go_wp2_with fail
     all_goals (go_meet; exact ⟨rfl, rfl, rfl, rfl⟩)
    ·have h11 : (ln : Int) < 64 := by omega
     go_wp2_with fail
     all_goals (go_meet; exact ⟨rfl, rfl, rfl, rfl⟩)
   ·obtain rfl : N = 64 := by have := HNN.out; omega
    have h7 : ¬ (ln : Int) < 64 := by omega
    have h10 : ¬ (ln : Int) ≤ 64 := by omega
    have h9 : (64 : Int) < ln := by omega
    have h8 : (64 : Int) ≤ lc := by omega
    go_wp2_with fail
    all_goals (go_meet; exact ⟨rfl, rfl, rfl, rfl⟩)
  case rest =>
   obtain ⟨rfl, rfl, rfl, rfl⟩ := hcut
   go_wp2_with fail
   go_loopg [21] (N + 1) (fun gk i wr => ∃ (k : Nat) (ov : Value), gk + k = N + 1 ∧ k ≤ N ∧ i = .int .i64 k ∧ FilN w wr (w.heap.size + 1) b s T (l.take k) ov)
   case atStart => exact ⟨0, .slice none 0 0, by omega, by omega, rfl, by simpa using HFN.out⟩
   case round =>
    obtain ⟨k, ov, hgk, hkN, rfl, hF⟩ := hrel
    have HF := Lib.hid hF
    have HGK := Lib.hid hgk
    have hNl : N ≤ l.length := by have := HN.out; omega
    have HNL := Lib.hid hNl
    have hN64 : N ≤ 64 := by have := HN.out; omega
    have HN64 := Lib.hid hN64
    have W1 : IntKind.i64.wrap ((k : Int) + 1) = (k : Int) + 1 := IntWalk.i64_in _ ⟨by omega, by omega⟩
    have zr := hF.bel.size
    have lq := hF.blk.lt
    clear hF hgk hNl hN64
    by_cases hkl : k < N
    ·obtain ⟨x, hx⟩ : ∃ x, l[k]? = some x := ⟨_, List.getElem?_eq_getElem (by have := HNL.out; omega)⟩
     have HX := Lib.hid hx
     have hki : (k : Int) < (N : Int) := by omega
     obtain ⟨g, off, sa, sl, sc, rfl, hg, m0, m1, hrd⟩ := (HR.out.below (w' := wr) (HF.out.bel)).at_ hx
     have RX := Lib.hid hrd
     have HXB := Lib.hid (HB.out x (List.mem_of_getElem? hx))
     obtain ⟨O, R, hms, hor, hdj⟩ := HF.out.ms
     have HMS := Lib.hid hms
     have HOR := Lib.hid hor
     have HDJ := Lib.hid hdj
     obtain ⟨va0, vc0, rfl⟩ := hms.sl
     have HFL : Hid ((l.take k).length = k) := Lib.hid (by rw [List.length_take]; have := HNL.out; omega)
     have c6 : wr.cell? ⟨w.heap.size + 1, 6, none⟩ = some (.slice va0 (l.take k).length vc0) := Blk.cell HF.out.blk 6
     have f6 : wr.frozen? ⟨w.heap.size + 1, 6, none⟩ = false := HF.out.blk.frozen 6
     rw [HFL.out] at c6
     rw [HFL.out] at hms
     have HMS := Lib.hid hms
     have HNR : Hid (¬ R (w.heap.size + 1)) := Lib.hid (fun h => Nat.lt_irrefl _ (hor _ (.inr h)).1)
     have HTK : Hid (l.take (k + 1) = l.take k ++ [(x.1, x.2)]) := Lib.hid (by rw [List.take_add_one, hx]; rfl)
     clear hx hrd hms hor hdj
     go_upto_region 5 with fail
     refine wp_region_held_drew (S := (fun w' => w'.cell? ⟨wr.heap.size, 0, none⟩ = some (.int .i32 x.1) ∧ w'.cell? ⟨wr.heap.size, 1, none⟩ = some (.slice sa sl sc))) (by kernel_rfl) ?_ (fun hHeld => ?_)
     ·try dsimp only
      go_keep
     refine wpT (v := ?_) 0 rfl ?_ ?_
     rotate_left
     ·intro w0 hSw
      (try dsimp only at hSw)
      go_simp
      try with_reducible rfl
     try simp only [Act.put, tS]
     refine wpT (v := ?_) 1 rfl ?_ ?_
     rotate_left
     ·intro w0 hSw
      (try dsimp only at hSw)
      go_simp
      try with_reducible rfl
     try simp only [Act.put, tS]
     refine wpT (v := ?_) 2 rfl ?_ ?_
     rotate_left
     ·intro w0 hSw
      (try dsimp only at hSw)
      go_simp
      try with_reducible rfl
     try simp only [Act.put, tS]
     refine wpT (v := ?_) 3 rfl ?_ ?_
     rotate_left
     ·intro w0 hSw
      (try dsimp only at hSw)
      go_simp
      try with_reducible rfl
     try simp only [Act.put, tS]
     refine wpT (v := ?_) 5 rfl ?_ ?_
     rotate_left
     ·intro w0 hSw
      (try dsimp only at hSw)
      go_simp
      try with_reducible rfl
     try simp only [Act.put, tS]
     refine wpT (v := ?_) 6 rfl ?_ ?_
     rotate_left
     ·intro w0 hSw
      (try dsimp only at hSw)
      go_simp
      try with_reducible rfl
     try simp only [Act.put, tS]
     refine wpT (v := ?_) 7 rfl ?_ ?_
     rotate_left
     ·intro w0 hSw
      (try dsimp only at hSw)
      go_simp
      try with_reducible rfl
     try simp only [Act.put, tS]
     refine wpT (v := ?_) 8 rfl ?_ ?_
     rotate_left
     ·intro w0 hSw
      (try dsimp only at hSw)
      go_simp
      try with_reducible rfl
     try simp only [Act.put, tS]
     refine wpAnyH_ready (rs := [4, 9]) (by kernel_rfl) (by simp) ?_
     refine AllReadyH.cons rfl (fun K hK => ?_) (AllReadyH.cons rfl (fun K hK => ?_) AllReadyH.nil)
     ·go_simp
      refine hK.out _ _ ?_ (fun hHeld => ?_)
      ·try dsimp only
       go_keep
      clear hK K
      try simp only [Act.put, tS]
      refine wpR 9 rfl fun K hK => ?_
      go_simp
      refine (clone_any _ x.2 _ (RX.out.below (by go_grown)) (by have := HXB.out.2; omega)).mono ?_
      rintro e w2 ⟨sv, rfl, ho2, b2⟩
      obtain ⟨va, vn, vc, rfl⟩ := own_isSl ho2
      have HO2 := Lib.hid ho2
      have HO2L : Hid (∀ i, (Value.slice va vn vc).ownBlock = some i → wr.heap.size ≤ i ∧ i < w2.heap.size) := Lib.hid (fun i hi => by have := World.ownsRow.lt ho2 i hi; simp at this; omega)
      have HD3 : Hid (∀ i, O i ∨ (Value.slice va vn vc).ownBlock = some i → ¬ R i) := Lib.hid (fun i hi h => by rcases hi with hi | hi; exact HDJ.out i hi h; have h1 := HO2L.out i hi; have h2 := HOR.out i (.inr h); omega)
      have B2 : Hid (Below wr.heap.size wr w2) := Lib.hid ((by go_grown : Below wr.heap.size wr _).trans (b2.mono (by simp)))
      have z2 := b2.size
      simp at z2
      have lq2 : w.heap.size + 1 < w2.heap.size := by omega
      have c62 := (B2.out.cell (p := ⟨w.heap.size + 1, 6, none⟩) lq).trans c6
      have HM2 : Hid (w2.cell? ⟨wr.heap.size, 0, none⟩ = some (.int .i32 x.1) ∧ w2.cell? ⟨wr.heap.size, 1, none⟩ = some (.slice sa sl sc)) := Lib.hid ⟨(b2.cell (p := ⟨wr.heap.size, 0, none⟩) (by simp)).trans hHeld.1, (b2.cell (p := ⟨wr.heap.size, 1, none⟩) (by simp)).trans hHeld.2⟩
      clear ho2 b2
      go_wp2_with fail
      refine hK.out _ _ ?_ (fun hHeld => ?_)
      ·try dsimp only
       exact HM2.out
      clear hK K
      try simp only [Act.put, tS]
      refine wpT (v := ?_) 10 rfl ?_ ?_
      rotate_left
      ·intro w0 hSw
       (try dsimp only at hSw)
       go_simp
       try with_reducible rfl
      try simp only [Act.put, tS]
      refine wpR 11 rfl fun K hK => ?_
      go_simp
      refine hK.out _ _ ?_ (fun hHeld => ?_)
      ·try dsimp only
       go_keep
      clear hK K
      try simp only [Act.put, tS]
      refine wpR 12 rfl fun K hK => ?_
      have hnew := Lib.hid (Blk.made w2 #[.int .i32 x.1, .slice va vn vc] 34)
      have B3 : Hid (Below wr.heap.size wr (w2.alloc (Obj.cells #[.int .i32 x.1, .slice va vn vc] 34))) := Lib.hid (B2.out.trans ((Below.refl w2.heap.size w2).alloc (Nat.le_refl _) _ |>.mono (by omega)))
      have b4 : Below w2.heap.size w2 (w2.alloc (Obj.cells #[.int .i32 x.1, .slice va vn vc] 34)) := (Below.refl w2.heap.size w2).alloc (Nat.le_refl _) _
      have HMS3 := Lib.hid (HMS.out.keep (Below.keeps (M := fun _ => False) B3.out) (fun _ _ => id) (fun _ _ => id))
      refine step_appMs1 (by rfl) _ _ (by rfl) (O := O) (R := R) (O2 := fun i => (Value.slice va vn vc).ownBlock = some i) (v := .slice va0 k vc0) (dv := .slice va vn vc) (l := l.take k) (t := x.1) (d := x.2) (by rfl) w2.heap.size (by rfl) hnew.out HMS3.out (HO2.out.rd.below b4) (fun i hi => hi) (by have := HFL.out; have := HN64.out; omega) HD3.out ?_
      intro v3 w3 ms3 k3
      have z3 := k3.size
      simp only [World.size_alloc] at z3
      obtain ⟨xa, xn, xc, rfl⟩ : ∃ a n c, v3 = .slice a n c := by obtain ⟨a, c, e⟩ := ms3.sl; exact ⟨_, _, _, e⟩
      have K3 : Hid (Keep R wr w3) := Lib.hid ((Below.keeps (M := R) B3.out).trans k3)
      have MS3 := Lib.hid ms3
      have c63 := (K3.out.cell (b := w.heap.size + 1) 6 lq HNR.out).trans c6
      have f63 := (K3.out.frozen (b := w.heap.size + 1) 6 lq HNR.out).trans f6
      have hs3 : (fun w' : World => w'.cell? ⟨wr.heap.size, 0, none⟩ = some (.int .i32 x.1) ∧ w'.cell? ⟨wr.heap.size, 1, none⟩ = some (.slice sa sl sc)) w3 := ⟨(k3.cell (b := wr.heap.size) 0 (by simp; omega) (fun h => by have := HOR.out _ (.inr h); omega)).trans ((b4.cell (p := ⟨wr.heap.size, 0, none⟩) (by show wr.heap.size < w2.heap.size; omega)).trans HM2.out.1), (k3.cell (b := wr.heap.size) 1 (by simp; omega) (fun h => by have := HOR.out _ (.inr h); omega)).trans ((b4.cell (p := ⟨wr.heap.size, 1, none⟩) (by show wr.heap.size < w2.heap.size; omega)).trans HM2.out.2)⟩
      have HS3 := Lib.hid hs3
      have HKS := Lib.hid (Keep.setCell (M := (· = w.heap.size + 1)) (Keep.refl _ w3) (p := ⟨w.heap.size + 1, 6, none⟩) (.inl rfl) (.slice xa xn xc))
      clear k3 ms3 hs3
      refine hK.out _ _ ?_ (fun hHeld => ?_)
      ·try dsimp only
       exact HS3.out
      clear hK K
      try simp only [Act.put, tS]
      refine wpT (v := ?_) 13 rfl ?_ ?_
      rotate_left
      ·intro w0 hSw
       (try dsimp only at hSw)
       go_simp
       try with_reducible rfl
      try simp only [Act.put, tS]
      refine wpT (v := ?_) 14 rfl ?_ ?_
      rotate_left
      ·intro w0 hSw
       (try dsimp only at hSw)
       go_simp
       try with_reducible rfl
      try simp only [Act.put, tS]
      refine wpR 15 rfl fun K hK => ?_
      go_simp
      refine hK.out _ _ ?_ (fun hHeld => ?_)
      ·try dsimp only
       exact ⟨(HKS.out.cell (b := wr.heap.size) 0 (by omega) (by omega)).trans HS3.out.1, (HKS.out.cell (b := wr.heap.size) 1 (by omega) (by omega)).trans HS3.out.2⟩
      clear hK K
      try simp only [Act.put, tS]
      refine wpAnyH_done (by kernel_rfl) ?_ _
      clear hHeld
      have HFE := Lib.hid (HF.out.step K3.out MS3.out HOR.out HDJ.out (fun i hi => by have := HO2L.out i hi; simp; omega) (by simp; omega) (by simp; omega))
      go_wp2_with fail
      have hn64 := HN64.out
      go_roundg (N - k)
      case measure => have := HGK.out; omega
      case rel => exact ⟨k + 1, _, by omega, by omega, by go_num, by rw [HTK.out]; exact HFE.out⟩
     ·go_simp
      refine (clone_any _ x.2 _ (RX.out.below (by go_grown)) (by have := HXB.out.2; omega)).mono ?_
      rintro e w2 ⟨sv, rfl, ho2, b2⟩
      obtain ⟨va, vn, vc, rfl⟩ := own_isSl ho2
      have HO2 := Lib.hid ho2
      have HO2L : Hid (∀ i, (Value.slice va vn vc).ownBlock = some i → wr.heap.size ≤ i ∧ i < w2.heap.size) := Lib.hid (fun i hi => by have := World.ownsRow.lt ho2 i hi; simp at this; omega)
      have HD3 : Hid (∀ i, O i ∨ (Value.slice va vn vc).ownBlock = some i → ¬ R i) := Lib.hid (fun i hi h => by rcases hi with hi | hi; exact HDJ.out i hi h; have h1 := HO2L.out i hi; have h2 := HOR.out i (.inr h); omega)
      have B2 : Hid (Below wr.heap.size wr w2) := Lib.hid ((by go_grown : Below wr.heap.size wr _).trans (b2.mono (by simp)))
      have z2 := b2.size
      simp at z2
      have lq2 : w.heap.size + 1 < w2.heap.size := by omega
      have c62 := (B2.out.cell (p := ⟨w.heap.size + 1, 6, none⟩) lq).trans c6
      have HM2 : Hid (w2.cell? ⟨wr.heap.size, 0, none⟩ = some (.int .i32 x.1) ∧ w2.cell? ⟨wr.heap.size, 1, none⟩ = some (.slice sa sl sc)) := Lib.hid ⟨(b2.cell (p := ⟨wr.heap.size, 0, none⟩) (by simp)).trans hHeld.1, (b2.cell (p := ⟨wr.heap.size, 1, none⟩) (by simp)).trans hHeld.2⟩
      clear ho2 b2
      go_wp2_with fail
      refine hK.out _ _ ?_ (fun hHeld => ?_)
      ·try dsimp only
       exact HM2.out
      clear hK K
      try simp only [Act.put, tS]
      refine wpT (v := ?_) 10 rfl ?_ ?_
      rotate_left
      ·intro w0 hSw
       (try dsimp only at hSw)
       go_simp
       try with_reducible rfl
      try simp only [Act.put, tS]
      refine wpAnyH_ready (rs := [4, 11]) (by kernel_rfl) (by simp) ?_
      refine AllReadyH.cons rfl (fun K hK => ?_) (AllReadyH.cons rfl (fun K hK => ?_) AllReadyH.nil)
      ·go_simp
       refine hK.out _ _ ?_ (fun hHeld => ?_)
       ·try dsimp only
        exact HM2.out
       clear hK K
       try simp only [Act.put, tS]
       refine wpR 11 rfl fun K hK => ?_
       go_simp
       refine hK.out _ _ ?_ (fun hHeld => ?_)
       ·try dsimp only
        go_keep
       clear hK K
       try simp only [Act.put, tS]
       refine wpR 12 rfl fun K hK => ?_
       have hnew := Lib.hid (Blk.made w2 #[.int .i32 x.1, .slice va vn vc] 34)
       have B3 : Hid (Below wr.heap.size wr (w2.alloc (Obj.cells #[.int .i32 x.1, .slice va vn vc] 34))) := Lib.hid (B2.out.trans ((Below.refl w2.heap.size w2).alloc (Nat.le_refl _) _ |>.mono (by omega)))
       have b4 : Below w2.heap.size w2 (w2.alloc (Obj.cells #[.int .i32 x.1, .slice va vn vc] 34)) := (Below.refl w2.heap.size w2).alloc (Nat.le_refl _) _
       have HMS3 := Lib.hid (HMS.out.keep (Below.keeps (M := fun _ => False) B3.out) (fun _ _ => id) (fun _ _ => id))
       refine step_appMs1 (by rfl) _ _ (by rfl) (O := O) (R := R) (O2 := fun i => (Value.slice va vn vc).ownBlock = some i) (v := .slice va0 k vc0) (dv := .slice va vn vc) (l := l.take k) (t := x.1) (d := x.2) (by rfl) w2.heap.size (by rfl) hnew.out HMS3.out (HO2.out.rd.below b4) (fun i hi => hi) (by have := HFL.out; have := HN64.out; omega) HD3.out ?_
       intro v3 w3 ms3 k3
       have z3 := k3.size
       simp only [World.size_alloc] at z3
       obtain ⟨xa, xn, xc, rfl⟩ : ∃ a n c, v3 = .slice a n c := by obtain ⟨a, c, e⟩ := ms3.sl; exact ⟨_, _, _, e⟩
       have K3 : Hid (Keep R wr w3) := Lib.hid ((Below.keeps (M := R) B3.out).trans k3)
       have MS3 := Lib.hid ms3
       have c63 := (K3.out.cell (b := w.heap.size + 1) 6 lq HNR.out).trans c6
       have f63 := (K3.out.frozen (b := w.heap.size + 1) 6 lq HNR.out).trans f6
       have hs3 : (fun w' : World => w'.cell? ⟨wr.heap.size, 0, none⟩ = some (.int .i32 x.1) ∧ w'.cell? ⟨wr.heap.size, 1, none⟩ = some (.slice sa sl sc)) w3 := ⟨(k3.cell (b := wr.heap.size) 0 (by simp; omega) (fun h => by have := HOR.out _ (.inr h); omega)).trans ((b4.cell (p := ⟨wr.heap.size, 0, none⟩) (by show wr.heap.size < w2.heap.size; omega)).trans HM2.out.1), (k3.cell (b := wr.heap.size) 1 (by simp; omega) (fun h => by have := HOR.out _ (.inr h); omega)).trans ((b4.cell (p := ⟨wr.heap.size, 1, none⟩) (by show wr.heap.size < w2.heap.size; omega)).trans HM2.out.2)⟩
       have HS3 := Lib.hid hs3
       have HKS := Lib.hid (Keep.setCell (M := (· = w.heap.size + 1)) (Keep.refl _ w3) (p := ⟨w.heap.size + 1, 6, none⟩) (.inl rfl) (.slice xa xn xc))
       clear k3 ms3 hs3
       refine hK.out _ _ ?_ (fun hHeld => ?_)
       ·try dsimp only
        exact HS3.out
       clear hK K
       try simp only [Act.put, tS]
       refine wpT (v := ?_) 13 rfl ?_ ?_
       rotate_left
       ·intro w0 hSw
        (try dsimp only at hSw)
        go_simp
        try with_reducible rfl
       try simp only [Act.put, tS]
       refine wpT (v := ?_) 14 rfl ?_ ?_
       rotate_left
       ·intro w0 hSw
        (try dsimp only at hSw)
        go_simp
        try with_reducible rfl
       try simp only [Act.put, tS]
       refine wpR 15 rfl fun K hK => ?_
       go_simp
       refine hK.out _ _ ?_ (fun hHeld => ?_)
       ·try dsimp only
        exact ⟨(HKS.out.cell (b := wr.heap.size) 0 (by omega) (by omega)).trans HS3.out.1, (HKS.out.cell (b := wr.heap.size) 1 (by omega) (by omega)).trans HS3.out.2⟩
       clear hK K
       try simp only [Act.put, tS]
       refine wpAnyH_done (by kernel_rfl) ?_ _
       clear hHeld
       have HFE := Lib.hid (HF.out.step K3.out MS3.out HOR.out HDJ.out (fun i hi => by have := HO2L.out i hi; simp; omega) (by simp; omega) (by simp; omega))
       go_wp2_with fail
       have hn64 := HN64.out
       go_roundg (N - k)
       case measure => have := HGK.out; omega
       case rel => exact ⟨k + 1, _, by omega, by omega, by go_num, by rw [HTK.out]; exact HFE.out⟩
      ·go_simp
       refine hK.out _ _ ?_ (fun hHeld => ?_)
       ·try dsimp only
        go_keep
       clear hK K
       try simp only [Act.put, tS]
       refine wpR 4 rfl fun K hK => ?_
       go_simp
       refine hK.out _ _ ?_ (fun hHeld => ?_)
       ·try dsimp only
        go_keep
       clear hK K
       try simp only [Act.put, tS]
       refine wpR 12 rfl fun K hK => ?_
       have hnew := Lib.hid (Blk.made w2 #[.int .i32 x.1, .slice va vn vc] 34)
       have B3 : Hid (Below wr.heap.size wr (w2.alloc (Obj.cells #[.int .i32 x.1, .slice va vn vc] 34))) := Lib.hid (B2.out.trans ((Below.refl w2.heap.size w2).alloc (Nat.le_refl _) _ |>.mono (by omega)))
       have b4 : Below w2.heap.size w2 (w2.alloc (Obj.cells #[.int .i32 x.1, .slice va vn vc] 34)) := (Below.refl w2.heap.size w2).alloc (Nat.le_refl _) _
       have HMS3 := Lib.hid (HMS.out.keep (Below.keeps (M := fun _ => False) B3.out) (fun _ _ => id) (fun _ _ => id))
       refine step_appMs1 (by rfl) _ _ (by rfl) (O := O) (R := R) (O2 := fun i => (Value.slice va vn vc).ownBlock = some i) (v := .slice va0 k vc0) (dv := .slice va vn vc) (l := l.take k) (t := x.1) (d := x.2) (by rfl) w2.heap.size (by rfl) hnew.out HMS3.out (HO2.out.rd.below b4) (fun i hi => hi) (by have := HFL.out; have := HN64.out; omega) HD3.out ?_
       intro v3 w3 ms3 k3
       have z3 := k3.size
       simp only [World.size_alloc] at z3
       obtain ⟨xa, xn, xc, rfl⟩ : ∃ a n c, v3 = .slice a n c := by obtain ⟨a, c, e⟩ := ms3.sl; exact ⟨_, _, _, e⟩
       have K3 : Hid (Keep R wr w3) := Lib.hid ((Below.keeps (M := R) B3.out).trans k3)
       have MS3 := Lib.hid ms3
       have c63 := (K3.out.cell (b := w.heap.size + 1) 6 lq HNR.out).trans c6
       have f63 := (K3.out.frozen (b := w.heap.size + 1) 6 lq HNR.out).trans f6
       have hs3 : (fun w' : World => w'.cell? ⟨wr.heap.size, 0, none⟩ = some (.int .i32 x.1) ∧ w'.cell? ⟨wr.heap.size, 1, none⟩ = some (.slice sa sl sc)) w3 := ⟨(k3.cell (b := wr.heap.size) 0 (by simp; omega) (fun h => by have := HOR.out _ (.inr h); omega)).trans ((b4.cell (p := ⟨wr.heap.size, 0, none⟩) (by show wr.heap.size < w2.heap.size; omega)).trans HM2.out.1), (k3.cell (b := wr.heap.size) 1 (by simp; omega) (fun h => by have := HOR.out _ (.inr h); omega)).trans ((b4.cell (p := ⟨wr.heap.size, 1, none⟩) (by show wr.heap.size < w2.heap.size; omega)).trans HM2.out.2)⟩
       have HS3 := Lib.hid hs3
       have HKS := Lib.hid (Keep.setCell (M := (· = w.heap.size + 1)) (Keep.refl _ w3) (p := ⟨w.heap.size + 1, 6, none⟩) (.inl rfl) (.slice xa xn xc))
       clear k3 ms3 hs3
       refine hK.out _ _ ?_ (fun hHeld => ?_)
       ·try dsimp only
        exact HS3.out
       clear hK K
       try simp only [Act.put, tS]
       refine wpT (v := ?_) 13 rfl ?_ ?_
       rotate_left
       ·intro w0 hSw
        (try dsimp only at hSw)
        go_simp
        try with_reducible rfl
       try simp only [Act.put, tS]
       refine wpT (v := ?_) 14 rfl ?_ ?_
       rotate_left
       ·intro w0 hSw
        (try dsimp only at hSw)
        go_simp
        try with_reducible rfl
       try simp only [Act.put, tS]
       refine wpR 15 rfl fun K hK => ?_
       go_simp
       refine hK.out _ _ ?_ (fun hHeld => ?_)
       ·try dsimp only
        exact ⟨(HKS.out.cell (b := wr.heap.size) 0 (by omega) (by omega)).trans HS3.out.1, (HKS.out.cell (b := wr.heap.size) 1 (by omega) (by omega)).trans HS3.out.2⟩
       clear hK K
       try simp only [Act.put, tS]
       refine wpAnyH_done (by kernel_rfl) ?_ _
       clear hHeld
       have HFE := Lib.hid (HF.out.step K3.out MS3.out HOR.out HDJ.out (fun i hi => by have := HO2L.out i hi; simp; omega) (by simp; omega) (by simp; omega))
       go_wp2_with fail
       have hn64 := HN64.out
       go_roundg (N - k)
       case measure => have := HGK.out; omega
       case rel => exact ⟨k + 1, _, by omega, by omega, by go_num, by rw [HTK.out]; exact HFE.out⟩
    ·obtain rfl : k = N := by omega
     have hnl : ¬ (k : Int) < (k : Int) := by omega
     have c1 : wr.cell? ⟨w.heap.size + 1, 1, none⟩ = some .nilFunc := Blk.cell HF.out.blk 1
     have c2 : wr.cell? ⟨w.heap.size + 1, 2, none⟩ = some .nilFunc := Blk.cell HF.out.blk 2
     have f1 : wr.frozen? ⟨w.heap.size + 1, 1, none⟩ = false := HF.out.blk.frozen 1
     have f2 : wr.frozen? ⟨w.heap.size + 1, 2, none⟩ = false := HF.out.blk.frozen 2
     have HTK : Hid (l.take k = l.take 64) := Lib.hid (List.take_eq_take_iff.2 (by have := HN.out; omega))
     have hP := HF.out.own (fun x hx => HB.out x (List.mem_of_mem_take hx)) (by rw [List.length_take]; have := HN64.out; omega) ⟨hb0, hb1⟩ ⟨hs0, hs1⟩ (by have := HTT.out; omega)
     rw [HTK.out] at hP
     have HP := Lib.hid hP
     have HFB := Lib.hid HF.out.bel
     clear hP
     go_wp2_with fail
     refine (chStart_p filK fil_ty _ (w.heap.size + 1) _ none (⟨b, s, l.take 64, T, [], []⟩ : FilT) (filC.fu ⟨b, s, l.take 64, T, [], []⟩) HP.out (fil_enough.mo _)).mono ?_
     rintro e w5 ⟨rfl, ho5, F5, hp5, hg5, k5⟩
     have z5 := k5.size
     simp at z5
     have HP5 := Lib.hid hp5
     have HO5 := Lib.hid ho5
     have HG5 : Hid (∀ i, F5 i → w.heap.size ≤ i) := Lib.hid (fun i hi => (hg5 i hi).elim (fun h => by omega) (fun h => by simp at h; omega))
     have HB5 : Hid (Below w.heap.size w w5) := Lib.hid (((HFB.out.setCell (by show w.heap.size ≤ w.heap.size + 1; omega) _).setCell (by show w.heap.size ≤ w.heap.size + 1; omega) _).trans (k5.below (by simp; omega) (fun i hi h => by omega)))
     clear hp5 hg5 k5 ho5
     go_wp2
     go_ret
     exact ⟨w.heap.size + 1, F5, rfl, by omega, ⟨HP5.out, fil_enough.mo _, HO5.out⟩, HG5.out, HB5.out⟩
theorem erSl (w : World) (a : Option Addr) (n c n' c' : Nat) : (binOp .eql 90 (.slice a n c) (.slice none n' c')).run Tryz.prog w = .ok (.bool a.isNone) w := Lib.run_eql_slice_nil w _ _ a n c n' c' Tryz.underlying90
set_option maxHeartbeats 1000000 in
theorem erClone_any {L : List Int} (w : World) (h : w.ownsRow 0 28 1 v L.length (L.map (.int .i64))) (hl : L.length ≤ 1099511627776) :
  Calls Tryz.prog 59 #[v] w fun e w' => ∃ v', e = .returned v' ∧ w'.ownsRow 0 28 1 v' L.length (L.map (.int .i64)) ∧ (∀ i, v'.ownBlock = some i → w.heap.size ≤ i) ∧ Below w.heap.size w w' := by
 have q := erSl
 obtain ⟨i0, hi, hz0, hz1, hz2⟩ := info_parts erinfo
 have HO := Lib.hid h
 rcases h.2 with ⟨rfl, h0⟩ | ⟨g, cap, cur, rfl, _⟩
 ·have h1 : L = [] := List.eq_nil_of_length_eq_zero h0
  subst h1
  clear h
  go_enter Tryz.func59, Tryz.ntmps59
  go_wp2
  go_ret
  exact ⟨_, rfl, World.ownsRow_nil _ _ _ _, fun i hi => (nomatch hi), Below.refl _ _⟩
 ·obtain ⟨n, hn⟩ : ∃ n, n = L.length := ⟨_, rfl⟩
  have HNN := Lib.hid hn
  rw [← hn] at hl ⊢
  clear h hn
  go_enter Tryz.func59, Tryz.ntmps59
  have b1 : Below w.heap.size w (w.alloc (.cells #[] 28)) := (Below.refl _ _).alloc (Nat.le_refl _) _
  have o1 : (w.alloc (.cells #[] 28)).ownsRow 0 28 1 (.slice (some ⟨w.heap.size, 0, none⟩) 0 0) 0 [] := ⟨by simp, .inr ⟨w.heap.size, 0, #[], rfl, Nat.zero_le _, (MapKept.heap_alloc w _).1, Nat.le_refl _, by unfold maxLen; omega, by simp, by simp⟩⟩
  have o2 := ownsRow_keep HO.out (Below.keeps (M := fun _ => False) b1) (fun _ _ => id)
  have HN := Lib.hid (show ∀ j u, (L.map (Value.int .i64))[j]? = some u → (w.alloc (.cells #[] 28)).cell? ⟨g, j, none⟩ = some u from by
   intro j u hu
   have hj : j < L.length * 1 := by have := (List.getElem?_eq_some_iff.1 hu).1; rw [List.length_map] at this; omega
   rw [World.ownsRow.cellAt o2 j hj]
   exact hu)
  have O1 := Lib.hid o1
  have B1 := Lib.hid b1
  clear o1 o2 b1
  rw [← HNN.out] at HO
  go_wp2_with (refine list_appN rfl (.tmp 5) (.tmp 6) 90 28 rfl Tryz.underlying90 hi hz0 hz1 hz2 rfl (by decide) (.slice (some ⟨w.heap.size, 0, none⟩) 0 0) 0 [] rfl O1.out g n cap (L.map (.int .i64)) rfl HN.out (by rw [List.length_map, HNN.out]; omega) (by intro u hu; obtain ⟨a, _, rfl⟩ := List.mem_map.1 hu; rfl) (by omega) (by unfold maxLen; omega) ?_)
  intro v' w' o3 g3 e3
  have K3 := grown_keep g3
  have kk : Keep (fun i => (Value.slice (some ⟨w.heap.size, 0, none⟩) 0 0).ownBlock = some i) w w' := (Below.keeps B1.out).trans K3
  have bb : Below w.heap.size w w' := (Below.refl w.heap.size w).trans (kk.below (B := w.heap.size) (Nat.le_refl _) (fun i hi h => by have h2 : w.heap.size = i := Option.some.inj h; omega))
  go_wp2
  go_ret
  refine ⟨v', rfl, by simpa using o3, fun i hi => ?_, bb⟩
  rcases e3 with e | e
  ·rw [e] at hi
   cases hi
   exact Nat.le_refl _
  ·rw [e] at hi
   cases hi
   simp
set_option maxHeartbeats 1000000 in
theorem filDone_any {F : Nat → Prop} {cur : Option PutM} {t : FilT} (h : filK.P w q F cur t) :
  Calls Tryz.prog 29 #[ptr q] w fun e w' => ∃ v, e = .returned v ∧ w'.ownsRow 0 28 1 v t.done.length (t.done.map (.int .i64)) ∧ (∀ i, v.ownBlock = some i → w.heap.size ≤ i) ∧ Below w.heap.size w w' := by
 obtain ⟨L, F1, nv, lv, dv, pv, hf, hO, hF⟩ := h
 have c := Blk.cell hf.blk 8
 have ho := hf.d.od
 have hsm := hf.d.sm
 obtain ⟨xa, xn, xc, e⟩ := own_isSl ho
 have HC := Lib.hid (erClone_any w ho (by omega))
 have hlt := hf.blk.lt
 rw [show (filV q nv (FilM.live ⟨cur, t⟩) t lv dv pv)[8]? = some dv from rfl] at c
 subst e
 clear hf ho hO hF hsm
 unfold ptr
 go_enter Tryz.func29, Tryz.ntmps29
 go_wp2_with fail
 refine HC.out.mono ?_
 rintro e w' ⟨v', rfl, h1, h2, h3⟩
 obtain ⟨ya, yn, yc, rfl⟩ := own_isSl h1
 have H1 := Lib.hid h1
 have H2 := Lib.hid h2
 have H3 := Lib.hid h3
 clear h1 h2 h3
 go_wp2
 go_ret
 exact ⟨_, rfl, H1.out, H2.out, H3.out⟩
theorem i6Sl (w : World) (a : Option Addr) (n c n' c' : Nat) : (binOp .eql 143 (.slice a n c) (.slice none n' c')).run Tryz.prog w = .ok (.bool a.isNone) w := Lib.run_eql_slice_nil w _ _ a n c n' c' Tryz.underlying143
set_option maxHeartbeats 1000000 in
theorem i6Clone_any {L : List Int} (w : World) (h : w.ownsRow 0 2 1 v L.length (L.map (.int .i64))) (hl : L.length ≤ 1099511627776) :
  Calls Tryz.prog 90 #[v] w fun e w' => ∃ v', e = .returned v' ∧ w'.ownsRow 0 2 1 v' L.length (L.map (.int .i64)) ∧ (∀ i, v'.ownBlock = some i → w.heap.size ≤ i) ∧ Below w.heap.size w w' := by
 have q := i6Sl
 obtain ⟨i0, hi, hz0, hz1, hz2⟩ := info_parts i64info
 have HO := Lib.hid h
 rcases h.2 with ⟨rfl, h0⟩ | ⟨g, cap, cur, rfl, _⟩
 ·have h1 : L = [] := List.eq_nil_of_length_eq_zero h0
  subst h1
  clear h
  go_enter Tryz.func90, Tryz.ntmps90
  go_wp2
  go_ret
  exact ⟨_, rfl, World.ownsRow_nil _ _ _ _, fun i hi => (nomatch hi), Below.refl _ _⟩
 ·obtain ⟨n, hn⟩ : ∃ n, n = L.length := ⟨_, rfl⟩
  have HNN := Lib.hid hn
  rw [← hn] at hl ⊢
  clear h hn
  go_enter Tryz.func90, Tryz.ntmps90
  have b1 : Below w.heap.size w (w.alloc (.cells #[] 2)) := (Below.refl _ _).alloc (Nat.le_refl _) _
  have o1 : (w.alloc (.cells #[] 2)).ownsRow 0 2 1 (.slice (some ⟨w.heap.size, 0, none⟩) 0 0) 0 [] := ⟨by simp, .inr ⟨w.heap.size, 0, #[], rfl, Nat.zero_le _, (MapKept.heap_alloc w _).1, Nat.le_refl _, by unfold maxLen; omega, by simp, by simp⟩⟩
  have o2 := ownsRow_keep HO.out (Below.keeps (M := fun _ => False) b1) (fun _ _ => id)
  have HN := Lib.hid (show ∀ j u, (L.map (Value.int .i64))[j]? = some u → (w.alloc (.cells #[] 2)).cell? ⟨g, j, none⟩ = some u from by
   intro j u hu
   have hj : j < L.length * 1 := by have := (List.getElem?_eq_some_iff.1 hu).1; rw [List.length_map] at this; omega
   rw [World.ownsRow.cellAt o2 j hj]
   exact hu)
  have O1 := Lib.hid o1
  have B1 := Lib.hid b1
  clear o1 o2 b1
  rw [← HNN.out] at HO
  go_wp2_with (refine list_appN rfl (.tmp 5) (.tmp 6) 143 2 rfl Tryz.underlying143 hi hz0 hz1 hz2 rfl (by decide) (.slice (some ⟨w.heap.size, 0, none⟩) 0 0) 0 [] rfl O1.out g n cap (L.map (.int .i64)) rfl HN.out (by rw [List.length_map, HNN.out]; omega) (by intro u hu; obtain ⟨a, _, rfl⟩ := List.mem_map.1 hu; rfl) (by omega) (by unfold maxLen; omega) ?_)
  intro v' w' o3 g3 e3
  have K3 := grown_keep g3
  have kk : Keep (fun i => (Value.slice (some ⟨w.heap.size, 0, none⟩) 0 0).ownBlock = some i) w w' := (Below.keeps B1.out).trans K3
  have bb : Below w.heap.size w w' := (Below.refl w.heap.size w).trans (kk.below (B := w.heap.size) (Nat.le_refl _) (fun i hi h => by have h2 : w.heap.size = i := Option.some.inj h; omega))
  go_wp2
  go_ret
  refine ⟨v', rfl, by simpa using o3, fun i hi => ?_, bb⟩
  rcases e3 with e | e
  ·rw [e] at hi
   cases hi
   exact Nat.le_refl _
  ·rw [e] at hi
   cases hi
   simp
set_option maxHeartbeats 1000000 in
theorem filPlaces_any {F : Nat → Prop} {cur : Option PutM} {t : FilT} (h : filK.P w q F cur t) :
  Calls Tryz.prog 54 #[ptr q] w fun e w' => ∃ v, e = .returned v ∧ w'.ownsRow 0 2 1 v t.places.length (t.places.map (.int .i64)) ∧ (∀ i, v.ownBlock = some i → w.heap.size ≤ i) ∧ Below w.heap.size w w' := by
 obtain ⟨L, F1, nv, lv, dv, pv, hf, hO, hF⟩ := h
 have c := Blk.cell hf.blk 9
 have ho := hf.d.op
 have hsm := hf.d.sm
 obtain ⟨xa, xn, xc, e⟩ := own_isSl ho
 have HC := Lib.hid (i6Clone_any w ho (by omega))
 have hlt := hf.blk.lt
 rw [show (filV q nv (FilM.live ⟨cur, t⟩) t lv dv pv)[9]? = some pv from rfl] at c
 subst e
 clear hf ho hO hF hsm
 unfold ptr
 go_enter Tryz.func54, Tryz.ntmps54
 go_wp2_with fail
 refine HC.out.mono ?_
 rintro e w' ⟨v', rfl, h1, h2, h3⟩
 obtain ⟨ya, yn, yc, rfl⟩ := own_isSl h1
 have H1 := Lib.hid h1
 have H2 := Lib.hid h2
 have H3 := Lib.hid h3
 clear h1 h2 h3
 go_wp2
 go_ret
 exact ⟨_, rfl, H1.out, H2.out, H3.out⟩
end Go.Proofs.YtggjhleomocojaaGreat
end
