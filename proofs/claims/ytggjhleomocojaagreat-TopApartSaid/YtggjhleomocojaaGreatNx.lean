/- cast.All. Conditions: as each says. -/
import Derived.Test.YtggjhleomocojaaGreatNf
import Derived.Test.YtggjhleomocojaaGreatUr
import Derived.Test.YtggjhleomocojaaGreatNv
namespace Go.Proofs.YtggjhleomocojaaGreat
set_option maxRecDepth 100000
open Go.RowKit
set_option linter.unusedVariables false
set_option linter.unusedSimpArgs false
structure CasM (w0 w : World) (q : Nat) (b s : Int) (out : List (Int × List Int)) (ov : Value) : Prop where
 blk : Blk w q [.int .i64 b, .int .i64 s, ov, .pointer none, .slice none 0 0, .slice none 0 0]
 ms : ∃ O R, MsIn w O R ov out ∧ (∀ i, O i ∨ R i → q < i ∧ i < w.heap.size) ∧ ∀ i, O i → ¬ R i
 lo : w0.heap.size ≤ q
 bel : Below w0.heap.size w0 w
theorem CasM.step {w0 wr w3 : World} {q B : Nat} {b s : Int} {out out' : List (Int × List Int)} {ov v3 : Value} {O R O2 : Nat → Prop} (h : CasM w0 wr q b s out ov) (k3 : Keep R wr w3) (ms : MsIn w3 (fun i => O i ∨ O2 i) (fun i => R i ∨ (B ≤ i ∧ i < w3.heap.size)) v3 out') (hor : ∀ i, O i ∨ R i → q < i ∧ i < wr.heap.size) (hdj : ∀ i, O i → ¬ R i)
  (h2 : ∀ i, O2 i → wr.heap.size ≤ i ∧ i < B) (hB : wr.heap.size ≤ B) (hB3 : B ≤ w3.heap.size) : CasM w0 (w3.setCell ⟨q, 2, none⟩ v3) q b s out' v3 := by
 have lq := h.blk.lt
 have nq : ¬ R q := fun h => Nat.lt_irrefl _ (hor _ (.inr h)).1
 have ks : Keep (· = q) w3 (w3.setCell ⟨q, 2, none⟩ v3) := Keep.setCell (M := (· = q)) (Keep.refl _ w3) (p := ⟨q, 2, none⟩) (.inl rfl) v3
 have z3 := k3.size
 have zs := ks.size
 refine ⟨(h.blk.keep k3 nq).set 2 v3, ⟨_, _, ms.keep ks ?_ ?_, ?_, ?_⟩, h.lo, (h.bel.trans (k3.below h.bel.size (fun i hi hr => by have := hor i (.inr hr); have := h.lo; omega))).setCell h.lo _⟩
 ·rintro i (hi | hi) e
  ·have := hor i (.inl hi)
   have e : i = q := e
   omega
  ·have := h2 i hi
   have e : i = q := e
   omega
 ·rintro i (hi | hi) e
  ·have := hor i (.inr hi)
   have e : i = q := e
   omega
  ·have e : i = q := e
   omega
 ·rintro i ((hi | hi) | (hi | hi))
  ·have := hor i (.inl hi)
   omega
  ·have := h2 i hi
   omega
  ·have := hor i (.inr hi)
   omega
  ·omega
 ·rintro i (hi | hi) (hr | hr)
  ·exact hdj i hi hr
  ·have := hor i (.inl hi)
   omega
  ·have := h2 i hi
   have := hor i (.inr hr)
   omega
  ·have := h2 i hi
   omega
theorem CasM.own {w0 w : World} {q : Nat} {b s : Int} {out : List (Int × List Int)} {ov : Value} (h : CasM w0 w q b s out ov) (hb : ∀ x ∈ out, IsB x.2 ∧ x.2.length ≤ 70368744177664) (hl : out.length ≤ 64) (hbb : -9223372036854775808 ≤ b ∧ b ≤ 9223372036854775807) (hbs : -9223372036854775808 ≤ s ∧ s ≤ 9223372036854775807) :
  ∃ L, CasB w0 (fun _ => False) w q L (fun _ => False) none ⟨b, s, out, [], []⟩ (.pointer none) ov (.slice none 0 0) (.slice none 0 0) := by
 obtain ⟨O, R, ms, hor, hdj⟩ := h.ms
 refine ⟨fun i => O i ∨ R i, Below.keeps h.bel, h.blk, ⟨ms.rdms (fun i hi => (hor i (.inr hi)).2), World.ownsRow_nil _ _ _ _, World.ownsRow_nil _ _ _ _, fun i hi => (nomatch hi), fun i hi => (nomatch hi), fun i hi => (hor i hi).2, hb, hbb, hbs, ⟨by show 0 + out.length ≤ _; omega, Nat.le_refl _⟩⟩, rfl, ⟨fun hh => by have := hor q hh; omega, id⟩, ⟨nofun, nofun⟩, fun i hi => hi.elim, ?_⟩
 rintro i (hi | hi | hi | hi | hi)
 ·exact .inr (hi ▸ h.lo)
 ·have := hor i hi
  have := h.lo
  exact .inr (by omega)
 ·cases hi
 ·cases hi
 ·exact hi.elim
set_option maxHeartbeats 4000000 in
theorem casNew_any (b s : Int) (lv : Value) (l : List (Int × List Int)) (L0 : Nat → Prop) (w : World) (hr : RdMs w L0 lv l) (hb : ∀ x ∈ l, IsB x.2 ∧ x.2.length ≤ 70368744177664) (hb0 : -9223372036854775808 ≤ b) (hb1 : b ≤ 9223372036854775807) (hs0 : -9223372036854775808 ≤ s) (hs1 : s ≤ 9223372036854775807) :
  Calls Tryz.prog 22 #[.agg #[.int .i64 b, .int .i64 s], lv] w fun e w' => ∃ q F, e = .returned (ptr q) ∧ w.heap.size ≤ q ∧ casFam.inv w' F q (casC.start (⟨b, s, l.take 64, [], []⟩ : CasT)) ∧ (∀ i, F i → w.heap.size ≤ i) ∧ Below w.heap.size w w' := by
 have HR := Lib.hid hr
 have HB := Lib.hid hb
 obtain ⟨la, lc, rfl, hlc, hlm⟩ := hr.sl
 have HLC := Lib.hid hlc
 obtain ⟨N, hN⟩ : ∃ N, N = min l.length 64 := ⟨_, rfl⟩
 have HN := Lib.hid hN
 obtain ⟨ln, hln⟩ : ∃ ln, ln = l.length := ⟨_, rfl⟩
 have HLN := Lib.hid hln
 rw [← hln] at hlc hN ⊢
 have HNN := Lib.hid hN
 clear hr hb hln hN
 go_enter Tryz.func22, Tryz.ntmps22
 go_upto_region 1 with fail
 go_cut [5] from 8 to 10 (fun f wx => f = .pointer (some ⟨w.heap.size + 1, 0, none⟩) ∧ CasM w wx (w.heap.size + 1) b s [] (.slice none 0 0))
 case first =>
  go_wp2_with fail
  all_goals (go_meet; refine ⟨rfl, ?_, ⟨fun _ => False, fun _ => False, MsIn.none2 _ _ _, fun i h => h.elim False.elim False.elim, fun i h => h.elim⟩, by omega, by go_grown⟩; have := Blk.made (w.alloc (Obj.cells #[.int .i64 b, .int .i64 s] 25)) #[.int .i64 b, .int .i64 s, .slice none 0 0, .pointer none, .slice none 0 0, .slice none 0 0] 147; simpa using this)
 case rest =>
  obtain ⟨rfl, hfn⟩ := hcut
  have HFN := Lib.hid hfn
  clear hfn
  go_upto_region 2 with fail
  go_cut [15, 16, 17] from 11 to 17 (fun v n i wx => v = .slice la N lc ∧ n = .int .i64 N ∧ i = .int .i64 0 ∧ wx = wc)
  case first =>
   by_cases h6 : ln ≤ 64
   ·obtain rfl : ln = N := by have := HNN.out; omega
    have h7 : (ln : Int) ≤ 64 := by omega
    have h8 : (ln : Int) ≤ lc := by omega
    have h9 : ¬ (64 : Int) < ln := by omega
    by_cases h10 : ln = 64
    ·subst h10
     go_wp2_with fail
     all_goals (go_meet; exact ⟨rfl, rfl, rfl, rfl⟩)
    ·have h11 : (ln : Int) < 64 := by omega
     go_wp2_with fail
     all_goals (go_meet; exact ⟨rfl, rfl, rfl, rfl⟩)
   ·obtain rfl : N = 64 := by have := HNN.out; omega
    have h7 : ¬ (ln : Int) < 64 := by omega
    have h10 : ¬ (ln : Int) ≤ 64 := by omega
    have h9 : (64 : Int) < ln := by omega
    have h8 : (64 : Int) ≤ lc := by omega
    go_wp2_with fail
    all_goals (go_meet; exact ⟨rfl, rfl, rfl, rfl⟩)
  case rest =>
   obtain ⟨rfl, rfl, rfl, rfl⟩ := hcut
   go_wp2_with fail
   go_loopg [17] (N + 1) (fun gk i wr => ∃ (k : Nat) (ov : Value), gk + k = N + 1 ∧ k ≤ N ∧ i = .int .i64 k ∧ CasM w wr (w.heap.size + 1) b s (l.take k) ov)
   case atStart => exact ⟨0, .slice none 0 0, by omega, by omega, rfl, by simpa using HFN.out⟩
   case round =>
    obtain ⟨k, ov, hgk, hkN, rfl, hF⟩ := hrel
    have HF := Lib.hid hF
    have HGK := Lib.hid hgk
    have hNl : N ≤ l.length := by have := HN.out; omega
    have HNL := Lib.hid hNl
    have hN64 : N ≤ 64 := by have := HN.out; omega
    have HN64 := Lib.hid hN64
    have W1 : IntKind.i64.wrap ((k : Int) + 1) = (k : Int) + 1 := IntWalk.i64_in _ ⟨by omega, by omega⟩
    have zr := hF.bel.size
    have lq := hF.blk.lt
    clear hF hgk hNl hN64
    by_cases hkl : k < N
    ·obtain ⟨x, hx⟩ : ∃ x, l[k]? = some x := ⟨_, List.getElem?_eq_getElem (by have := HNL.out; omega)⟩
     have HX := Lib.hid hx
     have hki : (k : Int) < (N : Int) := by omega
     obtain ⟨g, off, sa, sl, sc, rfl, hg, m0, m1, hrd⟩ := (HR.out.below (w' := wr) (HF.out.bel)).at_ hx
     have RX := Lib.hid hrd
     have HXB := Lib.hid (HB.out x (List.mem_of_getElem? hx))
     obtain ⟨O, R, hms, hor, hdj⟩ := HF.out.ms
     have HMS := Lib.hid hms
     have HOR := Lib.hid hor
     have HDJ := Lib.hid hdj
     obtain ⟨va0, vc0, rfl⟩ := hms.sl
     have HFL : Hid ((l.take k).length = k) := Lib.hid (by rw [List.length_take]; have := HNL.out; omega)
     have c6 : wr.cell? ⟨w.heap.size + 1, 2, none⟩ = some (.slice va0 (l.take k).length vc0) := Blk.cell HF.out.blk 2
     have f6 : wr.frozen? ⟨w.heap.size + 1, 2, none⟩ = false := HF.out.blk.frozen 2
     rw [HFL.out] at c6
     rw [HFL.out] at hms
     have HMS := Lib.hid hms
     have HNR : Hid (¬ R (w.heap.size + 1)) := Lib.hid (fun h => Nat.lt_irrefl _ (hor _ (.inr h)).1)
     have HTK : Hid (l.take (k + 1) = l.take k ++ [(x.1, x.2)]) := Lib.hid (by rw [List.take_add_one, hx]; rfl)
     clear hx hrd hms hor hdj
     go_upto_region 5 with fail
     refine wp_region_held_drew (S := (fun w' => w'.cell? ⟨wr.heap.size, 0, none⟩ = some (.int .i32 x.1) ∧ w'.cell? ⟨wr.heap.size, 1, none⟩ = some (.slice sa sl sc))) (by kernel_rfl) ?_ (fun hHeld => ?_)
     ·try dsimp only
      go_keep
     refine wpT 0 rfl ?_
     try simp only [Act.put, tS]
     refine wpT 1 rfl ?_
     try simp only [Act.put, tS]
     refine wpT 2 rfl ?_
     try simp only [Act.put, tS]
     refine wpT 3 rfl ?_
     try simp only [Act.put, tS]
     refine wpT 5 rfl ?_
     try simp only [Act.put, tS]
     refine wpT 6 rfl ?_
     try simp only [Act.put, tS]
     refine wpT 7 rfl ?_
     try simp only [Act.put, tS]
     refine wpT 8 rfl ?_
     try simp only [Act.put, tS]
     refine wpAnyH_ready (rs := [4, 9]) (by kernel_rfl) (by simp) ?_
     refine AllReadyH.cons rfl (fun K hK => ?_) (AllReadyH.cons rfl (fun K hK => ?_) AllReadyH.nil)
     ·go_simp
      refine hK.out _ _ ?_ (fun hHeld => ?_)
      ·try dsimp only
       go_keep
      clear hK K
      try simp only [Act.put, tS]
      refine wpR 9 rfl fun K hK => ?_
      go_simp
      refine (clone_any _ x.2 _ (RX.out.below (by go_grown)) (by have := HXB.out.2; omega)).mono ?_
      rintro e w2 ⟨sv, rfl, ho2, b2⟩
      obtain ⟨va, vn, vc, rfl⟩ := own_isSl ho2
      have HO2 := Lib.hid ho2
      have HO2L : Hid (∀ i, (Value.slice va vn vc).ownBlock = some i → wr.heap.size ≤ i ∧ i < w2.heap.size) := Lib.hid (fun i hi => by have := World.ownsRow.lt ho2 i hi; simp at this; omega)
      have HD3 : Hid (∀ i, O i ∨ (Value.slice va vn vc).ownBlock = some i → ¬ R i) := Lib.hid (fun i hi h => by rcases hi with hi | hi; exact HDJ.out i hi h; have h1 := HO2L.out i hi; have h2 := HOR.out i (.inr h); omega)
      have B2 : Hid (Below wr.heap.size wr w2) := Lib.hid ((by go_grown : Below wr.heap.size wr _).trans (b2.mono (by simp)))
      have z2 := b2.size
      simp at z2
      have lq2 : w.heap.size + 1 < w2.heap.size := by omega
      have c62 := (B2.out.cell (p := ⟨w.heap.size + 1, 2, none⟩) lq).trans c6
      have HM2 : Hid (w2.cell? ⟨wr.heap.size, 0, none⟩ = some (.int .i32 x.1) ∧ w2.cell? ⟨wr.heap.size, 1, none⟩ = some (.slice sa sl sc)) := Lib.hid ⟨(b2.cell (p := ⟨wr.heap.size, 0, none⟩) (by simp)).trans hHeld.1, (b2.cell (p := ⟨wr.heap.size, 1, none⟩) (by simp)).trans hHeld.2⟩
      clear ho2 b2
      go_wp2_with fail
      refine hK.out _ _ ?_ (fun hHeld => ?_)
      ·try dsimp only
       exact HM2.out
      clear hK K
      try simp only [Act.put, tS]
      refine wpT 10 rfl ?_
      try simp only [Act.put, tS]
      refine wpR 11 rfl fun K hK => ?_
      go_simp
      refine hK.out _ _ ?_ (fun hHeld => ?_)
      ·try dsimp only
       go_keep
      clear hK K
      try simp only [Act.put, tS]
      refine wpR 12 rfl fun K hK => ?_
      have hnew := Lib.hid (Blk.made w2 #[.int .i32 x.1, .slice va vn vc] 34)
      have B3 : Hid (Below wr.heap.size wr (w2.alloc (Obj.cells #[.int .i32 x.1, .slice va vn vc] 34))) := Lib.hid (B2.out.trans ((Below.refl w2.heap.size w2).alloc (Nat.le_refl _) _ |>.mono (by omega)))
      have b4 : Below w2.heap.size w2 (w2.alloc (Obj.cells #[.int .i32 x.1, .slice va vn vc] 34)) := (Below.refl w2.heap.size w2).alloc (Nat.le_refl _) _
      have HMS3 := Lib.hid (HMS.out.keep (Below.keeps (M := fun _ => False) B3.out) (fun _ _ => id) (fun _ _ => id))
      refine step_appMs1 (by rfl) _ _ (by rfl) (O := O) (R := R) (O2 := fun i => (Value.slice va vn vc).ownBlock = some i) (v := .slice va0 k vc0) (dv := .slice va vn vc) (l := l.take k) (t := x.1) (d := x.2) (by rfl) w2.heap.size (by rfl) hnew.out HMS3.out (HO2.out.rd.below b4) (fun i hi => hi) (by have := HFL.out; have := HN64.out; omega) HD3.out ?_
      intro v3 w3 ms3 k3
      have z3 := k3.size
      simp only [World.size_alloc] at z3
      obtain ⟨xa, xn, xc, rfl⟩ : ∃ a n c, v3 = .slice a n c := by obtain ⟨a, c, e⟩ := ms3.sl; exact ⟨_, _, _, e⟩
      have K3 : Hid (Keep R wr w3) := Lib.hid ((Below.keeps (M := R) B3.out).trans k3)
      have MS3 := Lib.hid ms3
      have c63 := (K3.out.cell (b := w.heap.size + 1) 2 lq HNR.out).trans c6
      have f63 := (K3.out.frozen (b := w.heap.size + 1) 2 lq HNR.out).trans f6
      have hs3 : (fun w' : World => w'.cell? ⟨wr.heap.size, 0, none⟩ = some (.int .i32 x.1) ∧ w'.cell? ⟨wr.heap.size, 1, none⟩ = some (.slice sa sl sc)) w3 := ⟨(k3.cell (b := wr.heap.size) 0 (by simp; omega) (fun h => by have := HOR.out _ (.inr h); omega)).trans ((b4.cell (p := ⟨wr.heap.size, 0, none⟩) (by show wr.heap.size < w2.heap.size; omega)).trans HM2.out.1), (k3.cell (b := wr.heap.size) 1 (by simp; omega) (fun h => by have := HOR.out _ (.inr h); omega)).trans ((b4.cell (p := ⟨wr.heap.size, 1, none⟩) (by show wr.heap.size < w2.heap.size; omega)).trans HM2.out.2)⟩
      have HS3 := Lib.hid hs3
      have HKS := Lib.hid (Keep.setCell (M := (· = w.heap.size + 1)) (Keep.refl _ w3) (p := ⟨w.heap.size + 1, 2, none⟩) (.inl rfl) (.slice xa xn xc))
      clear k3 ms3 hs3
      refine hK.out _ _ ?_ (fun hHeld => ?_)
      ·try dsimp only
       exact HS3.out
      clear hK K
      try simp only [Act.put, tS]
      refine wpT 13 rfl ?_
      try simp only [Act.put, tS]
      refine wpT 14 rfl ?_
      try simp only [Act.put, tS]
      refine wpR 15 rfl fun K hK => ?_
      go_simp
      refine hK.out _ _ ?_ (fun hHeld => ?_)
      ·try dsimp only
       exact ⟨(HKS.out.cell (b := wr.heap.size) 0 (by omega) (by omega)).trans HS3.out.1, (HKS.out.cell (b := wr.heap.size) 1 (by omega) (by omega)).trans HS3.out.2⟩
      clear hK K
      try simp only [Act.put, tS]
      refine wpAnyH_done (by kernel_rfl) ?_ _
      clear hHeld
      have HFE := Lib.hid (HF.out.step K3.out MS3.out HOR.out HDJ.out (fun i hi => by have := HO2L.out i hi; simp; omega) (by simp; omega) (by simp; omega))
      go_wp2_with fail
      have hn64 := HN64.out
      go_roundg (N - k)
      case measure => have := HGK.out; omega
      case rel => exact ⟨k + 1, _, by omega, by omega, by go_num, by rw [HTK.out]; exact HFE.out⟩
     ·go_simp
      refine (clone_any _ x.2 _ (RX.out.below (by go_grown)) (by have := HXB.out.2; omega)).mono ?_
      rintro e w2 ⟨sv, rfl, ho2, b2⟩
      obtain ⟨va, vn, vc, rfl⟩ := own_isSl ho2
      have HO2 := Lib.hid ho2
      have HO2L : Hid (∀ i, (Value.slice va vn vc).ownBlock = some i → wr.heap.size ≤ i ∧ i < w2.heap.size) := Lib.hid (fun i hi => by have := World.ownsRow.lt ho2 i hi; simp at this; omega)
      have HD3 : Hid (∀ i, O i ∨ (Value.slice va vn vc).ownBlock = some i → ¬ R i) := Lib.hid (fun i hi h => by rcases hi with hi | hi; exact HDJ.out i hi h; have h1 := HO2L.out i hi; have h2 := HOR.out i (.inr h); omega)
      have B2 : Hid (Below wr.heap.size wr w2) := Lib.hid ((by go_grown : Below wr.heap.size wr _).trans (b2.mono (by simp)))
      have z2 := b2.size
      simp at z2
      have lq2 : w.heap.size + 1 < w2.heap.size := by omega
      have c62 := (B2.out.cell (p := ⟨w.heap.size + 1, 2, none⟩) lq).trans c6
      have HM2 : Hid (w2.cell? ⟨wr.heap.size, 0, none⟩ = some (.int .i32 x.1) ∧ w2.cell? ⟨wr.heap.size, 1, none⟩ = some (.slice sa sl sc)) := Lib.hid ⟨(b2.cell (p := ⟨wr.heap.size, 0, none⟩) (by simp)).trans hHeld.1, (b2.cell (p := ⟨wr.heap.size, 1, none⟩) (by simp)).trans hHeld.2⟩
      clear ho2 b2
      go_wp2_with fail
      refine hK.out _ _ ?_ (fun hHeld => ?_)
      ·try dsimp only
       exact HM2.out
      clear hK K
      try simp only [Act.put, tS]
      refine wpT 10 rfl ?_
      try simp only [Act.put, tS]
      refine wpAnyH_ready (rs := [4, 11]) (by kernel_rfl) (by simp) ?_
      refine AllReadyH.cons rfl (fun K hK => ?_) (AllReadyH.cons rfl (fun K hK => ?_) AllReadyH.nil)
      ·go_simp
       refine hK.out _ _ ?_ (fun hHeld => ?_)
       ·try dsimp only
        exact HM2.out
       clear hK K
       try simp only [Act.put, tS]
       refine wpR 11 rfl fun K hK => ?_
       go_simp
       refine hK.out _ _ ?_ (fun hHeld => ?_)
       ·try dsimp only
        go_keep
       clear hK K
       try simp only [Act.put, tS]
       refine wpR 12 rfl fun K hK => ?_
       have hnew := Lib.hid (Blk.made w2 #[.int .i32 x.1, .slice va vn vc] 34)
       have B3 : Hid (Below wr.heap.size wr (w2.alloc (Obj.cells #[.int .i32 x.1, .slice va vn vc] 34))) := Lib.hid (B2.out.trans ((Below.refl w2.heap.size w2).alloc (Nat.le_refl _) _ |>.mono (by omega)))
       have b4 : Below w2.heap.size w2 (w2.alloc (Obj.cells #[.int .i32 x.1, .slice va vn vc] 34)) := (Below.refl w2.heap.size w2).alloc (Nat.le_refl _) _
       have HMS3 := Lib.hid (HMS.out.keep (Below.keeps (M := fun _ => False) B3.out) (fun _ _ => id) (fun _ _ => id))
       refine step_appMs1 (by rfl) _ _ (by rfl) (O := O) (R := R) (O2 := fun i => (Value.slice va vn vc).ownBlock = some i) (v := .slice va0 k vc0) (dv := .slice va vn vc) (l := l.take k) (t := x.1) (d := x.2) (by rfl) w2.heap.size (by rfl) hnew.out HMS3.out (HO2.out.rd.below b4) (fun i hi => hi) (by have := HFL.out; have := HN64.out; omega) HD3.out ?_
       intro v3 w3 ms3 k3
       have z3 := k3.size
       simp only [World.size_alloc] at z3
       obtain ⟨xa, xn, xc, rfl⟩ : ∃ a n c, v3 = .slice a n c := by obtain ⟨a, c, e⟩ := ms3.sl; exact ⟨_, _, _, e⟩
       have K3 : Hid (Keep R wr w3) := Lib.hid ((Below.keeps (M := R) B3.out).trans k3)
       have MS3 := Lib.hid ms3
       have c63 := (K3.out.cell (b := w.heap.size + 1) 2 lq HNR.out).trans c6
       have f63 := (K3.out.frozen (b := w.heap.size + 1) 2 lq HNR.out).trans f6
       have hs3 : (fun w' : World => w'.cell? ⟨wr.heap.size, 0, none⟩ = some (.int .i32 x.1) ∧ w'.cell? ⟨wr.heap.size, 1, none⟩ = some (.slice sa sl sc)) w3 := ⟨(k3.cell (b := wr.heap.size) 0 (by simp; omega) (fun h => by have := HOR.out _ (.inr h); omega)).trans ((b4.cell (p := ⟨wr.heap.size, 0, none⟩) (by show wr.heap.size < w2.heap.size; omega)).trans HM2.out.1), (k3.cell (b := wr.heap.size) 1 (by simp; omega) (fun h => by have := HOR.out _ (.inr h); omega)).trans ((b4.cell (p := ⟨wr.heap.size, 1, none⟩) (by show wr.heap.size < w2.heap.size; omega)).trans HM2.out.2)⟩
       have HS3 := Lib.hid hs3
       have HKS := Lib.hid (Keep.setCell (M := (· = w.heap.size + 1)) (Keep.refl _ w3) (p := ⟨w.heap.size + 1, 2, none⟩) (.inl rfl) (.slice xa xn xc))
       clear k3 ms3 hs3
       refine hK.out _ _ ?_ (fun hHeld => ?_)
       ·try dsimp only
        exact HS3.out
       clear hK K
       try simp only [Act.put, tS]
       refine wpT 13 rfl ?_
       try simp only [Act.put, tS]
       refine wpT 14 rfl ?_
       try simp only [Act.put, tS]
       refine wpR 15 rfl fun K hK => ?_
       go_simp
       refine hK.out _ _ ?_ (fun hHeld => ?_)
       ·try dsimp only
        exact ⟨(HKS.out.cell (b := wr.heap.size) 0 (by omega) (by omega)).trans HS3.out.1, (HKS.out.cell (b := wr.heap.size) 1 (by omega) (by omega)).trans HS3.out.2⟩
       clear hK K
       try simp only [Act.put, tS]
       refine wpAnyH_done (by kernel_rfl) ?_ _
       clear hHeld
       have HFE := Lib.hid (HF.out.step K3.out MS3.out HOR.out HDJ.out (fun i hi => by have := HO2L.out i hi; simp; omega) (by simp; omega) (by simp; omega))
       go_wp2_with fail
       have hn64 := HN64.out
       go_roundg (N - k)
       case measure => have := HGK.out; omega
       case rel => exact ⟨k + 1, _, by omega, by omega, by go_num, by rw [HTK.out]; exact HFE.out⟩
      ·go_simp
       refine hK.out _ _ ?_ (fun hHeld => ?_)
       ·try dsimp only
        go_keep
       clear hK K
       try simp only [Act.put, tS]
       refine wpR 4 rfl fun K hK => ?_
       go_simp
       refine hK.out _ _ ?_ (fun hHeld => ?_)
       ·try dsimp only
        go_keep
       clear hK K
       try simp only [Act.put, tS]
       refine wpR 12 rfl fun K hK => ?_
       have hnew := Lib.hid (Blk.made w2 #[.int .i32 x.1, .slice va vn vc] 34)
       have B3 : Hid (Below wr.heap.size wr (w2.alloc (Obj.cells #[.int .i32 x.1, .slice va vn vc] 34))) := Lib.hid (B2.out.trans ((Below.refl w2.heap.size w2).alloc (Nat.le_refl _) _ |>.mono (by omega)))
       have b4 : Below w2.heap.size w2 (w2.alloc (Obj.cells #[.int .i32 x.1, .slice va vn vc] 34)) := (Below.refl w2.heap.size w2).alloc (Nat.le_refl _) _
       have HMS3 := Lib.hid (HMS.out.keep (Below.keeps (M := fun _ => False) B3.out) (fun _ _ => id) (fun _ _ => id))
       refine step_appMs1 (by rfl) _ _ (by rfl) (O := O) (R := R) (O2 := fun i => (Value.slice va vn vc).ownBlock = some i) (v := .slice va0 k vc0) (dv := .slice va vn vc) (l := l.take k) (t := x.1) (d := x.2) (by rfl) w2.heap.size (by rfl) hnew.out HMS3.out (HO2.out.rd.below b4) (fun i hi => hi) (by have := HFL.out; have := HN64.out; omega) HD3.out ?_
       intro v3 w3 ms3 k3
       have z3 := k3.size
       simp only [World.size_alloc] at z3
       obtain ⟨xa, xn, xc, rfl⟩ : ∃ a n c, v3 = .slice a n c := by obtain ⟨a, c, e⟩ := ms3.sl; exact ⟨_, _, _, e⟩
       have K3 : Hid (Keep R wr w3) := Lib.hid ((Below.keeps (M := R) B3.out).trans k3)
       have MS3 := Lib.hid ms3
       have c63 := (K3.out.cell (b := w.heap.size + 1) 2 lq HNR.out).trans c6
       have f63 := (K3.out.frozen (b := w.heap.size + 1) 2 lq HNR.out).trans f6
       have hs3 : (fun w' : World => w'.cell? ⟨wr.heap.size, 0, none⟩ = some (.int .i32 x.1) ∧ w'.cell? ⟨wr.heap.size, 1, none⟩ = some (.slice sa sl sc)) w3 := ⟨(k3.cell (b := wr.heap.size) 0 (by simp; omega) (fun h => by have := HOR.out _ (.inr h); omega)).trans ((b4.cell (p := ⟨wr.heap.size, 0, none⟩) (by show wr.heap.size < w2.heap.size; omega)).trans HM2.out.1), (k3.cell (b := wr.heap.size) 1 (by simp; omega) (fun h => by have := HOR.out _ (.inr h); omega)).trans ((b4.cell (p := ⟨wr.heap.size, 1, none⟩) (by show wr.heap.size < w2.heap.size; omega)).trans HM2.out.2)⟩
       have HS3 := Lib.hid hs3
       have HKS := Lib.hid (Keep.setCell (M := (· = w.heap.size + 1)) (Keep.refl _ w3) (p := ⟨w.heap.size + 1, 2, none⟩) (.inl rfl) (.slice xa xn xc))
       clear k3 ms3 hs3
       refine hK.out _ _ ?_ (fun hHeld => ?_)
       ·try dsimp only
        exact HS3.out
       clear hK K
       try simp only [Act.put, tS]
       refine wpT 13 rfl ?_
       try simp only [Act.put, tS]
       refine wpT 14 rfl ?_
       try simp only [Act.put, tS]
       refine wpR 15 rfl fun K hK => ?_
       go_simp
       refine hK.out _ _ ?_ (fun hHeld => ?_)
       ·try dsimp only
        exact ⟨(HKS.out.cell (b := wr.heap.size) 0 (by omega) (by omega)).trans HS3.out.1, (HKS.out.cell (b := wr.heap.size) 1 (by omega) (by omega)).trans HS3.out.2⟩
       clear hK K
       try simp only [Act.put, tS]
       refine wpAnyH_done (by kernel_rfl) ?_ _
       clear hHeld
       have HFE := Lib.hid (HF.out.step K3.out MS3.out HOR.out HDJ.out (fun i hi => by have := HO2L.out i hi; simp; omega) (by simp; omega) (by simp; omega))
       go_wp2_with fail
       have hn64 := HN64.out
       go_roundg (N - k)
       case measure => have := HGK.out; omega
       case rel => exact ⟨k + 1, _, by omega, by omega, by go_num, by rw [HTK.out]; exact HFE.out⟩
    ·obtain rfl : k = N := by omega
     have hnl : ¬ (k : Int) < (k : Int) := by omega
     have HTK : Hid (l.take k = l.take 64) := Lib.hid (List.take_eq_take_iff.2 (by have := HN.out; omega))
     have hP := HF.out.own (fun x hx => HB.out x (List.mem_of_mem_take hx)) (by rw [List.length_take]; have := HN64.out; omega) ⟨hb0, hb1⟩ ⟨hs0, hs1⟩
     rw [HTK.out] at hP
     obtain ⟨L, hP⟩ := hP
     have HP := Lib.hid hP
     clear hP
     go_wp2_with fail
     refine (casSettle_any (cur := none) (t := ⟨b, s, l.take 64, [], []⟩) ((l.take 64).length + 2) (by show (l.take 64).length + 1 ≤ _; omega) (fun h => absurd rfl h) HP.out).mono ?_
     rintro e w5 ⟨rfl, hlive, hs5, F5, nv5, lv5, pv5, dv5, hB5⟩
     have HB5 := Lib.hid hB5
     have HL5 := Lib.hid hlive
     have HS5 := Lib.hid hs5
     clear hB5 hlive hs5
     go_wp2
     go_ret
     exact ⟨w.heap.size + 1, fun i => w.heap.size ≤ i ∧ i < w5.heap.size, rfl, by omega, ⟨⟨by omega, HB5.out.b.lt⟩, fun i hi => hi.2, HL5.out, HS5.out, L, F5, nv5, lv5, pv5, dv5, HB5.out.rebase (fun i h1 h2 => ⟨h2.resolve_left id, h1⟩)⟩, fun i hi => hi.1, (Below.refl w.heap.size w).trans (HB5.out.k.below (Nat.le_refl _) (fun i _ h => h))⟩
end Go.Proofs.YtggjhleomocojaaGreat
namespace Go.Proofs.YtggjhleomocojaaGreat
set_option maxRecDepth 100000
open Go.RowKit
set_option linter.unusedVariables false
set_option linter.unusedSimpArgs false
set_option maxHeartbeats 4000000 in
theorem relNew_any (b s : Int) (x : EarV) (times : Int) (w : World) (hb0 : -9223372036854775808 ≤ b) (hb1 : b ≤ 9223372036854775807) (hs0 : -9223372036854775808 ≤ s) (hs1 : s ≤ 9223372036854775807) :
  Calls Tryz.prog 14 #[.agg #[.int .i64 b, .int .i64 s], .agg #[.int .i64 x.cu, .int .i64 x.nx, .int .i64 x.la], .int .i64 times] w fun e w' => ∃ q F, e = .returned (ptr q) ∧ w.heap.size ≤ q ∧ relFam.inv w' F q (relC.start (⟨b, s, x, min times 64, [], 0⟩ : RelT)) ∧ (∀ i, F i → w.heap.size ≤ i) ∧ Below w.heap.size w w' := by
 obtain ⟨cu, nx, la⟩ := x
 dsimp only
 obtain ⟨T, hT⟩ : ∃ T, T = min times 64 := ⟨_, rfl⟩
 rw [← hT]
 have hT1 : T ≤ 64 := by omega
 have HB := Lib.hid (And.intro hb0 (And.intro hb1 (And.intro hs0 hs1)))
 have main : ∀ w3 : World, w3 = ((w.alloc (.cells #[.int .i64 b, .int .i64 s] 25)).alloc (.cells #[.int .i64 cu, .int .i64 nx, .int .i64 la] 46)).alloc (.cells #[.int .i64 b, .int .i64 s, .int .i64 cu, .int .i64 nx, .int .i64 la, .int .i64 T, .pointer none, .slice none 0 0, .int .i64 0] 127) → RelB w (fun _ => False) w3 (w.heap.size + 1 + 1) (fun _ => False) (fun _ => False) none (⟨b, s, ⟨cu, nx, la⟩, T, [], 0⟩ : RelT) (.pointer none) (.slice none 0 0) := by
  intro w3 hw3
  have bb : Below w.heap.size w w3 := by rw [hw3]; go_grown
  refine ⟨Below.keeps bb, ?_, ⟨⟨[], rfl, World.ownsRow_nil _ _ _ _, fun e he => (by cases he)⟩, fun i hi => (by cases hi), fun i hi => hi.elim, ⟨hb0, hb1⟩, ⟨hs0, hs1⟩, by show (0 : Nat) + T.toNat ≤ 1000 ∧ (0 : Int) ≤ 0 ∧ (0 : Int) + (T.toNat : Int) ≤ 1000 ∧ T ≤ 1000; omega⟩, rfl, ⟨id, id⟩, nofun, fun i hi => hi.elim, fun i hi => ?_⟩
  ·rw [hw3]
   have := Blk.made ((w.alloc (.cells #[.int .i64 b, .int .i64 s] 25)).alloc (.cells #[.int .i64 cu, .int .i64 nx, .int .i64 la] 46)) #[.int .i64 b, .int .i64 s, .int .i64 cu, .int .i64 nx, .int .i64 la, .int .i64 T, .pointer none, .slice none 0 0, .int .i64 0] 127
   have e : ((w.alloc (.cells #[.int .i64 b, .int .i64 s] 25)).alloc (.cells #[.int .i64 cu, .int .i64 nx, .int .i64 la] 46)).heap.size = w.heap.size + 1 + 1 := by simp
   rw [e] at this
   exact this
  ·rcases hi with hi | hi | hi | hi
   ·right
    omega
   ·exact hi.elim
   ·cases hi
   ·exact hi.elim
 have MAIN := Lib.hid main
 clear main hb0 hb1 hs0 hs1
 by_cases ht : times ≤ 64
 ·have e : T = times := by omega
  subst e
  clear hT
  go_enter Tryz.func14, Tryz.ntmps14
  go_wp2_with fail
  all_goals
   refine (relSettle_any (T.toNat + 2) (by show T.toNat + 1 ≤ T.toNat + 2; omega) (fun h => absurd rfl h) (MAIN.out _ rfl)).mono ?_
   rintro e w5 ⟨rfl, hlive, hs5, L5, F5, nv5, ov5, hB5⟩
   have HB5 := Lib.hid hB5
   have HL5 := Lib.hid hlive
   have HS5 := Lib.hid hs5
   clear hB5 hlive hs5
   go_wp2
   go_ret
   have hh := HB5.out
   refine ⟨w.heap.size + 1 + 1, fun i => w.heap.size ≤ i ∧ i < w5.heap.size, rfl, by omega, ⟨⟨by omega, hh.b.lt⟩, fun i hi => hi.2, HL5.out, HS5.out, L5, F5, nv5, ov5, hh.rebase fun i h1 h2 => ⟨h2.resolve_left id, h1⟩⟩, fun i hi => hi.1, hh.k.below (Nat.le_refl _) (fun i hi h => h)⟩
 ·have e : T = 64 := by omega
  subst e
  clear hT
  have ht' : ¬ times ≤ 64 := ht
  have ht2 : 64 < times := by omega
  go_enter Tryz.func14, Tryz.ntmps14
  go_wp2_with fail
  all_goals
   refine (relSettle_any ((64 : Int).toNat + 2) (by show (64 : Int).toNat + 1 ≤ (64 : Int).toNat + 2; omega) (fun h => absurd rfl h) (MAIN.out _ rfl)).mono ?_
   rintro e w5 ⟨rfl, hlive, hs5, L5, F5, nv5, ov5, hB5⟩
   have HB5 := Lib.hid hB5
   have HL5 := Lib.hid hlive
   have HS5 := Lib.hid hs5
   clear hB5 hlive hs5
   go_wp2
   go_ret
   have hh := HB5.out
   refine ⟨w.heap.size + 1 + 1, fun i => w.heap.size ≤ i ∧ i < w5.heap.size, rfl, by omega, ⟨⟨by omega, hh.b.lt⟩, fun i hi => hi.2, HL5.out, HS5.out, L5, F5, nv5, ov5, hh.rebase fun i h1 h2 => ⟨h2.resolve_left id, h1⟩⟩, fun i hi => hi.1, hh.k.below (Nat.le_refl _) (fun i hi h => h)⟩
end Go.Proofs.YtggjhleomocojaaGreat
