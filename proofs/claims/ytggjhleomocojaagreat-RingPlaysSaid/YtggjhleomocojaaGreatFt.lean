/- RingMends: the last filler, and what comes out. No program in sight. Conditions: none. -/
import Derived.Test.YtggjhleomocojaaGreatYq
import Derived.Test.YtggjhleomocojaaGreatAl
import Derived.Test.YtggjhleomocojaaGreatYw
import Derived.Test.YtggjhleomocojaaGreatOm
import Derived.Test.YtggjhleomocojaaGreatDd
import Derived.Test.YtggjhleomocojaaGreatDm
import Derived.Test.YtggjhleomocojaaGreatDq
import Derived.Test.YtggjhleomocojaaGreatGp
import Derived.Test.YtggjhleomocojaaGreatQg
import Derived.Lib.SlBytesConst
import Derived.Test.YtggjhleomocojaaGreatOy
import Derived.Test.YtggjhleomocojaaGreatVn
import Derived.Test.YtggjhleomocojaaGreatFj
import Derived.Test.YtggjhleomocojaaGreatVx
namespace Go.Proofs.YtggjhleomocojaaGreat
open Go.RowKit
set_option linter.unusedVariables false
theorem FilW.zd {b s : Nat} {ls : List (List (Int × List Int))} {bs : List Int} {P : List PutM} {G : List (Nat × Nat)} {A : List (Slot × Nat)} {k H : Nat} {F : List (List Int)} {FL : List (Option PutM × FilT)} (h : FilW b s ls bs P G A k H F FL) : ∀ z ∈ zipF FL ls, z.1.places.length = cnt0 z.1.done ∧ z.1.done.length ≤ z.2.length := by
 intro z hz
 obtain ⟨i, hi⟩ := List.getElem?_of_mem hz
 obtain ⟨f, hf, e, hl⟩ := zipF_at hi
 obtain ⟨c, hr⟩ := h.rel i f _ hf hl
 rw [← e]
 exact ⟨hr.pl, hr.nn⟩
theorem okPts_len12 : ∀ (Z : List (FilT × List (Int × List Int))), (∀ z ∈ Z, z.1.done.length ≤ 12) → (okPts Z).length ≤ 12 * Z.length
 | [], _ => Nat.le_refl _
 | z :: Z, h => by
  have h1 := okPts_len12 Z (fun y hy => h y (List.mem_cons_of_mem _ hy))
  have h2 := okPn_len z.2 z.1 z.1.done.length
  rw [okPn_all] at h2
  have h3 := h z (List.mem_cons_self ..)
  have e : okPts (z :: Z) = okP z.2 z.1 ++ okPts Z := by unfold okPts; rw [List.flatMap_cons]
  rw [e, List.length_append, List.length_cons]
  omega
theorem FilW.few {b s : Nat} {ls : List (List (Int × List Int))} {bs : List Int} {P : List PutM} {G : List (Nat × Nat)} {A : List (Slot × Nat)} {k H : Nat} {F : List (List Int)} {FL : List (Option PutM × FilT)} (h : FilW b s ls bs P G A k H F FL) (h12 : ∀ l ∈ ls, l.length ≤ 12) : (msgs A).length ≤ 12 * ls.length := by
 rw [← pts_len, ← h.all]
 have h1 : (allP (zipF FL ls)).length = (okPts (zipF FL ls)).length := foldP_len _
 rw [h1]
 refine Nat.le_trans (okPts_len12 _ fun z hz => ?_) (Nat.mul_le_mul_left _ ?_)
 ·obtain ⟨i, hi⟩ := List.getElem?_of_mem hz
  obtain ⟨f, hf, e, hl⟩ := zipF_at hi
  exact Nat.le_trans (h.zd z hz).2 (h12 _ (List.mem_of_getElem? hl))
 ·unfold zipF
  rw [List.length_zip]
  exact Nat.min_le_right _ _
end Go.Proofs.YtggjhleomocojaaGreat
namespace Go.Proofs.YtggjhleomocojaaGreat
set_option maxRecDepth 100000
open Go.RowKit
set_option linter.unusedVariables false
set_option linter.unusedSimpArgs false
theorem RdMs.up {w w' : World} {v : Value} {l : List (Int × List Int)} (h : RdMs w (fun i => i < w.heap.size) v l) (b : Below w.heap.size w w') : RdMs w' (fun i => i < w'.heap.size) v l := (h.below b).mono fun i hi => Nat.lt_of_lt_of_le hi b.size
end Go.Proofs.YtggjhleomocojaaGreat
namespace Go.Proofs.YtggjhleomocojaaGreat
set_option maxRecDepth 100000
open Go.RowKit
set_option linter.unusedVariables false
set_option linter.unusedSimpArgs false
variable {l : List (Int × List Int)}
theorem RdMs.at2 {w : World} {L : Nat → Prop} {a : Option Addr} {n c : Nat} (h : RdMs w L (.slice a n c) l) {k : Nat} {x : Int × List Int} (hx : l[k]? = some x) : ∃ g off s0 sl sc, a = some ⟨g, off, none⟩ ∧ g < w.heap.size ∧ w.cell? ⟨g, off + k * 2, none⟩ = some (.int .i32 x.1) ∧ w.cell? ⟨g, off + k * 2 + 1, none⟩ = some (.slice s0 sl sc) ∧ RdB w (.slice s0 sl sc) x.2 ∧ (x.2.length ≠ 0 → ∀ j, (Value.slice s0 sl sc).ownBlock = some j → L j) := by
 rcases h with ⟨_, _, _, rfl, _⟩ | ⟨g, off, cap, e1, e2, e3, e4, e5, e6⟩
 ·cases hx
 ·obtain ⟨s0, sl, sc, h1, h2, h3, h4⟩ := e6 k x hx
  cases e1
  exact ⟨g, off, s0, sl, sc, rfl, e5, h1, h2, h3, h4⟩
def fewB (l : List (Int × List Int)) : Bool := l.all (fun x => decide (x.2.length ≤ 300)) && decide (l.length ≤ 12)
theorem fewB_true (h : fewB l = true) : (∀ x ∈ l, x.2.length ≤ 300) ∧ l.length ≤ 12 := by
 unfold fewB at h
 rw [Bool.and_eq_true] at h
 exact ⟨fun x hx => of_decide_eq_true (List.all_eq_true.1 h.1 x hx), of_decide_eq_true h.2⟩
theorem fewB_not {x : Int × List Int} (hx : x ∈ l) (h : ¬ x.2.length ≤ 300) : fewB l = false := by
 cases hb : fewB l with
 | false => rfl
 | true => exact absurd ((fewB_true hb).1 x hx) h
theorem fewB_len (h : ∀ x ∈ l, x.2.length ≤ 300) : fewB l = decide (l.length ≤ 12) := by
 unfold fewB
 rw [List.all_eq_true.2 (fun x hx => decide_eq_true (h x hx)), Bool.true_and]
set_option maxHeartbeats 2000000 in
theorem few_any {w : World} {L0 : Nat → Prop} {lv : Value} (hr : RdMs w L0 lv l) :
  Calls Tryz.prog 26 #[lv] w fun e w' => e = .returned (.bool (fewB l)) ∧ Below w.heap.size w w' := by
 obtain ⟨la, lc, rfl, hlc, hlm⟩ := hr.sl
 have HR := Lib.hid hr
 obtain ⟨n, hn⟩ : ∃ n, n = l.length := ⟨_, rfl⟩
 have HN := Lib.hid hn
 rw [← hn] at hlc ⊢
 unfold maxLen at hlm
 obtain ⟨bo, hbo⟩ : ∃ bo, bo = fewB l := ⟨_, rfl⟩
 have HBO := Lib.hid hbo
 rw [← hbo]
 clear hr hn hbo
 go_enter Tryz.func26, Tryz.ntmps26
 go_wp2_with fail
 go_loopg [7] (n + 1) (fun gk iv wr => ∃ i : Nat, gk + i = n + 1 ∧ i ≤ n ∧ iv = .int .i64 i ∧ (∀ j x, j < i → l[j]? = some x → x.2.length ≤ 300) ∧ Below w.heap.size w wr)
 case atStart => exact ⟨0, by omega, by omega, rfl, fun j x h => absurd h (Nat.not_lt_zero _), Below.refl _ _⟩
 case round =>
  obtain ⟨i, hgk, hi, rfl, hs, hb⟩ := hrel
  have HGK := Lib.hid hgk
  have HS := Lib.hid hs
  have HB := Lib.hid hb
  clear hgk hs hb
  by_cases hin : i < n
  ·have hii : (i : Int) < (n : Int) := by omega
   have W1 : IntKind.i64.wrap ((i : Int) + 1) = (i : Int) + 1 := IntWalk.i64_in _ ⟨by omega, by omega⟩
   obtain ⟨y, hy⟩ : ∃ y, l[i]? = some y := ⟨_, List.getElem?_eq_getElem (by have := HN.out; omega)⟩
   obtain ⟨g, off, sa, sl, sc, rfl, hg, m0, m1, hrd, _⟩ := (HR.out.below HB.out).at2 hy
   have HSL := Lib.hid (rd_len hrd)
   have HY := Lib.hid hy
   clear hy hrd
   by_cases h3 : (300 : Int) < (sl : Int)
   ·obtain rfl : bo = false := by rw [HBO.out]; exact fewB_not (List.mem_of_getElem? HY.out) (by have := HSL.out; omega)
    go_wp2
    go_ret
    exact ⟨rfl, HB.out.alloc HB.out.size _⟩
   ·go_wp2_with fail
    go_roundg (n - i)
    case measure => have := HGK.out; omega
    case rel =>
     refine ⟨i + 1, by omega, by omega, by go_num, fun j x hj hx => ?_, HB.out.alloc HB.out.size _⟩
     by_cases hji : j < i
     ·exact HS.out j x hji hx
     ·obtain rfl : j = i := by omega
      have := HY.out
      rw [hx] at this
      cases this
      have := HSL.out
      omega
  ·obtain rfl : i = n := by omega
   have hnl : ¬ (i : Int) < (i : Int) := by omega
   have hbo : bo = decide ((i : Int) ≤ 12) := by
    rw [HBO.out, fewB_len (fun x hx => by
     obtain ⟨j, hj⟩ := List.getElem?_of_mem hx
     exact HS.out j x (by have := (List.getElem?_eq_some_iff.1 hj).1; have := HN.out; omega) hj), ← HN.out]
    exact decide_eq_decide.2 (by omega)
   have HB2 := Lib.hid hbo
   clear hbo
   go_wp2
   go_ret
   refine ⟨?_, HB.out⟩
   rw [HB2.out]
   rfl
end Go.Proofs.YtggjhleomocojaaGreat
namespace Go.Proofs.YtggjhleomocojaaGreat
set_option maxRecDepth 100000
open Go.RowKit
set_option linter.unusedVariables false
set_option linter.unusedSimpArgs false
theorem muF_start {n K B : Nat} {T : Int} {t : FilT} (hK : 11 + B / 8 + 6 * n ≤ K) (hB : ∀ x ∈ t.left, x.2.length ≤ B) : muF n K T (filNew0 t) ≤ K + t.att * K := by
 have hmo := muF_mo (T := T) hK hB
 unfold filNew0
 cases hm : t.mo with
 | none =>
  rw [hm] at hmo
  rw [fil_s0]
  exact hmo
 | some m =>
  rw [hm] at hmo
  by_cases h2 : m.live = true
  ·rw [fil_sl2 _ m t h2]
   exact hmo
  ·have hne : t.left ≠ [] := by
    intro e0
    unfold FilT.mo at hm
    rw [e0] at hm
    cases hm
   have := muF_settle (T := T) hK (t.left.length + 2) m t (by simpa using h2) hne hB
   omega
theorem muL_app (n K R : Nat) (T : Int) : ∀ X Y : List PlS, muL n K R T (X ++ Y) = muL n K R T X + muL n K R T Y
 | [], Y => (Nat.zero_add _).symm
 | x :: X, Y => by
  show muX n K R T x + muL n K R T (X ++ Y) = muX n K R T x + muL n K R T X + muL n K R T Y
  rw [muL_app n K R T X Y]
  omega
theorem muL_bd (n K R : Nat) (T : Int) (c : Nat) : ∀ X : List PlS, (∀ x ∈ X, muX n K R T x ≤ c) → muL n K R T X ≤ X.length * c
 | [], _ => Nat.zero_le _
 | x :: X, h => by
  have h1 := h x (List.mem_cons_self ..)
  have h2 := muL_bd n K R T c X (fun y hy => h y (List.mem_cons_of_mem _ hy))
  show muX n K R T x + muL n K R T X ≤ (X.length + 1) * c
  rw [Nat.succ_mul]
  omega
def filsP (s : Nat) (T : Int) (L : List LsV) : List (Option PutM × FilT) := L.map fun x => filNew0 (filT0 64 s x.l T)
def draP (s : Nat) : Option GetM × DraT := DraT.mo ⟨64, s, 64, 3, []⟩
theorem plStart {s : Nat} (hs : s = 64 ∨ s = 128 ∨ s = 256 ∨ s = 512) {T : Int} (hT0 : 0 ≤ T) (hT : T ≤ 39) {Lb : List LsV} (h5 : Lb.length ≤ 5) (hlo : ∀ x ∈ Lb, ∀ y ∈ x.l, (-2147483648 ≤ y.1 ∧ y.1 ≤ 2147483647) ∧ IsB y.2) (hfew : ∀ x ∈ Lb, fewB x.l = true) {L : List PlQS} (hst : L.map (·.2) = (filsP s T Lb).map Sum.inl ++ [Sum.inr (draP s)]) :
  ∃ P G, PlQ 64 s (Lb.map (·.l)) (L.map (·.1)) (⟨List.replicate (8 * 128) 0, 0, actsQ (σ := PlQS) L, 0, []⟩ : SW plM.σ) P G [] 0 0 [] 0 (filsP s T Lb) (draP s) L := by
 have hok : (⟨64, s, 3⟩ : GetC).ok = true := by
  rcases hs with rfl | rfl | rfl | rfl <;> decide +kernel
 obtain ⟨P, G, hF⟩ := FilW.made (N := 8 * 128) (b := 64) (s := s) (by omega) (by decide) (by omega) T (Lb.map (·.l)) (fun l hl x hx => by
  obtain ⟨y, hy, rfl⟩ := List.mem_map.1 hl
  have := hlo y hy x hx
  exact ⟨this.2, this.1.2⟩)
 rw [List.map_map] at hF
 have hF : FilW 64 s (Lb.map (·.l)) (zs (8 * 128)) P G [] 0 0 [] (filsP s T Lb) := hF
 have hmo : draP s = ((some (GetC.init ⟨64, s, 3⟩), ⟨64, s, 63, 3, []⟩) : Option GetM × DraT) := dra_mo1 (t := ⟨64, s, 64, 3, []⟩) (show ¬ (64 : Int) < 1 by decide)
 have hpw : PlayW 64 s (Lb.map (·.l)) (zs (8 * 128)) P G [] 0 0 [] 0 (filsP s T Lb) (draP s) := by
  rw [hmo]
  refine ⟨hF, rfl, rfl, hok, rfl, Nat.le_refl _, fun g hg => ?_, fun e => (by cases e)⟩
  cases hg
  exact ⟨get_init_live hok, GRel.init1 hok rfl rfl⟩
 have hmu : muS 64 s (⟨List.replicate (8 * 128) 0, 0, actsQ (σ := PlQS) L, 0, []⟩ : SW plM.σ) ≤ 200000 := by
  unfold muS
  show muL 6 84 582 (rdN (zs (8 * 128)) (64 + s) 8) (((actsQ (σ := PlQS) L).filterMap Ac.m).map (·.2)) ≤ _
  rw [actsQ_ms L, hst, muL_app]
  have h1 := muL_bd 6 84 582 (rdN (zs (8 * 128)) (64 + s) 8) 4368 ((filsP s T Lb).map Sum.inl) (fun x hx => by
   obtain ⟨f, hf, rfl⟩ := List.mem_map.1 hx
   obtain ⟨y, hy, rfl⟩ := List.mem_map.1 hf
   obtain ⟨b1, b2⟩ := fewB_true (hfew y hy)
   have h9 := muF_start (T := rdN (zs (8 * 128)) (64 + s) 8) (n := 6) (K := 84) (B := 300) (t := filT0 64 s y.l T) (by decide) b1
   have e : (filT0 64 s y.l T).att = y.l.length + T.toNat := rfl
   have h8 : (filT0 64 s y.l T).att * 84 ≤ 51 * 84 := Nat.mul_le_mul_right _ (by rw [e]; omega)
   show muF 6 84 _ _ ≤ _
   omega)
  have h2 : muL 6 84 582 (rdN (zs (8 * 128)) (64 + s) 8) [Sum.inr (draP s)] ≤ 64 * 582 := by
   have := muD_mo (R := 582) (t := ⟨64, s, 64, 3, []⟩) hok (by show ((s : Int) + (s : Int) / 8).toNat + 6 ≤ 582; omega)
   have : muD 582 (draP s) ≤ 64 * 582 := this
   show muD 582 (draP s) + 0 ≤ _
   omega
  have h3 : ((filsP s T Lb).map (Sum.inl (β := Option GetM × DraT))).length = Lb.length := by unfold filsP; rw [List.length_map, List.length_map]
  rw [h3] at h1
  have h4 : Lb.length * 4368 ≤ 5 * 4368 := Nat.mul_le_mul_right _ h5
  omega
 refine ⟨P, G, rfl, hst, rfl, hpw, fun l hl x hx => ?_, by rw [List.length_map]; exact h5, by omega, ?_⟩
 ·obtain ⟨y, hy, rfl⟩ := List.mem_map.1 hl
  exact (fewB_true (hfew y hy)).1 x hx
 ·show 0 + 8192 * _ ≤ _
  omega
variable {d : Option GetM × DraT}
theorem plEnd {s : Nat} {ls : List (List (Int × List Int))} {Ks : List Nat} {S : SW plM.σ} {P : List PutM} {G : List (Nat × Nat)} {A : List (Slot × Nat)} {k H : Nat} {F : List (List Int)} {k0 : Nat} {FL : List (Option PutM × FilT)} {L : List PlQS} (hs : s = 64 ∨ s = 128 ∨ s = 256 ∨ s = 512) (h : PlQ 64 s ls Ks S P G A k H F k0 FL d L) (hF : ∀ f ∈ FL, f.1 = none) (hd : d.1 = none) :
  ∃ (N : Nat) (bs' : List Int) (t' : DraT), Runs draC.mac (DraT.mo ⟨64, s, 64, 9, []⟩ : Option GetM × DraT) S.bs N ((none, t') : Option GetM × DraT) bs' ∧ N ≤ 40000 ∧ d.2.out ++ t'.out = (allP (zipF FL ls)).map (fun x => (x.t, x.d)) ∧ Srt (allP (zipF FL ls)) ∧ rdN bs' (64 + s) 8 = rdN bs' (64 + s + 16) 8 ∧ IsB bs' ∧ 64 + s + 24 ≤ bs'.length := by
 obtain ⟨rfl, rfl⟩ := h.pw.non hd
 have hbd := h.bd
 have hok : (⟨64, s, 9⟩ : GetC).ok = true := by
  rcases hs with rfl | rfl | rfl | rfl <;> decide +kernel
 obtain ⟨N, bs', t', k', H', hr, hN, hk, hI, ho, hend⟩ := Inv.drains (h.pw.fw.whole hF) (by omega) 64 (t := ⟨64, s, 64, 9, []⟩) h.pw.fw.inv rfl rfl rfl hok (show (9 : Int) ≤ 9 by decide)
 have hfk := hI.fk
 have hfit := hI.fit
 have hfit0 := h.pw.fw.inv.fit
 rw [tot_nil, Nat.add_zero] at hfk
 have hkl : k' = A.length := by
  rcases hend with e | e
  ·exact e
  ·refine ln_inj h.pw.fw.inv.ok hI.kl (Nat.le_refl _) ?_
   rw [List.take_of_length_le (Nat.le_refl A.length), ← hfk]
   omega
 subst hkl
 rw [List.take_of_length_le (Nat.le_refl A.length)] at hfk ho
 have hfw : FilW 64 s ls bs' P G A A.length H' [] FL := ⟨hI, h.pw.fw.ll, h.pw.fw.gl, h.pw.fw.tg, h.pw.fw.lo, h.pw.fw.rel, h.pw.fw.fin⟩
 have hall := hfw.all
 refine ⟨N, bs', t', hr, ?_, ?_, ?_, ?_, hI.rg.is, hI.rg.len⟩
 ·have : 64 * (s + s / 8 + 6) ≤ 64 * 582 := Nat.mul_le_mul_left _ (by omega)
  omega
 ·rw [ho, h.pw.out, hall, pts_msgs]
  show _ ++ ([] ++ _) = _
  rw [List.nil_append, ← msgs_app, List.take_append_drop]
 ·rw [hall]
  exact pts_srt A 0 h.pw.fw.inv.ok
 ·rw [hI.tail, hI.rg.head, hfk]
theorem plNew {w0 wr w4 w5 : World} {κ : Nat → Kd} {qs : Nat → Nat} {ss : List FqS} {mv mv' : Value} {p c : Nat} {cnt : Int} {bs : List Int} {q : Nat} {F : Nat → Prop} (h : MdAt filQ w0 wr κ qs ss) (b4 : Below wr.heap.size wr w4) (hq : draFam.inv w4 F q d) (hF : ∀ i, F i → wr.heap.size ≤ i) (hMo : ∀ g, mv.ownBlock = some g → w0.heap.size ≤ g ∧ κ g = .no ∧ g < wr.heap.size) (K5 : Keep (fun i => mv.ownBlock = some i) w4 w5) (o5 : w5.ownsRow 0 66 1 mv' (ss.length + 1) (ss.map flI ++ [.iface 61 (ptr q)])) (hBuf : Buf w5 p c cnt bs) (hp : p < w0.heap.size) (hc : c < w0.heap.size) (hn : ss.length ≤ 900) :
  Calls Tryz.prog 11 #[.pointer (some ⟨p, 0, none⟩), mv'] w5 fun e w' => ∃ W κ' av ab, e = .returned (.pointer (some ⟨W, 0, none⟩)) ∧ WoIn plQ w' κ' W p c av nilSl ab ⟨bs, cnt, actsQ (σ := PlQS) ((ss.map fun x => ((x.1, Sum.inl x.2) : PlQS)) ++ [(q, Sum.inr d)]), 0, []⟩ ∧ (∀ i, i < wr.heap.size → κ' i = kdX κ p c i) ∧ w5.heap.size ≤ W ∧ Below w5.heap.size w5 w' := by
 have hdom := (draFam.dom hq).2
 have h6 := h.inl.next (s := ((q, Sum.inr d) : plQ.M.σ)) b4 ⟨rfl, draFam.mono hq (fun i hi => ⟨hF i hi, hdom i hi⟩) (fun i hi => hi.2)⟩
 have h7 := h6.keep K5 (fun i hi => ⟨(kdM_old (hMo i hi).2.2).trans (hMo i hi).2.1, (hMo i hi).1⟩)
 have hlen : ((ss.map fun x => ((x.1, Sum.inl x.2) : PlQS)) ++ [((q, Sum.inr d) : PlQS)]).length = ss.length + 1 := by rw [List.length_append, List.length_map]; rfl
 have hz4 := b4.size
 have hz5 := K5.size
 refine (h7.new (ov := mv') (vs := ss.map flI ++ [.iface 61 (ptr q)]) (hlen.symm ▸ o5) (fun i x hx => ?_) hBuf hp hc (by have := hlen; exact Nat.le_trans (Nat.le_of_eq this) (by omega))).mono ?_
 ·rw [(h7.mac i x hx).1]
  have hx : ((ss.map fun x => ((x.1, Sum.inl x.2) : PlQS)) ++ [((q, Sum.inr d) : PlQS)])[i]? = some x := hx
  by_cases hi : i < ss.length
  ·rw [List.getElem?_append_left (by rw [List.length_map]; exact hi), List.getElem?_map] at hx
   obtain ⟨y, hy, rfl⟩ := Option.map_eq_some_iff.1 hx
   rw [List.getElem?_append_left (by rw [List.length_map]; exact hi), List.getElem?_map, hy]
   rfl
  ·rw [List.getElem?_append_right (by rw [List.length_map]; omega), List.length_map] at hx
   have e0 : i - ss.length = 0 := by
    have := (List.getElem?_eq_some_iff.1 hx).1
    simpa using this
   rw [e0] at hx
   cases hx
   rw [List.getElem?_append_right (by rw [List.length_map]; omega), List.length_map, e0]
   rfl
 ·rintro e w' ⟨W, κ', av, ab, rfl, hW, hκ, hWs, bb⟩
  refine ⟨W, κ', av, ab, rfl, hW, fun i hi => ?_, hWs, bb⟩
  rw [hκ i (by omega)]
  unfold kdX
  rw [kdM_old hi]
structure MacsIn (C : Fam) (w : World) (L : List (Nat × C.M.σ)) (M : Nat → Prop) : Prop where
 at_ : ∀ (i : Nat) (x : Nat × C.M.σ), L[i]? = some x → ∃ F, C.inv w F x.1 x.2 ∧ ∀ j, F j → ¬ M j
theorem MacsIn.of {C : Fam} {w : World} {κ : Nat → Kd} {W p c : Nat} {av tv : Value} {ab : Nat → Nat} {S : SW (Fam.Q C).M.σ} (h : WoIn (Fam.Q C) w κ W p c av tv ab S) {L : List (Nat × C.M.σ)} (ha : S.acts = actsQ (σ := Nat × C.M.σ) L) {M : Nat → Prop} (hM : ∀ j, M j → κ j = .no ∨ κ j = .bu) : MacsIn C w L M := by
 refine ⟨fun i x hx => ?_⟩
 have h1 : S.acts[i]? = some ⟨some x, false⟩ := by rw [ha]; exact actsQ_at hx
 obtain ⟨_, mv, _, q', _, e, hv⟩ := h.act i _ h1
 have e : q' = x.1 := e
 subst e
 refine ⟨_, hv, fun j hj hm => ?_⟩
 rcases hM j hm with e | e <;> rw [hj] at e <;> cases e
theorem MacsIn.keep {C : Fam} {w w' : World} {L : List (Nat × C.M.σ)} {M K : Nat → Prop} (h : MacsIn C w L M) (k : Keep K w w') (hK : ∀ j, j < w.heap.size → K j → M j) : MacsIn C w' L M := by
 refine ⟨fun i x hx => ?_⟩
 obtain ⟨F, hF, hd⟩ := h.at_ i x hx
 exact ⟨F, C.keep hF k (fun j hj hk => hd j hj (hK j ((C.dom hF).2 j hj) hk)), hd⟩
theorem plays_all {w : World} {FL : List (Option PutM × FilT)} {ls : List (List (Int × List Int))} {L : List PlQS} {M : Nat → Prop} {vs : List Value} {fv lv : Value} (hst : L.map (·.2) = FL.map Sum.inl ++ [Sum.inr d]) (hll : FL.length = ls.length) (hf : w.ownsRow 0 63 1 fv ls.length vs) (hvs : ∀ i, i < ls.length → vs[i]? = ((L.map (·.1))[i]?).map ptr) (hP : MacsIn plFam w L M) (hl : RdLs w lv ls) (hd : ∀ z ∈ zipF FL ls, z.1.places.length = cnt0 z.1.done ∧ z.1.done.length ≤ z.2.length) (h12 : ∀ l ∈ ls, l.length ≤ 12) (h5 : ls.length ≤ 5) :
  Calls Tryz.prog 27 #[fv, lv] w fun e w' => ∃ v, e = .returned v ∧ w'.ownsRow 0 86 3 v (allP (zipF FL ls)).length ((allP (zipF FL ls)).flatMap ptL) ∧ (∀ i, v.ownBlock = some i → w.heap.size ≤ i) ∧ Below w.heap.size w w' := by
 have hZ : (zipF FL ls).length = ls.length := by
  unfold zipF
  rw [List.length_zip, List.length_map]
  omega
 have hZ2 : (zipF FL ls).map (·.2) = ls := by
  unfold zipF
  rw [List.map_snd_zip]
  rw [List.length_map, hll]
  exact Nat.le_refl _
 refine all_any _ (fun i => ((L.map (·.1))[i]?).getD 0) (vs := vs) w (by rw [hZ]; exact hf) (fun i hi => ?_) (fun i z hz => ?_) (by rw [hZ2]; exact hl) (fun z hz => ?_) (by omega)
 ·rw [hvs i (by omega)]
  obtain ⟨x, hx⟩ : ∃ x, (L.map (·.1))[i]? = some x := by
   refine ⟨_, List.getElem?_eq_getElem ?_⟩
   have := congrArg List.length hst
   simp at this ⊢
   omega
  rw [hx]
  rfl
 ·obtain ⟨f, hf2, e, _⟩ := zipF_at hz
  have hil := (List.getElem?_eq_some_iff.1 hf2).1
  obtain ⟨⟨q, x⟩, hx⟩ : ∃ x, L[i]? = some x := by
   refine ⟨_, List.getElem?_eq_getElem ?_⟩
   have := congrArg List.length hst
   simp at this
   omega
  have hx2 : (L.map (·.2))[i]? = some x := by rw [List.getElem?_map, hx]; rfl
  rw [hst, List.getElem?_append_left (by rw [List.length_map]; exact hil), List.getElem?_map, hf2] at hx2
  have hx2 : Sum.inl f = x := Option.some.inj hx2
  subst hx2
  obtain ⟨F, hF, _⟩ := hP.at_ i _ hx
  have hF : filFam.inv w F q f := hF
  refine ⟨F, f.1, ?_⟩
  show filK.P w (((L.map (·.1))[i]?).getD 0) F f.1 z.1
  rw [List.getElem?_map, hx, ← e]
  exact hF.1
 ·obtain ⟨h1, h2⟩ := hd z hz
  obtain ⟨i, hi⟩ := List.getElem?_of_mem hz
  obtain ⟨f, _, _, hz3⟩ := zipF_at hi
  have := h12 _ (List.mem_of_getElem? hz3)
  exact ⟨h1, h2, by omega⟩
end Go.Proofs.YtggjhleomocojaaGreat
section
namespace Go.Proofs.YtggjhleomocojaaGreat
set_option maxRecDepth 100000
open Go.RowKit
set_option linter.unusedVariables false
set_option linter.unusedSimpArgs false
def ptP (x : Nat × PutM) : Value := .pointer (some ⟨x.1, 0, none⟩)
def putsI (s : Nat) (L : List BytV) : List PutM := L.mapIdx fun i x => PutC.init ⟨0, s, ((1 + i : Nat) : Int), x.b⟩
structure PutsTo (w0 wr : World) (s : Nat) (ov : Value) (κ : Nat → Kd) (ss : List (Nat × PutM)) (L : List BytV) : Prop where
 md : ∃ qs, MdAt putFam w0 wr κ qs ss
 ow : wr.ownsRow 0 97 1 ov ss.length (ss.map ptP)
 om : ∀ g, ov.ownBlock = some g → w0.heap.size ≤ g ∧ κ g = .no
 eq : ss.map (·.2) = putsI s L
structure Ordd (P : List PutM) (L : List BytV) (out : List (Int × List Int)) (last : Nat → Int) : Prop where
 l0 : last 0 = -1
 n : out.length = okN P
 at_ : ∀ j t d, out[j]? = some (t, d) → last j < last (j + 1) ∧ ∃ (i : Nat) (m : PutM) (x : BytV), P[i]? = some m ∧ L[i]? = some x ∧ m.e = 0 ∧ t = (1 + (i : Int)) ∧ x.b = d ∧ m.pos = last (j + 1)
theorem row_cnt (M : Mac) (most : Int) : ∀ (L : List Nat) (S : SW M.σ) (n : Int) (g : Bool), S.cnt ≤ (M.row most L S n g).1.cnt ∧ (M.row most L S n g).1.cnt - S.cnt ≤ (M.row most L S n g).2.1 - n ∧ ((M.row most L S n g).2.1 ≤ most ∨ (M.row most L S n g).2.1 = n)
 | [], S, n, g => ⟨Int.le_refl _, by show S.cnt - S.cnt ≤ n - n; omega, .inr rfl⟩
 | i :: L, S, n, g => by
  unfold Mac.row
  split
  ·exact row_cnt M most L S n g
  split
  ·exact ⟨Int.le_refl _, by show S.cnt - S.cnt ≤ n - n; omega, .inr rfl⟩
  ·obtain ⟨h1, h2, h3⟩ := row_cnt M most L (M.pick S 0 i 0).1 (n + 1) true
   obtain ⟨_, _, h4, h5⟩ := pick_facts M S 0 i 0
   refine ⟨by omega, by omega, ?_⟩
   rcases h3 with h3 | h3
   ·exact .inl h3
   ·exact .inl (by omega)
theorem rob_cnt (M : Mac) (most : Int) : ∀ (f : Nat) (S : SW M.σ) (n : Int), S.cnt ≤ (M.rob most f S n).1.cnt ∧ (M.rob most f S n).1.cnt - S.cnt ≤ (M.rob most f S n).2 - n ∧ ((M.rob most f S n).2 ≤ most ∨ (M.rob most f S n).2 = n)
 | 0, S, n => ⟨Int.le_refl _, by show S.cnt - S.cnt ≤ n - n; omega, .inr rfl⟩
 | f + 1, S, n => by
  unfold Mac.rob
  obtain ⟨h1, h2, h3⟩ := row_cnt M most (List.range S.acts.length) S n false
  split
  ·obtain ⟨k1, k2, k3⟩ := rob_cnt M most f (M.row most (List.range S.acts.length) S n false).1 (M.row most (List.range S.acts.length) S n false).2.1
   refine ⟨by omega, by omega, ?_⟩
   rcases k3 with k3 | k3
   ·exact .inl k3
   ·rcases h3 with h3 | h3
    ·exact .inl (by omega)
    ·exact .inr (by omega)
  ·exact ⟨h1, h2, h3⟩
theorem robin_cnt (M : Mac) (most : Int) (hm : 0 ≤ most) (S : SW M.σ) : S.cnt ≤ (M.robin most S).1.cnt ∧ (M.robin most S).1.cnt ≤ S.cnt + most := by
 obtain ⟨h1, h2, h3⟩ := rob_cnt M most (most.toNat + 2) S 0
 unfold Mac.robin
 exact ⟨h1, by omega⟩
structure OrdAt (wm wr : World) (κm κ : Nat → Kd) (s W p c : Nat) (av tv : Value) (ab : Nat → Nat) (Ks : List (Nat × PutC)) (n : Nat) (gv : Value) (q : Nat) (gm : GetM) (A : List (Slot × Nat)) (kk H : Nat) (F : List (List Int)) (k0 : Nat) (L : List (Nat × PutM)) (S : SW putMacQ.σ) (FG O R : Nat → Prop) : Prop where
 wo : WoIn putFam wr κ W p c av tv ab S
 pg : PG 0 s A kk H F k0 gm L S
 key : keyQ L = Ks
 kd : ∀ i, i < wm.heap.size → κ i = κm i
 kp : Keep (fun i => κm i ≠ .no) wm wr
 gf : GetF wr FG q gm
 ms : MsIn wr O R gv (msgs (A.take k0))
 mem : ∀ i, FG i ∨ O i ∨ R i → (wm.heap.size ≤ i ∧ i < wr.heap.size) ∧ κ i = .no
 dj : ∀ i, FG i → ¬ (O i ∨ R i)
 dr : ∀ i, O i → ¬ R i
 hb : H ≤ n * s
 c0 : 0 ≤ S.cnt
 c1 : S.cnt ≤ 10001 * (n : Int)
end Go.Proofs.YtggjhleomocojaaGreat
end
namespace Go.Proofs.YtggjhleomocojaaGreat
set_option maxRecDepth 100000
open Go.RowKit
set_option linter.unusedVariables false
set_option linter.unusedSimpArgs false
theorem rdB_at {w : World} {sa : Option Addr} {sn sc : Nat} {l : List Int} (h : RdB w (.slice sa sn sc) l) {k : Nat} (hk : k < l.length) : ∃ bk off, sa = some ⟨bk, off, none⟩ ∧ w.cell? ⟨bk, off + k, none⟩ = some (.int .u8 (gB l k)) ∧ l.length ≤ sc ∧ sc ≤ maxLen := by
 rcases h with ⟨_, e⟩ | ⟨_, _, _, e, _⟩ | ⟨bk, off, cap, e, h1, h2, hc⟩
 ·rw [e] at hk
  exact absurd hk (Nat.not_lt_zero _)
 ·rw [e] at hk
  exact absurd hk (Nat.not_lt_zero _)
 ·cases e
  exact ⟨bk, off, rfl, hc k hk, h1, h2⟩
theorem mcinfoO : (Tryz.prog.info? 66).map (fun i => (i.zero, i.size, i.bytes)) = some (some .nilIface, 1, 16) := by kernel_rfl
end Go.Proofs.YtggjhleomocojaaGreat
namespace Go.Proofs.YtggjhleomocojaaGreat
set_option maxRecDepth 100000
open Go.RowKit
set_option linter.unusedVariables false
set_option linter.unusedSimpArgs false
theorem soloRun (C : Fam) {w : World} {p c : Nat} {cnt : Int} {bs bs' : List Int} {F : Nat → Prop} {q g n : Nat} {s s' : C.M.σ} (hB : Buf w p c cnt bs) (hi : C.inv w F q s) (hp : ¬ F p) (hc : ¬ F c) (hg : Blk w g [.iface (C.ty s) (.pointer (some ⟨q, 0, none⟩))]) (most : Int) (hr : Runs C.M s bs n s' bs') (hend : C.M.live s' = false) (hn : (n : Int) ≤ most) (hm : most ≤ 900000) (hc0 : 0 ≤ cnt) (hc1 : cnt ≤ 1000000000000) :
  Calls Tryz.prog 11 #[.pointer (some ⟨p, 0, none⟩), .slice (some ⟨g, 0, none⟩) 1 1] w fun e w1 => ∃ W, e = .returned (.pointer (some ⟨W, 0, none⟩)) ∧ Calls Tryz.prog 12 #[.pointer (some ⟨W, 0, none⟩), .int .i64 most] w1 fun e w2 => (∃ k, e = .returned (.int .i64 k)) ∧ Buf w2 p c (cnt + n) bs' ∧ (∃ F' q', C.inv w2 F' q' s' ∧ ¬ F' p ∧ ¬ F' c ∧ ∀ i, F' i → F i ∨ w.heap.size ≤ i) ∧ Keep (fun i => F i ∨ i = p ∨ i = c) w w2 := by
 refine (soloNew C hB hi hp hc hg).mono ?_
 rintro e w1 ⟨W, κ, av, ab, rfl, hW, hκ, hWs, b1⟩
 refine ⟨W, rfl, (soloRobin C (w0 := w) hW hκ b1 hB.hd.lt (Blk.lt hB.wd) most hm hc0 hc1).mono ?_⟩
 rintro e w2 ⟨rfl, hS⟩
 have hR := robin_runs (M := C.M) most hr hend hn cnt
 refine ⟨⟨_, rfl⟩, ?_, hS.of hR.2.1, hS.keep⟩
 have h1 := hS.buf
 rw [hR.2.2.1, hR.2.2.2] at h1
 exact h1
structure GotAt (w wr : World) (p c : Nat) (cnt0 cnt : Int) (b s : Nat) (A0 : List (Slot × Nat)) (out0 : List (Int × List Int)) (r n : Nat) (bs : List Int) (ov : Value) (outs : List (Int × List Int)) (O R : Nat → Prop) : Prop where
 buf : Buf wr p c cnt bs
 c0 : cnt0 ≤ cnt
 c1 : cnt ≤ cnt0 + n * 20000
 fx : Fixing b s A0 (0 < n) bs (out0 ++ outs) r
 ms : MsIn wr O R ov outs
 or : ∀ i, O i ∨ R i → w.heap.size < i ∧ i < wr.heap.size
 dj : ∀ i, O i → ¬ R i
 kp : Keep (fun i => i = p ∨ i = c) w wr
 bx : Blk wr w.heap.size [.int .i64 b, .int .i64 s]
end Go.Proofs.YtggjhleomocojaaGreat
