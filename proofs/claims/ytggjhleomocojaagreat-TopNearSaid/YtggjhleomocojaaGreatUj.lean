/- The law's own few: are messages few and short? Conditions: none. -/
import Derived.Test.YtggjhleomocojaaGreatGb
import Derived.Test.YtggjhleomocojaaGreatNx
import Derived.Test.YtggjhleomocojaaGreatUh
import Derived.Lib.SlBytesConst
import Derived.Test.YtggjhleomocojaaGreatUe
import Derived.Test.YtggjhleomocojaaGreatUd
namespace Go.Proofs.YtggjhleomocojaaGreat
set_option maxRecDepth 100000
open Go.RowKit
set_option linter.unusedVariables false
set_option linter.unusedSimpArgs false
theorem RdMs.at2 {w : World} {L : Nat → Prop} {a : Option Addr} {n c : Nat} {l : List (Int × List Int)} (h : RdMs w L (.slice a n c) l) {k : Nat} {x : Int × List Int} (hx : l[k]? = some x) : ∃ g off s0 sl sc, a = some ⟨g, off, none⟩ ∧ g < w.heap.size ∧ w.cell? ⟨g, off + k * 2, none⟩ = some (.int .i32 x.1) ∧ w.cell? ⟨g, off + k * 2 + 1, none⟩ = some (.slice s0 sl sc) ∧ RdB w (.slice s0 sl sc) x.2 ∧ (x.2.length ≠ 0 → ∀ j, (Value.slice s0 sl sc).ownBlock = some j → L j) := by
 rcases h with ⟨_, _, _, rfl, _⟩ | ⟨g, off, cap, e1, e2, e3, e4, e5, e6⟩
 ·cases hx
 ·obtain ⟨s0, sl, sc, h1, h2, h3, h4⟩ := e6 k x hx
  cases e1
  exact ⟨g, off, s0, sl, sc, rfl, e5, h1, h2, h3, h4⟩
end Go.Proofs.YtggjhleomocojaaGreat
namespace Go.Proofs.YtggjhleomocojaaGreat
set_option maxRecDepth 100000
open Go.RowKit
set_option linter.unusedVariables false
set_option linter.unusedSimpArgs false
def fewT (S : Int) (l : List (Int × List Int)) : Bool := l.all (fun x => decide ((x.2.length : Int) ≤ S ∧ 1 ≤ x.1)) && decide (l.length ≤ 12)
variable {S : Int} {l : List (Int × List Int)}
theorem fewT_true (h : fewT S l = true) : (∀ x ∈ l, (x.2.length : Int) ≤ S ∧ 1 ≤ x.1) ∧ l.length ≤ 12 := by
 unfold fewT at h
 rw [Bool.and_eq_true] at h
 exact ⟨fun x hx => of_decide_eq_true (List.all_eq_true.1 h.1 x hx), of_decide_eq_true h.2⟩
theorem fewT_not {x : Int × List Int} (hx : x ∈ l) (h : ¬ ((x.2.length : Int) ≤ S ∧ 1 ≤ x.1)) : fewT S l = false := by
 cases hb : fewT S l with
 | false => rfl
 | true => exact absurd ((fewT_true hb).1 x hx) h
theorem fewT_len (h : ∀ x ∈ l, (x.2.length : Int) ≤ S ∧ 1 ≤ x.1) : fewT S l = decide (l.length ≤ 12) := by
 unfold fewT
 rw [List.all_eq_true.2 (fun x hx => decide_eq_true (h x hx)), Bool.true_and]
set_option maxHeartbeats 2000000 in
theorem fewT_any (size : Int) (hz0 : 0 ≤ size) (hz1 : size ≤ 100000) {w : World} {L0 : Nat → Prop} {lv : Value} {l : List (Int × List Int)} (hr : RdMs w L0 lv l) :
  Calls Tryz.prog 8 #[lv, .int .i64 size] w fun e w' => e = .returned (.bool (fewT (size / 8) l)) ∧ Below w.heap.size w w' := by
 obtain ⟨la, lc, rfl, hlc, hlm⟩ := hr.sl
 have HR := Lib.hid hr
 obtain ⟨n, hn⟩ : ∃ n, n = l.length := ⟨_, rfl⟩
 have HN := Lib.hid hn
 rw [← hn] at hlc ⊢
 unfold maxLen at hlm
 obtain ⟨bo, hbo⟩ : ∃ bo, bo = fewT (size / 8) l := ⟨_, rfl⟩
 have HBO := Lib.hid hbo
 rw [← hbo]
 have hs8 : size.tdiv 8 = size / 8 := Int.tdiv_eq_ediv_of_nonneg hz0
 have W8 : IntKind.i64.wrap (size.tdiv 8) = size.tdiv 8 := IntWalk.i64_in _ ⟨by omega, by omega⟩
 clear hr hn hbo
 go_enter Tryz.func8, Tryz.ntmps8
 go_wp2_with fail
 go_loopg [9] (n + 1) (fun gk iv wr => ∃ i : Nat, gk + i = n + 1 ∧ i ≤ n ∧ iv = .int .i64 i ∧ (∀ j x, j < i → l[j]? = some x → (x.2.length : Int) ≤ size / 8 ∧ 1 ≤ x.1) ∧ Below w.heap.size w wr)
 case atStart => exact ⟨0, by omega, by omega, rfl, fun j x h => absurd h (Nat.not_lt_zero _), Below.refl _ _⟩
 case round =>
  obtain ⟨i, hgk, hi, rfl, hs, hb⟩ := hrel
  have HGK := Lib.hid hgk
  have HS := Lib.hid hs
  have HB := Lib.hid hb
  clear hgk hs hb
  by_cases hin : i < n
  ·have hii : (i : Int) < (n : Int) := by omega
   have W1 : IntKind.i64.wrap ((i : Int) + 1) = (i : Int) + 1 := IntWalk.i64_in _ ⟨by omega, by omega⟩
   obtain ⟨y, hy⟩ : ∃ y, l[i]? = some y := ⟨_, List.getElem?_eq_getElem (by have := HN.out; omega)⟩
   obtain ⟨g, off, sa, sl, sc, rfl, hg, m0, m1, hrd, _⟩ := (HR.out.below HB.out).at2 hy
   have HSL := Lib.hid (rd_len hrd)
   have HY := Lib.hid hy
   clear hy hrd
   by_cases h3 : size.tdiv 8 < (sl : Int)
   ·obtain rfl : bo = false := by rw [HBO.out]; exact fewT_not (List.mem_of_getElem? HY.out) (by have := HSL.out; omega)
    go_wp2
    go_ret
    exact ⟨rfl, HB.out.alloc HB.out.size _⟩
   by_cases h4 : y.1 < 1
   ·obtain rfl : bo = false := by rw [HBO.out]; exact fewT_not (List.mem_of_getElem? HY.out) (by omega)
    go_wp2
    go_ret
    exact ⟨rfl, HB.out.alloc HB.out.size _⟩
   ·go_wp2_with fail
    go_roundg (n - i)
    case measure => have := HGK.out; omega
    case rel =>
     refine ⟨i + 1, by omega, by omega, by go_num, fun j x hj hx => ?_, HB.out.alloc HB.out.size _⟩
     by_cases hji : j < i
     ·exact HS.out j x hji hx
     ·obtain rfl : j = i := by omega
      have := HY.out
      rw [hx] at this
      cases this
      have := HSL.out
      omega
  ·obtain rfl : i = n := by omega
   have hnl : ¬ (i : Int) < (i : Int) := by omega
   have hbo : bo = decide ((i : Int) ≤ 12) := by
    rw [HBO.out, fewT_len (fun x hx => by
     obtain ⟨j, hj⟩ := List.getElem?_of_mem hx
     exact HS.out j x (by have := (List.getElem?_eq_some_iff.1 hj).1; have := HN.out; omega) hj), ← HN.out]
    exact decide_eq_decide.2 (by omega)
   have HB2 := Lib.hid hbo
   clear hbo
   go_wp2
   go_ret
   refine ⟨?_, HB.out⟩
   rw [HB2.out]
   rfl
end Go.Proofs.YtggjhleomocojaaGreat
namespace Go.Proofs.YtggjhleomocojaaGreat
set_option maxRecDepth 100000
open Go.RowKit
set_option linter.unusedVariables false
set_option linter.unusedSimpArgs false
theorem soloRun (C : Fam) {w : World} {p c : Nat} {cnt : Int} {bs bs' : List Int} {F : Nat → Prop} {q g n : Nat} {s s' : C.M.σ} (hB : Buf w p c cnt bs) (hi : C.inv w F q s) (hp : ¬ F p) (hc : ¬ F c) (hg : Blk w g [.iface (C.ty s) (.pointer (some ⟨q, 0, none⟩))]) (most : Int) (hr : Runs C.M s bs n s' bs') (hend : C.M.live s' = false) (hn : (n : Int) ≤ most) (hm : most ≤ 900000) (hc0 : 0 ≤ cnt) (hc1 : cnt ≤ 1000000000000) :
  Calls Tryz.prog 11 #[.pointer (some ⟨p, 0, none⟩), .slice (some ⟨g, 0, none⟩) 1 1] w fun e w1 => ∃ W, e = .returned (.pointer (some ⟨W, 0, none⟩)) ∧ Calls Tryz.prog 12 #[.pointer (some ⟨W, 0, none⟩), .int .i64 most] w1 fun e w2 => (∃ k, e = .returned (.int .i64 k)) ∧ Buf w2 p c (cnt + n) bs' ∧ (∃ F' q', C.inv w2 F' q' s' ∧ ¬ F' p ∧ ¬ F' c ∧ ∀ i, F' i → F i ∨ w.heap.size ≤ i) ∧ Keep (fun i => F i ∨ i = p ∨ i = c) w w2 := by
 refine (soloNew C hB hi hp hc hg).mono ?_
 rintro e w1 ⟨W, κ, av, ab, rfl, hW, hκ, hWs, b1⟩
 refine ⟨W, rfl, (soloRobin C (w0 := w) hW hκ b1 hB.hd.lt (Blk.lt hB.wd) most hm hc0 hc1).mono ?_⟩
 rintro e w2 ⟨rfl, hS⟩
 have hR := robin_runs (M := C.M) most hr hend hn cnt
 refine ⟨⟨_, rfl⟩, ?_, hS.of hR.2.1, hS.keep⟩
 have h1 := hS.buf
 rw [hR.2.2.1, hR.2.2.2] at h1
 exact h1
end Go.Proofs.YtggjhleomocojaaGreat
namespace Go.Proofs.YtggjhleomocojaaGreat
set_option maxRecDepth 100000
open Go.RowKit
set_option linter.unusedVariables false
set_option linter.unusedSimpArgs false
def earL (e : EarV) : List Value := [.int .i64 e.cu, .int .i64 e.nx, .int .i64 e.la]
theorem ear_at : ∀ (es : List EarV) (k o : Nat) (e : EarV), es[k]? = some e → o < 3 → (es.flatMap earL)[k * 3 + o]? = (earL e)[o]?
 | [], k, o, e, h, _ => by simp at h
 | x :: r, 0, o, e, h, ho => by
  simp at h
  subst h
  rw [List.flatMap_cons, List.getElem?_append_left (by show 0 * 3 + o < 3; omega), Nat.zero_mul, Nat.zero_add]
 | x :: r, k + 1, o, e, h, ho => by
  have h1 := ear_at r k o e (by simpa using h) ho
  rw [List.flatMap_cons, List.getElem?_append_right (by show 3 ≤ (k + 1) * 3 + o; omega), show (k + 1) * 3 + o - (earL x).length = k * 3 + o by show (k + 1) * 3 + o - 3 = _; omega]
  exact h1
theorem ear_set : ∀ (es : List EarV) (k : Nat) (e : EarV), k < es.length → ((((es.flatMap earL).set (k * 3) (.int .i64 e.cu)).set (k * 3 + 1) (.int .i64 e.nx)).set (k * 3 + 2) (.int .i64 e.la)) = (es.set k e).flatMap earL
 | [], k, e, h => by simp at h
 | x :: r, 0, e, h => rfl
 | x :: r, k + 1, e, h => by
  have ih := ear_set r k e (by simpa using h)
  rw [List.flatMap_cons, List.set_append_right _ _ (by show 3 ≤ (k + 1) * 3; omega), List.set_append_right _ _ (by show 3 ≤ (k + 1) * 3 + 1; omega), List.set_append_right _ _ (by show 3 ≤ (k + 1) * 3 + 2; omega),
   show (k + 1) * 3 - (earL x).length = k * 3 by show (k + 1) * 3 - 3 = _; omega, show (k + 1) * 3 + 1 - (earL x).length = k * 3 + 1 by show (k + 1) * 3 + 1 - 3 = _; omega, show (k + 1) * 3 + 2 - (earL x).length = k * 3 + 2 by show (k + 1) * 3 + 2 - 3 = _; omega, ih, List.set_cons_succ, List.flatMap_cons]
theorem earinfo : (Tryz.prog.info? 46).map (fun i => (i.zero, i.size, i.bytes)) = some (some (.agg #[.int .i64 0, .int .i64 0, .int .i64 0]), 3, 24) := by kernel_rfl
variable {w : World}
theorem own_full {B E size n g : Nat} {xs : List Value} (h : w.ownsRow B E size (.slice (some ⟨g, 0, none⟩) n n) n xs) : Blk w g xs := by
 obtain ⟨h1, h2⟩ := h
 rcases h2 with ⟨e, _⟩ | ⟨g', cap, cur, e, _, hh, _, _, hs, ht⟩
 ·cases e
 ·cases e
  have : cur.toList = xs := by
   rw [← ht, List.take_of_length_le (by rw [Array.length_toList, hs]; exact Nat.le_refl _)]
  refine ⟨E, ?_⟩
  rw [hh, ← this]
theorem nearSend {p c : Nat} {cnt : Int} {bs : List Int} {F : Nat → Prop} {q g s T : Nat} {cc : PutC} (hB : Buf w p c cnt bs) (hi : SenF w F q (SenM.init cc)) (hp : ¬ F p) (hc : ¬ F c) (hg : Blk w g [.iface 35 (.pointer (some ⟨q, 0, none⟩))]) (hc0 : 0 ≤ cnt) (hc1 : cnt ≤ 1000000000)
  (hs : cc.s = s) (hb : cc.b = 0) (hok : cc.ok = true) (hd : IsB cc.d) (hs8 : s % 8 = 0) (hs64 : 64 ≤ s) (hs1024 : s ≤ 1024) (ht : cc.typ ≤ 2147483647) (hT8 : T % 8 = 0) (hTb : T ≤ 900000) (hl : s + 24 ≤ bs.length) (htl : rdN bs (s + 8) 8 = (T : Int)) (hdl : cc.d.length ≤ 128) :
  Calls Tryz.prog 11 #[.pointer (some ⟨p, 0, none⟩), .slice (some ⟨g, 0, none⟩) 1 1] w fun e w1 => ∃ W, e = .returned (.pointer (some ⟨W, 0, none⟩)) ∧ Calls Tryz.prog 12 #[.pointer (some ⟨W, 0, none⟩), .int .i64 9999] w1 fun e w2 => (∃ k, e = .returned (.int .i64 k)) ∧
   ∃ cnt' bs' P F', Buf w2 p c cnt' bs' ∧ cnt ≤ cnt' ∧ cnt' ≤ cnt + 1000 ∧ bs'.length = bs.length ∧ Sent cc s T P bs' ∧ SenF w2 F' q ⟨cc, .done, ((P : Nat) : Int), 0⟩ ∧ ¬ F' p ∧ ¬ F' c ∧ (∀ i, F' i → F i ∨ w.heap.size ≤ i) ∧ Keep (fun i => F i ∨ i = p ∨ i = c) w w2 := by
 obtain ⟨bs', r, P, hr, hrn, hlen, hsent⟩ := sen_alone cc s hs hb hok hd hs8 hs64 hs1024 ht T hT8 hTb bs hB.is hl htl
 refine (soloRun (Fam.Q senFam) (s := (q, SenM.init cc)) (s' := (q, ⟨cc, .done, ((P : Nat) : Int), 0⟩)) hB ⟨rfl, hi⟩ hp hc hg 9999 (ChP.runsQ q (show Runs senMac _ _ _ _ _ from hr)) rfl (by omega) (by decide) hc0 (by omega)).mono ?_
 rintro e w1 ⟨W, rfl, hR⟩
 refine ⟨W, rfl, hR.mono ?_⟩
 rintro e w2 ⟨hk, hb2, ⟨F', q', ⟨e1, hF'⟩, np, nc, hF2⟩, kp⟩
 have e1 : q' = q := e1
 subst e1
 exact ⟨hk, cnt + r, bs', P, F', hb2, by omega, by omega, hlen, hsent, hF', np, nc, hF2, kp⟩
theorem nearHear {p c : Nat} {cnt : Int} {bs : List Int} {F : Nat → Prop} {q g s T P : Nat} {cc : PutC} {cu : Int} (hB : Buf w p c cnt bs) (hi : RelF w F q (relC.start (⟨0, s, ⟨cu, (T : Int), 0⟩, 2, [], 0⟩ : RelT))) (hp : ¬ F p) (hc : ¬ F c) (hg : Blk w g [.iface 43 (.pointer (some ⟨q, 0, none⟩))]) (hc0 : 0 ≤ cnt) (hc1 : cnt ≤ 1000000000)
  (hs : cc.s = s) (hb : cc.b = 0) (hok : cc.ok = true) (hs8 : s % 8 = 0) (hs64 : 64 ≤ s) (hs1024 : s ≤ 1024) (ht : cc.typ ≤ 2147483647) (hT8 : T % 8 = 0) (hTb : T ≤ 900000) (hl : s + 24 ≤ bs.length) (hS : Sent cc s T P bs) (hdl : cc.d.length ≤ 128) :
  Calls Tryz.prog 11 #[.pointer (some ⟨p, 0, none⟩), .slice (some ⟨g, 0, none⟩) 1 1] w fun e w1 => ∃ W, e = .returned (.pointer (some ⟨W, 0, none⟩)) ∧ Calls Tryz.prog 12 #[.pointer (some ⟨W, 0, none⟩), .int .i64 9999] w1 fun e w2 => (∃ k, e = .returned (.int .i64 k)) ∧
   ∃ cnt' F', Buf w2 p c cnt' bs ∧ cnt ≤ cnt' ∧ cnt' ≤ cnt + 1000 ∧ RelF w2 F' q ((none, ⟨0, s, ⟨(P : Int), ((P + cc.nd.toNat : Nat) : Int), 0⟩, 0, [((P : Int), (cc.typ, cc.d))], 0⟩) : Option HeaM × RelT) ∧ ¬ F' p ∧ ¬ F' c ∧ (∀ i, F' i → F i ∨ w.heap.size ≤ i) ∧ Keep (fun i => F i ∨ i = p ∨ i = c) w w2 := by
 obtain ⟨r, hr, hrn⟩ := rel_sent cc s hs hb hok hs8 hs64 hs1024 ht T P hT8 hTb bs hl hS cu
 refine (soloRun (Fam.Q relFam) (s := (q, relC.start (⟨0, s, ⟨cu, (T : Int), 0⟩, 2, [], 0⟩ : RelT))) (s' := (q, ((none, ⟨0, s, ⟨(P : Int), ((P + cc.nd.toNat : Nat) : Int), 0⟩, 0, [((P : Int), (cc.typ, cc.d))], 0⟩) : Option HeaM × RelT))) hB ⟨rfl, hi⟩ hp hc hg 9999 (ChP.runsQ q (show Runs relC.mac _ _ _ _ _ from hr)) rfl (by omega) (by decide) hc0 (by omega)).mono ?_
 rintro e w1 ⟨W, rfl, hR⟩
 refine ⟨W, rfl, hR.mono ?_⟩
 rintro e w2 ⟨hk, hb2, ⟨F', q', ⟨e1, hF'⟩, np, nc, hF2⟩, kp⟩
 have e1 : q' = q := e1
 subst e1
 exact ⟨hk, cnt + r, F', hb2, by omega, by omega, hF', np, nc, hF2, kp⟩
end Go.Proofs.YtggjhleomocojaaGreat
