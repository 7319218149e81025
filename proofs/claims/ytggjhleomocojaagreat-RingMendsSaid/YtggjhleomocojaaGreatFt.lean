/- RingMends: the last filler, and what comes out. No program in sight. Conditions: none. -/
import Derived.Test.YtggjhleomocojaaGreatVy
import Derived.Test.YtggjhleomocojaaGreatAl
import Derived.Test.YtggjhleomocojaaGreatMe
import Derived.Test.YtggjhleomocojaaGreatOm
import Derived.Test.YtggjhleomocojaaGreatDd
import Derived.Test.YtggjhleomocojaaGreatDm
import Derived.Test.YtggjhleomocojaaGreatDq
import Derived.Test.YtggjhleomocojaaGreatGp
import Derived.Test.YtggjhleomocojaaGreatQg
import Derived.Lib.SlBytesConst
import Derived.Test.YtggjhleomocojaaGreatWo
import Derived.Test.YtggjhleomocojaaGreatOy
import Derived.Test.YtggjhleomocojaaGreatVn
import Derived.Test.YtggjhleomocojaaGreatFj
import Derived.Test.YtggjhleomocojaaGreatVs
namespace Go.Proofs.YtggjhleomocojaaGreat
open Go.RowKit
set_option linter.unusedVariables false
def endL : List (Int × List Int) := [(99, [101, 110, 100])]
theorem endL_lo : ∀ x ∈ endL, IsB x.2 ∧ x.1 ≤ 2147483647 := by
 intro x hx
 obtain rfl : x = (99, [101, 110, 100]) := by simpa [endL] using hx
 refine ⟨?_, by decide⟩
 intro y hy
 simp at hy
 omega
variable {ls : List (List (Int × List Int))} {bs : List Int} {P : List PutM} {G : List (Nat × Nat)} {A : List (Slot × Nat)} {FL : List (Option PutM × FilT)}
theorem FilW.zd {b s : Nat} {k H : Nat} {F : List (List Int)} (h : FilW b s ls bs P G A k H F FL) : ∀ z ∈ zipF FL ls, z.1.places.length = cnt0 z.1.done ∧ z.1.done.length ≤ z.2.length := by
 intro z hz
 obtain ⟨i, hi⟩ := List.getElem?_of_mem hz
 obtain ⟨f, hf, e, hl⟩ := zipF_at hi
 obtain ⟨c, hr⟩ := h.rel i f _ hf hl
 rw [← e]
 exact ⟨hr.pl, hr.nn⟩
theorem okPts_len12 : ∀ (Z : List (FilT × List (Int × List Int))), (∀ z ∈ Z, z.1.done.length ≤ 12) → (okPts Z).length ≤ 12 * Z.length
 | [], _ => Nat.le_refl _
 | z :: Z, h => by
  have h1 := okPts_len12 Z (fun y hy => h y (List.mem_cons_of_mem _ hy))
  have h2 := okPn_len z.2 z.1 z.1.done.length
  rw [okPn_all] at h2
  have h3 := h z (List.mem_cons_self ..)
  have e : okPts (z :: Z) = okP z.2 z.1 ++ okPts Z := by unfold okPts; rw [List.flatMap_cons]
  rw [e, List.length_append, List.length_cons]
  omega
theorem FilW.few {b s : Nat} {k H : Nat} {F : List (List Int)} (h : FilW b s ls bs P G A k H F FL) (h12 : ∀ l ∈ ls, l.length ≤ 12) : (msgs A).length ≤ 12 * ls.length := by
 rw [← pts_len, ← h.all]
 have h1 : (allP (zipF FL ls)).length = (okPts (zipF FL ls)).length := foldP_len _
 rw [h1]
 refine Nat.le_trans (okPts_len12 _ fun z hz => ?_) (Nat.mul_le_mul_left _ ?_)
 ·obtain ⟨i, hi⟩ := List.getElem?_of_mem hz
  obtain ⟨f, hf, e, hl⟩ := zipF_at hi
  exact Nat.le_trans (h.zd z hz).2 (h12 _ (List.mem_of_getElem? hl))
 ·unfold zipF
  rw [List.length_zip]
  exact Nat.min_le_right _ _
theorem FilW.end1 (h : FilW 0 1024 ls bs P G A 0 0 [] FL) (h5 : ls.length ≤ 5) (h12 : ∀ l ∈ ls, l.length ≤ 12) :
  ∃ (n : Nat) (bs' : List Int) (P' : List PutM) (G' : List (Nat × Nat)) (A' : List (Slot × Nat)) (t' : FilT) (e : Int), Runs filC.mac (filNew0 (filT0 0 1024 endL 0)) bs n ((none, t') : Option PutM × FilT) bs' ∧ n ≤ 1000 ∧ FilW 0 1024 (ls ++ [endL]) bs' P' G' A' 0 0 [] (FL ++ [((none, t') : Option PutM × FilT)]) ∧ t'.done = [e] ∧ (e = 0 → Fixing 0 1024 A' False bs' [] 0 ∧ ln A' ≤ 1024 ∧ (msgs A').length < 99 ∧ nfin A' < 70) := by
 obtain ⟨E, GE, h1⟩ := h.add endL endL_lo 0
 have hf : (FL ++ [filNew0 (filT0 0 1024 endL 0)])[FL.length]? = some (some (PutC.init ⟨0, 1024, 99, [101, 110, 100]⟩), filT0 0 1024 endL 0) := by
  rw [List.getElem?_append_right (Nat.le_refl _), Nat.sub_self]
  rfl
 obtain ⟨n, bs', P', A', m', hrun, hn, hw, htk, hd, hl⟩ := h1.run1 hf rfl (by omega) (x := (99, [101, 110, 100])) rfl rfl
 rw [List.set_append_right _ _ (Nat.le_refl _), Nat.sub_self] at hw
 refine ⟨n, bs', P', _, A', _, m'.e, hrun, Nat.le_trans hn (by show 11 + 3 / 8 ≤ 1000; decide), hw, hd, fun he => ?_⟩
 have hft := hw.inv.fit
 have h0 : ln A' ≤ 1024 := by omega
 refine ⟨⟨A', 0, 0, hw.inv.dead, rfl, rfl, rfl, hl he, rfl, .inr (by omega), nofun⟩, h0, ?_, ?_⟩
 ·have := hw.few (fun l hl => by
   rcases List.mem_append.1 hl with hl | hl
   ·exact h12 l hl
   ·obtain rfl : l = endL := by simpa using hl
    decide)
  rw [List.length_append] at this
  simp at this
  omega
 ·have := hw.nfin_le
  rw [List.length_append] at this
  simp at this
  omega
theorem mends_same {bs bs9 : List Int} {st : Prop} {out : List (Int × List Int)} (h : FilW 0 1024 ls bs9 P G A 0 0 [] FL) (hx : Fixing 0 1024 A st bs out 70) (hn : nfin A < 70) :
  out.length = (allP (zipF FL ls)).length ∧ ∀ i : Nat, out[i]? = ((allP (zipF FL ls))[i]?).map fun x => (x.t, x.d) := by
 obtain rfl := hx.all hn
 rw [h.all]
 exact ⟨(pts_len A).symm, fun i => pts_at A i⟩
end Go.Proofs.YtggjhleomocojaaGreat
namespace Go.Proofs.YtggjhleomocojaaGreat
set_option maxRecDepth 100000
open Go.RowKit
set_option linter.unusedVariables false
set_option linter.unusedSimpArgs false
theorem RdMs.up {w w' : World} {v : Value} {l : List (Int × List Int)} (h : RdMs w (fun i => i < w.heap.size) v l) (b : Below w.heap.size w w') : RdMs w' (fun i => i < w'.heap.size) v l := (h.below b).mono fun i hi => Nat.lt_of_lt_of_le hi b.size
variable {w : World}
theorem list_appR {ops : Array Oper} {rest : List Oper} {o : Oper} {a : Act} {Q : Exit → Act → World → Prop} (hgd : o.guard = none) (s x : Operand) (T E : TypeId)
  (ho : o.op = .call { callee := .builtin .append, args := #[s, x], argTypes := #[T, T] }) {i : TypeInfo} {z : Value} {size bytes : Nat} (ht : Tryz.prog.underlying T = some (.slice E)) (hi : Tryz.prog.info? E = some i) (hz : i.zero = some z) (hsize : i.size = size) (hby : i.bytes = bytes) (hzs : z.cells.size = size) (hsz : 0 < size)
  (v : Value) (n : Nat) (xs : List Value) (hs : a.eval s = v) (hown : w.ownsRow 0 E size v n xs) (m : Nat) (news : List Value) (xv : Value) (hx : a.eval x = xv) (hsrc : (xv = .slice none 0 0 ∧ m = 0 ∧ news = []) ∨ ∃ (ad : Addr) (cap : Nat), xv = .slice (some ad) m cap ∧ ∀ j u, news[j]? = some u → w.cell? (ad.add j) = some u) (hl : news.length = m * size) (h1 : ∀ u ∈ news, u.oneCell' = true) (hn : (n + m) * bytes ≤ 140737488355328) (hm : n + m ≤ maxLen)
  (h : ∀ v' w', w'.ownsRow 0 E size v' (n + m) (xs ++ news) → w.grownBy w' v.ownBlock → (v'.ownBlock = v.ownBlock ∨ v'.ownBlock = some w.heap.size) → wpList Tryz.prog ops Q rest (a.put o.dst v') w') : wpList Tryz.prog ops Q (o :: rest) a w :=
 wpList_plain hgd fun _ hK => by
  rcases hsrc with ⟨rfl, rfl, rfl⟩ | ⟨ad, cap, rfl, hnews⟩
  ·have hr := run_append_owned_none (P := Tryz.prog) w 0 T o.type E i size ht hi v n xs hown
   unfold Oper.wp execOp
   simp only [ho, resolve, invoke, builtin, Sem.run_bind, Sem.run_pure, Result.andThen_ok, List.map_toArray, List.map_cons, List.map_nil, hs, hx, hr]
   exact hK _ _ (h v w (by rw [List.append_nil]; exact hown) ⟨rfl, rfl, rfl, Nat.le_refl _, fun _ _ _ => rfl⟩ (.inl rfl))
  ·obtain ⟨v', w', hr, h2, h3, _, h5⟩ := run_append_own_at (P := Tryz.prog) w 0 T o.type E i z size bytes ht hi hz hsize hby hzs hsz v n xs hown ad m cap news hl hnews h1 hm hn (Nat.zero_le _)
   unfold Oper.wp execOp
   simp only [ho, resolve, invoke, builtin, Sem.run_bind, Sem.run_pure, Result.andThen_ok, List.map_toArray, List.map_cons, List.map_nil, hs, hx, hr]
   exact hK _ _ (h v' w' h2 h3 h5)
theorem lsinfo : (Tryz.prog.info? 22).map (fun i => (i.zero, i.size, i.bytes)) = some (some (.slice none 0 0), 1, 24) := by kernel_rfl
theorem rowL_src {t0 : Option Addr} {tc : Nat} {L : List LsV} (hr : RdR w (.slice t0 L.length tc) 1 (L.map LsV.cs)) : ((Value.slice t0 L.length tc = .slice none 0 0 ∧ L.length = 0 ∧ L.map (·.s) = []) ∨ ∃ (ad : Addr) (cap : Nat), Value.slice t0 L.length tc = .slice (some ad) L.length cap ∧ ∀ j u, (L.map (·.s))[j]? = some u → w.cell? (ad.add j) = some u) ∧ L.length ≤ maxLen := by
 rcases hr with ⟨e, e2⟩ | ⟨a, cap, e, e2, e3⟩ | ⟨bk, off, cap, e, h1, h2, hc⟩
 ·have : L = [] := by simpa using e2
  subst this
  exact ⟨.inl ⟨e, rfl, rfl⟩, Nat.zero_le _⟩
 ·have : L = [] := by simpa using e2
  subst this
  exact ⟨.inr ⟨a, cap, e, fun j u hj => by cases hj⟩, Nat.zero_le _⟩
 ·rw [List.length_map] at e h1
  refine ⟨.inr ⟨⟨bk, off, none⟩, cap, e, fun j u hj => ?_⟩, by omega⟩
  rw [List.getElem?_map] at hj
  obtain ⟨x, hx, rfl⟩ := Option.map_eq_some_iff.1 hj
  have := hc j [x.s] (by rw [List.getElem?_map, hx]; rfl) 0 x.s rfl
  have e9 : (⟨bk, off, none⟩ : Addr).add j = ⟨bk, off + j, none⟩ := by unfold Addr.add; split <;> simp_all
  rw [e9]
  simpa using this
theorem rdls_of {v : Value} {n : Nat} {xs : List Value} {ls : List (List (Int × List Int))} (h : w.ownsRow 0 22 1 v n xs) (hn : 0 < n) (hl : ls.length = n) (hx : ∀ (i : Nat) (l : List (Int × List Int)), ls[i]? = some l → ∃ sv, xs[i]? = some sv ∧ RdMs w (fun i => i < w.heap.size) sv l) : RdLs w v ls := by
 have h0 := h
 rcases h.2 with ⟨_, e⟩ | ⟨g, cap, cur, rfl, _, hg, h1, h2, h3, h4⟩
 ·omega
 ·refine .inr ⟨g, 0, cap, by rw [hl], by omega, h2, fun i l hi => ?_⟩
  obtain ⟨sv, q1, q2⟩ := hx i l hi
  have hil := (List.getElem?_eq_some_iff.1 hi).1
  refine ⟨sv, ?_, q2⟩
  rw [Nat.zero_add, World.ownsRow.cellAt h0 i (by omega)]
  exact q1
theorem mends_all {L : List FqS} {ls : List (List (Int × List Int))} {t9 : FilT} {q9 n : Nat} {vs : List Value} {fv lv : Value} (hL : L.length = ls.length) (hn : n = ls.length) (hf : w.ownsRow 0 63 1 fv (n + 1) (vs ++ [ptr q9])) (hvs : vs = L.map fun x => ptr x.1) (hP : ∀ (i : Nat) (x : FqS), L[i]? = some x → ∃ F cur, filK.P w x.1 F cur x.2.2) (h9 : ∃ F cur, filK.P w q9 F cur t9) (hl : RdLs w lv (ls ++ [endL])) (hd : ∀ z ∈ zipF (L.map (·.2) ++ [((none, t9) : Option PutM × FilT)]) (ls ++ [endL]), z.1.places.length = cnt0 z.1.done ∧ z.1.done.length ≤ z.2.length) (h12 : ∀ l ∈ ls, l.length ≤ 12) (h5 : ls.length ≤ 5) :
  Calls Tryz.prog 27 #[fv, lv] w fun e w' => ∃ v, e = .returned v ∧ w'.ownsRow 0 86 3 v (allP (zipF (L.map (·.2) ++ [((none, t9) : Option PutM × FilT)]) (ls ++ [endL]))).length ((allP (zipF (L.map (·.2) ++ [((none, t9) : Option PutM × FilT)]) (ls ++ [endL]))).flatMap ptL) ∧ (∀ i, v.ownBlock = some i → w.heap.size ≤ i) ∧ Below w.heap.size w w' := by
 have hZ : (zipF (L.map (·.2) ++ [((none, t9) : Option PutM × FilT)]) (ls ++ [endL])).length = n + 1 := by
  unfold zipF
  rw [List.length_zip, List.length_map, List.length_append, List.length_append, List.length_map]
  simp
  omega
 have hZ2 : (zipF (L.map (·.2) ++ [((none, t9) : Option PutM × FilT)]) (ls ++ [endL])).map (·.2) = ls ++ [endL] := by
  unfold zipF
  rw [List.map_snd_zip]
  rw [List.length_map, List.length_append, List.length_append, List.length_map, hL]
  exact Nat.le_refl _
 refine all_any _ (fun i => if i < n then ((L[i]?).map (·.1)).getD 0 else q9) (vs := vs ++ [ptr q9]) w (by rw [hZ]; exact hf) (fun i hi => ?_) (fun i z hz => ?_) (by rw [hZ2]; exact hl) (fun z hz => ?_) (by omega)
 ·have hvl : vs.length = n := by rw [hvs, List.length_map]; omega
  by_cases hin : i < n
  ·rw [if_pos hin, List.getElem?_append_left (by omega), hvs, List.getElem?_map]
   obtain ⟨x, hx⟩ : ∃ x, L[i]? = some x := ⟨_, List.getElem?_eq_getElem (by omega)⟩
   rw [hx]
   rfl
  ·rw [if_neg hin, List.getElem?_append_right (by omega), show i - vs.length = 0 by omega]
   rfl
 ·obtain ⟨f, hf2, e, _⟩ := zipF_at hz
  by_cases hin : i < n
  ·rw [List.getElem?_append_left (by rw [List.length_map]; omega), List.getElem?_map] at hf2
   obtain ⟨x, hx, rfl⟩ := Option.map_eq_some_iff.1 hf2
   obtain ⟨F, cur, h⟩ := hP i x hx
   refine ⟨F, cur, ?_⟩
   rw [if_pos hin, hx, ← e]
   exact h
  ·rw [List.getElem?_append_right (by rw [List.length_map]; omega), List.length_map] at hf2
   have e0 : i - L.length = 0 := by
    have := (List.getElem?_eq_some_iff.1 hf2).1
    simpa using this
   rw [e0] at hf2
   cases hf2
   obtain ⟨F, cur, h⟩ := h9
   refine ⟨F, cur, ?_⟩
   rw [if_neg hin, ← e]
   exact h
 ·obtain ⟨h1, h2⟩ := hd z hz
  obtain ⟨i, hi⟩ := List.getElem?_of_mem hz
  obtain ⟨f, _, _, hz3⟩ := zipF_at hi
  have : z.2.length ≤ 12 := by
   rcases List.mem_append.1 (List.mem_of_getElem? hz3) with h | h
   ·exact h12 _ h
   ·rw [List.mem_singleton.1 h]
    decide
  exact ⟨h1, h2, by omega⟩
end Go.Proofs.YtggjhleomocojaaGreat
namespace Go.Proofs.YtggjhleomocojaaGreat
set_option maxRecDepth 100000
open Go.RowKit
set_option linter.unusedVariables false
set_option linter.unusedSimpArgs false
variable {l : List (Int × List Int)}
theorem RdMs.at2 {w : World} {L : Nat → Prop} {a : Option Addr} {n c : Nat} (h : RdMs w L (.slice a n c) l) {k : Nat} {x : Int × List Int} (hx : l[k]? = some x) : ∃ g off s0 sl sc, a = some ⟨g, off, none⟩ ∧ g < w.heap.size ∧ w.cell? ⟨g, off + k * 2, none⟩ = some (.int .i32 x.1) ∧ w.cell? ⟨g, off + k * 2 + 1, none⟩ = some (.slice s0 sl sc) ∧ RdB w (.slice s0 sl sc) x.2 ∧ (x.2.length ≠ 0 → ∀ j, (Value.slice s0 sl sc).ownBlock = some j → L j) := by
 rcases h with ⟨_, _, _, rfl, _⟩ | ⟨g, off, cap, e1, e2, e3, e4, e5, e6⟩
 ·cases hx
 ·obtain ⟨s0, sl, sc, h1, h2, h3, h4⟩ := e6 k x hx
  cases e1
  exact ⟨g, off, s0, sl, sc, rfl, e5, h1, h2, h3, h4⟩
def fewB (l : List (Int × List Int)) : Bool := l.all (fun x => decide (x.2.length ≤ 300)) && decide (l.length ≤ 12)
theorem fewB_true (h : fewB l = true) : (∀ x ∈ l, x.2.length ≤ 300) ∧ l.length ≤ 12 := by
 unfold fewB at h
 rw [Bool.and_eq_true] at h
 exact ⟨fun x hx => of_decide_eq_true (List.all_eq_true.1 h.1 x hx), of_decide_eq_true h.2⟩
theorem fewB_not {x : Int × List Int} (hx : x ∈ l) (h : ¬ x.2.length ≤ 300) : fewB l = false := by
 cases hb : fewB l with
 | false => rfl
 | true => exact absurd ((fewB_true hb).1 x hx) h
theorem fewB_len (h : ∀ x ∈ l, x.2.length ≤ 300) : fewB l = decide (l.length ≤ 12) := by
 unfold fewB
 rw [List.all_eq_true.2 (fun x hx => decide_eq_true (h x hx)), Bool.true_and]
set_option maxHeartbeats 2000000 in
theorem few_any {w : World} {L0 : Nat → Prop} {lv : Value} (hr : RdMs w L0 lv l) :
  Calls Tryz.prog 26 #[lv] w fun e w' => e = .returned (.bool (fewB l)) ∧ Below w.heap.size w w' := by
 obtain ⟨la, lc, rfl, hlc, hlm⟩ := hr.sl
 have HR := Lib.hid hr
 obtain ⟨n, hn⟩ : ∃ n, n = l.length := ⟨_, rfl⟩
 have HN := Lib.hid hn
 rw [← hn] at hlc ⊢
 unfold maxLen at hlm
 obtain ⟨bo, hbo⟩ : ∃ bo, bo = fewB l := ⟨_, rfl⟩
 have HBO := Lib.hid hbo
 rw [← hbo]
 clear hr hn hbo
 go_enter Tryz.func26, Tryz.ntmps26
 go_wp2_with fail
 go_loopg [7] (n + 1) (fun gk iv wr => ∃ i : Nat, gk + i = n + 1 ∧ i ≤ n ∧ iv = .int .i64 i ∧ (∀ j x, j < i → l[j]? = some x → x.2.length ≤ 300) ∧ Below w.heap.size w wr)
 case atStart => exact ⟨0, by omega, by omega, rfl, fun j x h => absurd h (Nat.not_lt_zero _), Below.refl _ _⟩
 case round =>
  obtain ⟨i, hgk, hi, rfl, hs, hb⟩ := hrel
  have HGK := Lib.hid hgk
  have HS := Lib.hid hs
  have HB := Lib.hid hb
  clear hgk hs hb
  by_cases hin : i < n
  ·have hii : (i : Int) < (n : Int) := by omega
   have W1 : IntKind.i64.wrap ((i : Int) + 1) = (i : Int) + 1 := IntWalk.i64_in _ ⟨by omega, by omega⟩
   obtain ⟨y, hy⟩ : ∃ y, l[i]? = some y := ⟨_, List.getElem?_eq_getElem (by have := HN.out; omega)⟩
   obtain ⟨g, off, sa, sl, sc, rfl, hg, m0, m1, hrd, _⟩ := (HR.out.below HB.out).at2 hy
   have HSL := Lib.hid (rd_len hrd)
   have HY := Lib.hid hy
   clear hy hrd
   by_cases h3 : (300 : Int) < (sl : Int)
   ·obtain rfl : bo = false := by rw [HBO.out]; exact fewB_not (List.mem_of_getElem? HY.out) (by have := HSL.out; omega)
    go_wp2
    go_ret
    exact ⟨rfl, HB.out.alloc HB.out.size _⟩
   ·go_wp2_with fail
    go_roundg (n - i)
    case measure => have := HGK.out; omega
    case rel =>
     refine ⟨i + 1, by omega, by omega, by go_num, fun j x hj hx => ?_, HB.out.alloc HB.out.size _⟩
     by_cases hji : j < i
     ·exact HS.out j x hji hx
     ·obtain rfl : j = i := by omega
      have := HY.out
      rw [hx] at this
      cases this
      have := HSL.out
      omega
  ·obtain rfl : i = n := by omega
   have hnl : ¬ (i : Int) < (i : Int) := by omega
   have hbo : bo = decide ((i : Int) ≤ 12) := by
    rw [HBO.out, fewB_len (fun x hx => by
     obtain ⟨j, hj⟩ := List.getElem?_of_mem hx
     exact HS.out j x (by have := (List.getElem?_eq_some_iff.1 hj).1; have := HN.out; omega) hj), ← HN.out]
    exact decide_eq_decide.2 (by omega)
   have HB2 := Lib.hid hbo
   clear hbo
   go_wp2
   go_ret
   refine ⟨?_, HB.out⟩
   rw [HB2.out]
   rfl
end Go.Proofs.YtggjhleomocojaaGreat
section
namespace Go.Proofs.YtggjhleomocojaaGreat
set_option maxRecDepth 100000
open Go.RowKit
set_option linter.unusedVariables false
set_option linter.unusedSimpArgs false
def ptP (x : Nat × PutM) : Value := .pointer (some ⟨x.1, 0, none⟩)
def putsI (s : Nat) (L : List BytV) : List PutM := L.mapIdx fun i x => PutC.init ⟨0, s, ((1 + i : Nat) : Int), x.b⟩
structure PutsTo (w0 wr : World) (s : Nat) (ov : Value) (κ : Nat → Kd) (ss : List (Nat × PutM)) (L : List BytV) : Prop where
 md : ∃ qs, MdAt putFam w0 wr κ qs ss
 ow : wr.ownsRow 0 97 1 ov ss.length (ss.map ptP)
 om : ∀ g, ov.ownBlock = some g → w0.heap.size ≤ g ∧ κ g = .no
 eq : ss.map (·.2) = putsI s L
structure Ordd (P : List PutM) (L : List BytV) (out : List (Int × List Int)) (last : Nat → Int) : Prop where
 l0 : last 0 = -1
 n : out.length = okN P
 at_ : ∀ j t d, out[j]? = some (t, d) → last j < last (j + 1) ∧ ∃ (i : Nat) (m : PutM) (x : BytV), P[i]? = some m ∧ L[i]? = some x ∧ m.e = 0 ∧ t = (1 + (i : Int)) ∧ x.b = d ∧ m.pos = last (j + 1)
structure OrdAt (wm wr : World) (κm κ : Nat → Kd) (s W p c : Nat) (av tv : Value) (ab : Nat → Nat) (Ks : List (Nat × PutC)) (n : Nat) (gv : Value) (q : Nat) (gm : GetM) (A : List (Slot × Nat)) (kk H : Nat) (F : List (List Int)) (k0 : Nat) (L : List (Nat × PutM)) (S : SW putMacQ.σ) (FG O R : Nat → Prop) : Prop where
 wo : WoIn putFam wr κ W p c av tv ab S
 pg : PG 0 s A kk H F k0 gm L S
 key : keyQ L = Ks
 kd : ∀ i, i < wm.heap.size → κ i = κm i
 kp : Keep (fun i => κm i ≠ .no) wm wr
 gf : GetF wr FG q gm
 ms : MsIn wr O R gv (msgs (A.take k0))
 mem : ∀ i, FG i ∨ O i ∨ R i → (wm.heap.size ≤ i ∧ i < wr.heap.size) ∧ κ i = .no
 dj : ∀ i, FG i → ¬ (O i ∨ R i)
 dr : ∀ i, O i → ¬ R i
 hb : H ≤ n * s
 c0 : 0 ≤ S.cnt
 c1 : S.cnt ≤ 10001 * (n : Int)
end Go.Proofs.YtggjhleomocojaaGreat
end
namespace Go.Proofs.YtggjhleomocojaaGreat
set_option maxRecDepth 100000
open Go.RowKit
set_option linter.unusedVariables false
set_option linter.unusedSimpArgs false
theorem rdB_at {w : World} {sa : Option Addr} {sn sc : Nat} {l : List Int} (h : RdB w (.slice sa sn sc) l) {k : Nat} (hk : k < l.length) : ∃ bk off, sa = some ⟨bk, off, none⟩ ∧ w.cell? ⟨bk, off + k, none⟩ = some (.int .u8 (gB l k)) ∧ l.length ≤ sc ∧ sc ≤ maxLen := by
 rcases h with ⟨_, e⟩ | ⟨_, _, _, e, _⟩ | ⟨bk, off, cap, e, h1, h2, hc⟩
 ·rw [e] at hk
  exact absurd hk (Nat.not_lt_zero _)
 ·rw [e] at hk
  exact absurd hk (Nat.not_lt_zero _)
 ·cases e
  exact ⟨bk, off, rfl, hc k hk, h1, h2⟩
theorem mcinfoO : (Tryz.prog.info? 66).map (fun i => (i.zero, i.size, i.bytes)) = some (some .nilIface, 1, 16) := by kernel_rfl
end Go.Proofs.YtggjhleomocojaaGreat
namespace Go.Proofs.YtggjhleomocojaaGreat
set_option maxRecDepth 100000
open Go.RowKit
set_option linter.unusedVariables false
set_option linter.unusedSimpArgs false
theorem soloRun (C : Fam) {w : World} {p c : Nat} {cnt : Int} {bs bs' : List Int} {F : Nat → Prop} {q g n : Nat} {s s' : C.M.σ} (hB : Buf w p c cnt bs) (hi : C.inv w F q s) (hp : ¬ F p) (hc : ¬ F c) (hg : Blk w g [.iface (C.ty s) (.pointer (some ⟨q, 0, none⟩))]) (most : Int) (hr : Runs C.M s bs n s' bs') (hend : C.M.live s' = false) (hn : (n : Int) ≤ most) (hm : most ≤ 900000) (hc0 : 0 ≤ cnt) (hc1 : cnt ≤ 1000000000000) :
  Calls Tryz.prog 11 #[.pointer (some ⟨p, 0, none⟩), .slice (some ⟨g, 0, none⟩) 1 1] w fun e w1 => ∃ W, e = .returned (.pointer (some ⟨W, 0, none⟩)) ∧ Calls Tryz.prog 12 #[.pointer (some ⟨W, 0, none⟩), .int .i64 most] w1 fun e w2 => (∃ k, e = .returned (.int .i64 k)) ∧ Buf w2 p c (cnt + n) bs' ∧ (∃ F' q', C.inv w2 F' q' s' ∧ ¬ F' p ∧ ¬ F' c ∧ ∀ i, F' i → F i ∨ w.heap.size ≤ i) ∧ Keep (fun i => F i ∨ i = p ∨ i = c) w w2 := by
 refine (soloNew C hB hi hp hc hg).mono ?_
 rintro e w1 ⟨W, κ, av, ab, rfl, hW, hκ, hWs, b1⟩
 refine ⟨W, rfl, (soloRobin C (w0 := w) hW hκ b1 hB.hd.lt (Blk.lt hB.wd) most hm hc0 hc1).mono ?_⟩
 rintro e w2 ⟨rfl, hS⟩
 have hR := robin_runs (M := C.M) most hr hend hn cnt
 refine ⟨⟨_, rfl⟩, ?_, hS.of hR.2.1, hS.keep⟩
 have h1 := hS.buf
 rw [hR.2.2.1, hR.2.2.2] at h1
 exact h1
theorem Fixing.imp {b s : Nat} {A0 : List (Slot × Nat)} {st st' : Prop} {bs : List Int} {out : List (Int × List Int)} {r : Nat} (h : Fixing b s A0 st bs out r) (hi : st' → st) : Fixing b s A0 st' bs out r := by
 obtain ⟨A, k, H, h1, h2, h3, h4, h5, h6, h7, h8⟩ := h.ex
 exact ⟨A, k, H, h1, h2, h3, h4, h5, h6, h7, fun hh => h8 (hi hh)⟩
theorem Fixing.few {b s : Nat} {A0 : List (Slot × Nat)} {st : Prop} {bs : List Int} {out : List (Int × List Int)} {r : Nat} (h : Fixing b s A0 st bs out r) : out.length ≤ (msgs A0).length := by
 obtain ⟨A, k, H, h1, h2, h3, h4, h5, h6, h7, h8⟩ := h.ex
 rw [h6, ← h3]
 conv => rhs; rw [← List.take_append_drop k A, msgs_app, List.length_append]
 omega
theorem msIn_none (w : World) (O R : Nat → Prop) : MsIn w O R (.slice none 0 0) [] := ⟨⟨[], rfl, World.ownsRow_nil _ _ _ _, fun e he => (List.not_mem_nil he).elim⟩, fun i hi => by cases hi⟩
structure GotAt (w wr : World) (p c : Nat) (cnt0 cnt : Int) (b s : Nat) (A0 : List (Slot × Nat)) (out0 : List (Int × List Int)) (r n : Nat) (bs : List Int) (ov : Value) (outs : List (Int × List Int)) (O R : Nat → Prop) : Prop where
 buf : Buf wr p c cnt bs
 c0 : cnt0 ≤ cnt
 c1 : cnt ≤ cnt0 + n * 20000
 fx : Fixing b s A0 (0 < n) bs (out0 ++ outs) r
 ms : MsIn wr O R ov outs
 or : ∀ i, O i ∨ R i → w.heap.size < i ∧ i < wr.heap.size
 dj : ∀ i, O i → ¬ R i
 kp : Keep (fun i => i = p ∨ i = c) w wr
 bx : Blk wr w.heap.size [.int .i64 b, .int .i64 s]
end Go.Proofs.YtggjhleomocojaaGreat
