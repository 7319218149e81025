/- What fillers put whole, in the order of positions: the law's own row of it. Conditions: as each says. -/
import Derived.Test.YtggjhleomocojaaGreatVx
import Derived.Test.YtggjhleomocojaaGreatDy
import Derived.Test.YtggjhleomocojaaGreatFy
import Derived.Test.YtggjhleomocojaaGreatGp
import Derived.Deep.DeepCutAuto
namespace Go.Proofs.YtggjhleomocojaaGreat
set_option maxRecDepth 100000
open Go.RowKit
set_option linter.unusedVariables false
set_option linter.unusedSimpArgs false
theorem step_appA {w : World} {ops : Array Oper} {o : Oper} {a : Act} {K : Act → World → Prop} {Q : Exit → Act → World → Prop} {E0 : Prop} (hgd : o.guard = none) (s x : Operand) (T E : TypeId)
  (ho : o.op = .call { callee := .builtin .append, args := #[s, x], argTypes := #[T, T] }) {i : TypeInfo} {z : Value} {size bytes : Nat} (ht : Tryz.prog.underlying T = some (.slice E)) (hi : Tryz.prog.info? E = some i) (hz : i.zero = some z) (hsize : i.size = size) (hby : i.bytes = bytes) (hzs : z.cells.size = size) (hsz : 0 < size)
  (v : Value) (n : Nat) (xs : List Value) (hs : a.eval s = v) (hown : w.ownsRow 0 E size v n xs) (g off m cap : Nat) (news : List Value) (hx : a.eval x = .slice (some ⟨g, off, none⟩) m cap) (hnews : ∀ j u, news[j]? = some u → w.cell? ⟨g, off + j, none⟩ = some u) (hl : news.length = m * size) (h1 : ∀ u ∈ news, u.oneCell' = true) (hn : (n + m) * bytes ≤ 140737488355328) (hm : n + m ≤ maxLen)
  (h : ∀ v' w', w'.ownsRow 0 E size v' (n + m) (xs ++ news) → w.grownBy w' v.ownBlock → (v'.ownBlock = v.ownBlock ∨ v'.ownBlock = some w.heap.size) → K (a.put o.dst v') w') :
  if Region.wanted o (yielded ops a.tmps) = true then Oper.wp Tryz.prog o a w K Q else E0 := by
 have hw : Region.wanted o (yielded ops a.tmps) = true := by simp [Region.wanted, hgd]
 rw [if_pos hw]
 have hnews' : ∀ j u, news[j]? = some u → w.cell? ((⟨g, off, none⟩ : Addr).add j) = some u := by
  intro j u hu
  have e : (⟨g, off, none⟩ : Addr).add j = ⟨g, off + j, none⟩ := by unfold Addr.add; split <;> simp_all
  rw [e]
  exact hnews j u hu
 obtain ⟨v', w', hr, h2, h3, _, h5⟩ := run_append_own_at (P := Tryz.prog) w 0 T o.type E i z size bytes ht hi hz hsize hby hzs hsz v n xs hown ⟨g, off, none⟩ m cap news hl hnews' h1 hm hn (Nat.zero_le _)
 unfold Oper.wp execOp
 simp only [ho, resolve, invoke, builtin, Sem.run_bind, Sem.run_pure, Result.andThen_ok, List.map_toArray, List.map_cons, List.map_nil, hs, hx, hr]
 exact h v' w' h2 h3 h5
theorem step_appS {w : World} {ops : Array Oper} {o : Oper} {a : Act} {K : Act → World → Prop} {Q : Exit → Act → World → Prop} {E0 : Prop} (hgd : o.guard = none) (s x : Operand) (T E : TypeId)
  (ho : o.op = .call { callee := .builtin .append, args := #[s, x], argTypes := #[T, T] }) {i : TypeInfo} {z : Value} {size bytes : Nat} (ht : Tryz.prog.underlying T = some (.slice E)) (hi : Tryz.prog.info? E = some i) (hz : i.zero = some z) (hsize : i.size = size) (hby : i.bytes = bytes) (hzs : z.cells.size = size) (hsz : 0 < size)
  (v : Value) (n : Nat) (xs : List Value) (hs : a.eval s = v) (hown : w.ownsRow 0 E size v n xs) (m : Nat) (news : List Value) (xv : Value) (hx : a.eval x = xv) (hsrc : (xv = .slice none 0 0 ∧ m = 0 ∧ news = []) ∨ ∃ g off cap, xv = .slice (some ⟨g, off, none⟩) m cap ∧ ∀ j u, news[j]? = some u → w.cell? ⟨g, off + j, none⟩ = some u) (hl : news.length = m * size) (h1 : ∀ u ∈ news, u.oneCell' = true) (hn : (n + m) * bytes ≤ 140737488355328) (hm : n + m ≤ maxLen)
  (h : ∀ v' w', w'.ownsRow 0 E size v' (n + m) (xs ++ news) → w.grownBy w' v.ownBlock → (v'.ownBlock = v.ownBlock ∨ v'.ownBlock = some w.heap.size) → K (a.put o.dst v') w') :
  if Region.wanted o (yielded ops a.tmps) = true then Oper.wp Tryz.prog o a w K Q else E0 := by
 rcases hsrc with ⟨rfl, rfl, rfl⟩ | ⟨g, off, cap, rfl, hnews⟩
 ·have hw : Region.wanted o (yielded ops a.tmps) = true := by simp [Region.wanted, hgd]
  rw [if_pos hw]
  have hr := run_append_owned_none (P := Tryz.prog) w 0 T o.type E i size ht hi v n xs hown
  unfold Oper.wp execOp
  simp only [ho, resolve, invoke, builtin, Sem.run_bind, Sem.run_pure, Result.andThen_ok, List.map_toArray, List.map_cons, List.map_nil, hs, hx, hr]
  exact h v w (by rw [List.append_nil]; exact hown) ⟨rfl, rfl, rfl, Nat.le_refl _, fun _ _ _ => rfl⟩ (.inl rfl)
 ·exact step_appA hgd s x T E ho ht hi hz hsize hby hzs hsz v n xs hs hown g off m cap news hx hnews hl h1 hn hm h
theorem own_emptyP (w : World) (E : TypeId) (size : Nat) : (w.alloc (.cells #[] E)).ownsRow 0 E size (.slice (some ⟨w.heap.size, 0, none⟩) 0 0) 0 [] := ⟨by simp, .inr ⟨w.heap.size, 0, #[], rfl, Nat.zero_le _, (MapKept.heap_alloc w _).1, Nat.le_refl _, by unfold maxLen; omega, by simp, by simp⟩⟩
def ptL (x : Pt) : List Value := [.int .i64 x.p, .int .i32 x.t, .string (strOfNums x.d)]
theorem ptL_len (l : List Pt) : (l.flatMap ptL).length = l.length * 3 := by
 induction l with
 | nil => rfl
 | cons x r ih => rw [List.flatMap_cons, List.length_append, ih, List.length_cons]; show 3 + _ = _; omega
theorem ptL_at (l : List Pt) (k j : Nat) (x : Pt) (hx : l[k]? = some x) (hj : j < 3) : (l.flatMap ptL)[k * 3 + j]? = (ptL x)[j]? := by
 induction l generalizing k with
 | nil => simp at hx
 | cons y r ih =>
  cases k with
  | zero =>
   cases hx
   rw [List.flatMap_cons, List.getElem?_append_left (by show 0 * 3 + j < 3; omega), Nat.zero_mul, Nat.zero_add]
  | succ k =>
   rw [List.flatMap_cons, List.getElem?_append_right (by show 3 ≤ _; omega), show (k + 1) * 3 + j - (ptL y).length = k * 3 + j by show (k + 1) * 3 + j - 3 = _; omega]
   exact ih k (by simpa using hx)
theorem ptL_ones (l : List Pt) : ∀ u ∈ l.flatMap ptL, u.oneCell' = true := by
 intro u hu
 obtain ⟨x, _, hu⟩ := List.mem_flatMap.1 hu
 unfold ptL at hu
 simp at hu
 rcases hu with rfl | rfl | rfl <;> rfl
theorem ptL_take (l : List Pt) (k : Nat) : (l.take k).flatMap ptL = (l.flatMap ptL).take (k * 3) := by
 induction l generalizing k with
 | nil => simp
 | cons x r ih =>
  cases k with
  | zero => simp
  | succ k =>
   rw [List.take_succ_cons, List.flatMap_cons, List.flatMap_cons, ih, show (k + 1) * 3 = (ptL x).length + k * 3 by show _ = 3 + _; omega, List.take_append, List.take_of_length_le (l := ptL x) (by omega), Nat.add_sub_cancel_left]
theorem ptL_drop (l : List Pt) (k : Nat) : (l.drop k).flatMap ptL = (l.flatMap ptL).drop (k * 3) := by
 induction l generalizing k with
 | nil => simp
 | cons x r ih =>
  cases k with
  | zero => simp
  | succ k =>
   rw [List.drop_succ_cons, List.flatMap_cons, ih, show (k + 1) * 3 = (ptL x).length + k * 3 by show _ = 3 + _; omega, List.drop_append, show (ptL x).drop ((ptL x).length + k * 3) = [] from List.drop_eq_nil_of_le (by omega), List.nil_append, Nat.add_sub_cancel_left]
theorem insP_at (p : Pt) : ∀ (out : List Pt) (k : Nat), k ≤ out.length → (∀ j y, j < k → out[j]? = some y → y.p < p.p) → (∀ y, out[k]? = some y → ¬ y.p < p.p) → insP p out = out.take k ++ p :: out.drop k
 | [], k, _, _, _ => by simp [insP]
 | y :: r, 0, _, _, h => by
  have hy : p.lt y = false := by simpa [Pt.lt] using h y rfl
  unfold insP
  rw [List.takeWhile_cons_of_neg (by rw [hy]; decide), List.dropWhile_cons_of_neg (by rw [hy]; decide)]
  rfl
 | y :: r, k + 1, hk, h1, h2 => by
  have hy : p.lt y = true := by simpa [Pt.lt] using h1 0 y (by omega) rfl
  have ih := insP_at p r k (by simpa using hk) (fun j z hj hz => h1 (j + 1) z (by omega) (by simpa using hz)) (fun z hz => h2 z (by simpa using hz))
  have e : insP p (y :: r) = y :: insP p r := by
   unfold insP
   rw [List.takeWhile_cons_of_pos hy, List.dropWhile_cons_of_pos hy]
   rfl
  rw [e, ih]
  rfl
theorem ptinfoL : (Tryz.prog.info? 86).map (fun i => (i.zero, i.size, i.bytes)) = some (some (.agg #[.int .i64 0, .int .i32 0, .string { data := #[] }]), 3, 32) := by kernel_rfl
def RdLs (w : World) (v : Value) (ls : List (List (Int × List Int))) : Prop :=
 (ls = [] ∧ ∃ a n c, v = .slice a n c) ∨ ∃ g off cap, v = .slice (some ⟨g, off, none⟩) ls.length cap ∧ ls.length ≤ cap ∧ cap ≤ maxLen ∧ ∀ (i : Nat) (l : List (Int × List Int)), ls[i]? = some l → ∃ sv, w.cell? ⟨g, off + i, none⟩ = some sv ∧ RdMs w (fun i => i < w.heap.size) sv l
def okPn (l : List (Int × List Int)) (t : FilT) (n : Nat) : List Pt := (List.range n).filterMap fun n => if t.done[n]? = some 0 then some ⟨t.places.getD (cnt0 (t.done.take n)) 0, (l.getD n (0, [])).1, (l.getD n (0, [])).2⟩ else none
theorem okPn_all (l : List (Int × List Int)) (t : FilT) : okPn l t t.done.length = okP l t := rfl
theorem okPn_succ (l : List (Int × List Int)) (t : FilT) (n : Nat) : okPn l t (n + 1) = okPn l t n ++ (if t.done[n]? = some 0 then [⟨t.places.getD (cnt0 (t.done.take n)) 0, (l.getD n (0, [])).1, (l.getD n (0, [])).2⟩] else []) := by
 unfold okPn
 rw [List.range_succ, List.filterMap_append, List.filterMap_cons, List.filterMap_nil]
 split <;> simp_all
theorem take_one2 {α : Type} {l : List α} {k : Nat} (d : α) (h : k < l.length) : l.take (k + 1) = l.take k ++ [l.getD k d] := by
 rw [List.take_add_one, List.getElem?_eq_getElem h, List.getD_eq_getElem?_getD, List.getElem?_eq_getElem h]
 rfl
theorem cnt0_lt {L : List Int} {n : Nat} (h : L[n]? = some 0) : cnt0 (L.take n) < cnt0 L := by
 have h8 : L = L.take n ++ 0 :: L.drop (n + 1) := by
  have := drop_at h
  rw [← this, List.take_append_drop]
 conv => rhs; rw [h8]
 unfold cnt0
 rw [List.filter_append, List.length_append]
 simp
def foldP (R : List Pt) : List Pt := R.foldl (fun o p => insP p o) []
theorem foldP_snoc (R : List Pt) (p : Pt) : foldP (R ++ [p]) = insP p (foldP R) := by unfold foldP; rw [List.foldl_append]; rfl
theorem insP_len (p : Pt) (out : List Pt) : (insP p out).length = out.length + 1 := by
 have e : (out.takeWhile p.lt ++ out.dropWhile p.lt).length = out.length := by rw [List.takeWhile_append_dropWhile]
 unfold insP
 rw [List.length_append, List.length_cons]
 rw [List.length_append] at e
 omega
theorem foldI_len : ∀ (R out : List Pt), (R.foldl (fun o p => insP p o) out).length = out.length + R.length
 | [], out => rfl
 | a :: R, out => by
  show (R.foldl (fun o p => insP p o) (insP a out)).length = _
  rw [foldI_len R, insP_len, List.length_cons]
  omega
theorem foldP_len (R : List Pt) : (foldP R).length = R.length := by unfold foldP; rw [foldI_len]; simp
theorem okPn_len (l : List (Int × List Int)) (t : FilT) (n : Nat) : (okPn l t n).length ≤ n := by
 unfold okPn
 have := List.length_filterMap_le (fun n => if t.done[n]? = some 0 then some (⟨t.places.getD (cnt0 (t.done.take n)) 0, (l.getD n (0, [])).1, (l.getD n (0, [])).2⟩ : Pt) else none) (List.range n)
 rw [List.length_range] at this
 exact this
theorem okPts_len : ∀ (Z : List (FilT × List (Int × List Int))), (∀ z ∈ Z, z.1.done.length ≤ 64) → (okPts Z).length ≤ 64 * Z.length
 | [], _ => Nat.le_refl _
 | z :: Z, h => by
  have h1 := okPts_len Z (fun y hy => h y (List.mem_cons_of_mem _ hy))
  have h2 := okPn_len z.2 z.1 z.1.done.length
  rw [okPn_all] at h2
  have h3 := h z (List.mem_cons_self ..)
  have e : okPts (z :: Z) = okP z.2 z.1 ++ okPts Z := by unfold okPts; rw [List.flatMap_cons]
  rw [e, List.length_append, List.length_cons]
  omega
set_option maxHeartbeats 4000000 in
theorem all_any (Z : List (FilT × List (Int × List Int))) (qs : Nat → Nat) {fv lv : Value} {vs : List Value} (w : World) (hf : w.ownsRow 0 63 1 fv Z.length vs) (hvs : ∀ i, i < Z.length → vs[i]? = some (ptr (qs i))) (hF : ∀ (i : Nat) (z : FilT × List (Int × List Int)), Z[i]? = some z → ∃ F cur, filK.P w (qs i) F cur z.1) (hl : RdLs w lv (Z.map (·.2))) (hd : ∀ z ∈ Z, z.1.places.length = cnt0 z.1.done ∧ z.1.done.length ≤ z.2.length ∧ z.1.done.length ≤ 64) (hn : Z.length ≤ 6) :
  Calls Tryz.prog 27 #[fv, lv] w fun e w' => ∃ v, e = .returned v ∧ w'.ownsRow 0 86 3 v (allP Z).length ((allP Z).flatMap ptL) ∧ (∀ i, v.ownBlock = some i → w.heap.size ≤ i) ∧ Below w.heap.size w w' := by
 obtain ⟨i0, hi, hz0, hz1, hz2⟩ := info_parts ptinfoL
 have HF := Lib.hid hF
 have HL := Lib.hid hl
 have HD := Lib.hid hd
 have HV := Lib.hid hvs
 have HO := Lib.hid hf
 obtain ⟨fa, fn, fc, rfl⟩ := own_isSl hf
 have hfn : Z.length = fn := by
  rcases hf.2 with ⟨e, h0⟩ | ⟨g, cap, cur, e, _⟩
  ·cases e
   exact h0
  ·cases e
   rfl
 obtain ⟨la, ln', lc, hlv⟩ : ∃ a n c, lv = .slice a n c := by
  rcases hl with ⟨_, h⟩ | ⟨g, off, cap, h, _⟩
  ·exact h
  ·exact ⟨_, _, _, h⟩
 subst hlv
 subst hfn
 clear hF hl hd hvs hf
 go_enter Tryz.func27, Tryz.ntmps27
 go_wp2_with fail
 go_loopg [5, 16] (Z.length + 1) (fun gk ov iv wr => ∃ i : Nat, gk + i = Z.length + 1 ∧ i ≤ Z.length ∧ iv = .int .i64 i ∧ wr.ownsRow 0 86 3 ov (foldP (okPts (Z.take i))).length ((foldP (okPts (Z.take i))).flatMap ptL) ∧ (∀ j, ov.ownBlock = some j → w.heap.size ≤ j) ∧ Below w.heap.size w wr)
 case atStart => exact ⟨0, by omega, by omega, rfl, World.ownsRow_nil _ _ _ _, (fun j h => by cases h), Below.refl _ _⟩
 case round =>
  obtain ⟨i, hgk, hi', rfl, ho, hob, hb⟩ := hrel
  have HGK := Lib.hid hgk
  have HOW := Lib.hid ho
  have HOB := Lib.hid hob
  have HB := Lib.hid hb
  have zb := hb.size
  obtain ⟨oa, on, oc, rfl⟩ := own_isSl ho
  have W1 : IntKind.i64.wrap ((i : Int) + 1) = (i : Int) + 1 := IntWalk.i64_in _ ⟨by omega, by omega⟩
  clear hgk ho hob hb
  by_cases hiz : i < Z.length
  ·have hii : (i : Int) < (Z.length : Int) := by omega
   obtain ⟨⟨t, l⟩, hz⟩ : ∃ z, Z[i]? = some z := ⟨_, List.getElem?_eq_getElem hiz⟩
   obtain ⟨F, cur, hP⟩ := HF.out i _ hz
   obtain ⟨d1, d2, d3⟩ := HD.out _ (List.mem_of_getElem? hz)
   dsimp only at hP d1 d2 d3
   obtain ⟨g, cap, e1, hcell, hc1, hc2⟩ : ∃ g cap, (Value.slice fa Z.length fc) = .slice (some ⟨g, 0, none⟩) Z.length cap ∧ w.cell? ⟨g, i, none⟩ = some (ptr (qs i)) ∧ Z.length ≤ cap ∧ cap ≤ maxLen := by
    have ho := HO.out
    rcases ho.2 with ⟨_, h0⟩ | ⟨g, cap, cur, e, _, _, h1, h2, _⟩
    ·omega
    ·refine ⟨g, cap, e, ?_, h1, h2⟩
     rw [e] at ho
     rw [World.ownsRow.cellAt ho i (by omega)]
     exact HV.out i hiz
   cases e1
   have hcr := (HB.out.cell (p := ⟨g, i, none⟩) (World.block_lt_of_cell? w _ hcell)).trans hcell
   unfold ptr at hcr
   have HP := Lib.hid (filK.below hP HB.out)
   have HZ := Lib.hid hz
   obtain ⟨nd, hnd⟩ : ∃ nd, nd = t.done.length := ⟨_, rfl⟩
   obtain ⟨np, hnp⟩ : ∃ np, np = t.places.length := ⟨_, rfl⟩
   have HND := Lib.hid hnd
   have HNP := Lib.hid hnp
   have HD1 := Lib.hid d1
   have HD2 := Lib.hid d2
   have hnd64 : nd ≤ 64 := by omega
   clear hcell hP hz hnd hnp d1 d2 d3
   go_wp2_with fail
   refine (filPlaces_any HP.out).mono ?_
   rintro e w2 ⟨pv, rfl, po, pb, b2⟩
   rw [← HNP.out] at po
   obtain ⟨pa, pn, pc, rfl⟩ := own_isSl po
   obtain rfl : np = pn := by
    rcases po.2 with ⟨e, h0⟩ | ⟨g, cap, cur, e, _⟩
    ·cases e; exact h0
    ·cases e; rfl
   have PO := Lib.hid po
   have B2 := Lib.hid b2
   have HP2 := Lib.hid (filK.below HP.out b2)
   have z2 := b2.size
   clear po pb b2 hcr
   go_wp2_with fail
   refine (filDone_any HP2.out).mono ?_
   rintro e w3 ⟨dv, rfl, dO, db, b3⟩
   rw [← HND.out] at dO
   obtain ⟨da, dn, dc, rfl⟩ := own_isSl dO
   obtain rfl : nd = dn := by
    rcases dO.2 with ⟨e, h0⟩ | ⟨g, cap, cur, e, _⟩
    ·cases e; exact h0
    ·cases e; rfl
   have DO := Lib.hid dO
   have B3 := Lib.hid (B2.out.trans (b3.mono z2))
   have PO3 := Lib.hid (ownsRow_keep PO.out (Below.keeps (M := fun _ => False) b3) (fun _ _ => id))
   have BW3 := Lib.hid (HB.out.trans (B3.out.mono HB.out.size))
   have OW3 := Lib.hid (ownsRow_keep HOW.out (Below.keeps (M := fun _ => False) B3.out) (fun _ _ => id))
   have z3 := b3.size
   have zw3 := BW3.out.size
   clear dO db b3 PO HP HP2 HOW
   go_wp2_with fail
   go_loopg [5, 8, 26] (nd + 1) (fun gk ov kv iv wr => ∃ n : Nat, gk + n = nd + 1 ∧ n ≤ nd ∧ iv = .int .i64 n ∧ kv = .int .i64 (cnt0 (t.done.take n) : Nat) ∧ wr.ownsRow 0 86 3 ov (foldP (okPts (Z.take i) ++ okPn l t n)).length ((foldP (okPts (Z.take i) ++ okPn l t n)).flatMap ptL) ∧ (∀ j, ov.ownBlock = some j → w.heap.size ≤ j) ∧ Below w3.heap.size w3 wr)
   case atStart => exact ⟨0, by omega, by omega, rfl, rfl, by show _; rw [show okPn l t 0 = [] from rfl, List.append_nil]; exact OW3.out, HOB.out, Below.refl _ _⟩
   case round =>
    obtain ⟨n, hgn, hn', rfl, rfl, ho, hob, hb⟩ := hrel
    have HGN := Lib.hid hgn
    have HOW := Lib.hid ho
    have HOB2 := Lib.hid hob
    have HB2 := Lib.hid hb
    have zb2 := hb.size
    obtain ⟨oa2, on2, oc2, rfl⟩ := own_isSl ho
    have W2 : IntKind.i64.wrap ((n : Int) + 1) = (n : Int) + 1 := IntWalk.i64_in _ ⟨by omega, by omega⟩
    clear hgn ho hob hb OW3
    by_cases hnn : n < nd
    ·have hnn2 : (n : Int) < (nd : Int) := by omega
     obtain ⟨e9, he9⟩ : ∃ e, t.done[n]? = some e := ⟨_, List.getElem?_eq_getElem (by have := HND.out; omega)⟩
     obtain ⟨g2, c2, e2, l2, hc2'⟩ := own_ints (L := t.done) (by rw [← HND.out]; exact DO.out) (by have := HND.out; omega)
     cases e2
     have k2 := (HB2.out.cell (p := ⟨g2, n, none⟩) l2).trans (hc2' n e9 he9)
     have HE9 := Lib.hid he9
     clear he9 hc2'
     by_cases h0 : e9 = 0
     ·subst h0
      have hkp := cnt0_lt HE9.out
      rw [← HD1.out, ← HNP.out] at hkp
      obtain ⟨pp, hpp⟩ : ∃ pp, t.places[cnt0 (t.done.take n)]? = some pp := ⟨_, List.getElem?_eq_getElem (by have := HNP.out; omega)⟩
      obtain ⟨gp, c4, e4, l4, hc4⟩ := own_ints (L := t.places) (by rw [← HNP.out]; exact PO3.out) (by have := HNP.out; omega)
      obtain ⟨gl, ol, cl, el, hl1, hl2, hl3⟩ : ∃ g off cap, (Value.slice la ln' lc) = .slice (some ⟨g, off, none⟩) Z.length cap ∧ Z.length ≤ cap ∧ cap ≤ maxLen ∧ ∃ sv, w.cell? ⟨g, off + i, none⟩ = some sv ∧ RdMs w (fun i => i < w.heap.size) sv l := by
       rcases HL.out with ⟨e, _⟩ | ⟨g, off, cap, e, h1, h2, h3⟩
       ·have h9 : Z.length = 0 := by have := congrArg List.length e; simpa using this
        omega
       ·rw [List.length_map] at e h1
        exact ⟨g, off, cap, e, h1, h2, h3 i l (by rw [List.getElem?_map, HZ.out]; rfl)⟩
      obtain ⟨sv, hsv, hrm⟩ := hl3
      obtain ⟨x, hx⟩ : ∃ x, l[n]? = some x := ⟨_, List.getElem?_eq_getElem (by have := HD2.out; have := HND.out; omega)⟩
      have hnl := (List.getElem?_eq_some_iff.1 hx).1
      obtain ⟨g3, o3, c3, rfl, q1, q2, q3, q4, q5⟩ : ∃ g off cap, sv = .slice (some ⟨g, off, none⟩) l.length cap ∧ l.length ≤ cap ∧ cap ≤ maxLen ∧ g < w.heap.size ∧ True ∧ ∃ s0 sl sc, w.cell? ⟨g, off + n * 2, none⟩ = some (.int .i32 x.1) ∧ w.cell? ⟨g, off + n * 2 + 1, none⟩ = some (.slice s0 sl sc) ∧ RdB w (.slice s0 sl sc) x.2 := by
       rcases hrm with ⟨a0, cap0, _, e, _⟩ | ⟨g, off, cap, e1, e2, e3, e4, e5, e6⟩
       ·rw [e] at hnl; simp at hnl
       ·obtain ⟨s0, sl, sc, r1, r2, r3, _⟩ := e6 n x hx
        exact ⟨g, off, cap, e1, e2, e3, e5, trivial, s0, sl, sc, r1, r2, r3⟩
      obtain ⟨s0, sl, sc, m0, m1, m2⟩ := q5
      cases e4
      cases el
      have BR := Lib.hid (BW3.out.trans (HB2.out.mono BW3.out.size))
      have hgl := World.block_lt_of_cell? _ _ hsv
      have HS : Hid (∀ w', Below wr.heap.size wr w' → (fun w' => w'.cell? ⟨gp, cnt0 (t.done.take n), none⟩ = some (.int .i64 pp) ∧ w'.cell? ⟨gl, ol + i, none⟩ = some (.slice (some ⟨g3, o3, none⟩) l.length c3) ∧ w'.cell? ⟨g3, o3 + n * 2, none⟩ = some (.int .i32 x.1) ∧ w'.cell? ⟨g3, o3 + n * 2 + 1, none⟩ = some (.slice s0 sl sc) ∧ (convert 32 9 (.slice s0 sl sc)).run Tryz.prog w' = .ok (.string (strOfNums x.2)) w') w') := Lib.hid (fun w' b => ⟨(b.cell (p := ⟨gp, _, none⟩) (by show gp < _; omega)).trans ((HB2.out.cell (p := ⟨gp, _, none⟩) l4).trans (hc4 _ _ hpp)), ((BR.out.trans (b.mono BR.out.size)).cell (p := ⟨gl, _, none⟩) hgl).trans hsv, ((BR.out.trans (b.mono BR.out.size)).cell (p := ⟨g3, _, none⟩) q3).trans m0, ((BR.out.trans (b.mono BR.out.size)).cell (p := ⟨g3, _, none⟩) q3).trans m1, conv_rd (w := w') 32 9 Tryz.underlying32 Tryz.underlying9 (m2.below (BR.out.trans (b.mono BR.out.size)))⟩)
      have HPP := Lib.hid hpp
      have HX := Lib.hid hx
      have hk1 : ((cnt0 (t.done.take n) : Nat) : Int) < (t.places.length : Int) := by omega
      have hk2 : ¬ (t.places.length : Int) ≤ ((cnt0 (t.done.take n) : Nat) : Int) := by omega
      have hk3 : (n : Int) < (l.length : Int) := by omega
      have hk4 : (i : Int) < (Z.length : Int) := by omega
      clear hpp hx hsv hrm m0 m1 m2 hc4
      obtain ⟨kk, hkk⟩ : ∃ kk, kk = cnt0 (t.done.take n) := ⟨_, rfl⟩
      have HKK := Lib.hid hkk
      rw [← hkk] at HS hk1 hk2 hkp ⊢
      clear hkk
      have hkk64 : kk ≤ 64 := by have := HNP.out; have := HD1.out; have := HD2.out; have h9 : cnt0 t.done ≤ t.done.length := List.length_filter_le _ _; have := HND.out; omega
      have W4 : IntKind.i64.wrap ((kk : Int) + 1) = (kk : Int) + 1 := IntWalk.i64_in _ ⟨by omega, by omega⟩
      go_upto_region 11 with fail
      refine wp_region_held_drew (S := (fun w' => w'.cell? ⟨gp, kk, none⟩ = some (.int .i64 pp) ∧ w'.cell? ⟨gl, ol + i, none⟩ = some (.slice (some ⟨g3, o3, none⟩) l.length c3) ∧ w'.cell? ⟨g3, o3 + n * 2, none⟩ = some (.int .i32 x.1) ∧ w'.cell? ⟨g3, o3 + n * 2 + 1, none⟩ = some (.slice s0 sl sc) ∧ (convert 32 9 (.slice s0 sl sc)).run Tryz.prog w' = .ok (.string (strOfNums x.2)) w')) (by kernel_rfl) ?_ (fun hHeld => ?_)
      ·try dsimp only
       exact HS.out _ (by go_grown)
      refine wpT (v := ?_) 0 rfl ?_ ?_
      rotate_left
      ·intro w0 hSw
       (try dsimp only at hSw)
       go_simp
       try with_reducible rfl
      try simp only [Act.put, tS]
      refine wpT (v := ?_) 1 rfl ?_ ?_
      rotate_left
      ·intro w0 hSw
       (try dsimp only at hSw)
       go_simp
       try with_reducible rfl
      try simp only [Act.put, tS]
      refine wpT (v := ?_) 2 rfl ?_ ?_
      rotate_left
      ·intro w0 hSw
       (try dsimp only at hSw)
       go_simp
       try with_reducible rfl
      try simp only [Act.put, tS]
      refine wpT (v := ?_) 3 rfl ?_ ?_
      rotate_left
      ·intro w0 hSw
       (try dsimp only at hSw)
       go_simp
       try with_reducible rfl
      try simp only [Act.put, tS]
      refine wpT (v := ?_) 4 rfl ?_ ?_
      rotate_left
      ·intro w0 hSw
       (try dsimp only at hSw)
       go_simp
       try with_reducible rfl
      try simp only [Act.put, tS]
      refine wpT (v := ?_) 5 rfl ?_ ?_
      rotate_left
      ·intro w0 hSw
       (try dsimp only at hSw)
       go_simp
       try with_reducible rfl
      try simp only [Act.put, tS]
      refine wpT (v := ?_) 6 rfl ?_ ?_
      rotate_left
      ·intro w0 hSw
       (try dsimp only at hSw)
       go_simp
       try with_reducible rfl
      try simp only [Act.put, tS]
      refine wpT (v := ?_) 7 rfl ?_ ?_
      rotate_left
      ·intro w0 hSw
       (try dsimp only at hSw)
       go_simp
       try with_reducible rfl
      try simp only [Act.put, tS]
      refine wpT (v := ?_) 8 rfl ?_ ?_
      rotate_left
      ·intro w0 hSw
       (try dsimp only at hSw)
       go_simp
       try with_reducible rfl
      try simp only [Act.put, tS]
      refine wpT (v := ?_) 9 rfl ?_ ?_
      rotate_left
      ·intro w0 hSw
       (try dsimp only at hSw)
       go_simp
       try with_reducible rfl
      try simp only [Act.put, tS]
      refine wpT (v := ?_) 10 rfl ?_ ?_
      rotate_left
      ·intro w0 hSw
       (try dsimp only at hSw)
       go_simp
       try with_reducible rfl
      try simp only [Act.put, tS]
      refine wpT (v := ?_) 11 rfl ?_ ?_
      rotate_left
      ·intro w0 hSw
       (try dsimp only at hSw)
       go_simp
       try with_reducible rfl
      try simp only [Act.put, tS]
      refine wpT (v := ?_) 12 rfl ?_ ?_
      rotate_left
      ·intro w0 hSw
       (try dsimp only at hSw)
       go_simp
       try with_reducible rfl
      try simp only [Act.put, tS]
      refine wpT (v := ?_) 13 rfl ?_ ?_
      rotate_left
      ·intro w0 hSw
       (try dsimp only at hSw)
       go_simp
       try with_reducible rfl
      try simp only [Act.put, tS]
      refine wpT (v := ?_) 14 rfl ?_ ?_
      rotate_left
      ·intro w0 hSw
       (try dsimp only at hSw)
       go_simp
       try with_reducible rfl
      try simp only [Act.put, tS]
      refine wpT (v := ?_) 15 rfl ?_ ?_
      rotate_left
      ·intro w0 hSw
       (try dsimp only at hSw)
       go_simp
       try with_reducible rfl
      try simp only [Act.put, tS]
      refine wpT (v := ?_) 16 rfl ?_ ?_
      rotate_left
      ·intro w0 hSw
       (try dsimp only at hSw)
       go_simp
       try with_reducible rfl
      try simp only [Act.put, tS]
      refine wpT (v := ?_) 17 rfl ?_ ?_
      rotate_left
      ·intro w0 hSw
       (try dsimp only at hSw)
       go_simp
       try with_reducible rfl
      try simp only [Act.put, tS]
      refine wpT (v := ?_) 18 rfl ?_ ?_
      rotate_left
      ·intro w0 hSw
       (try dsimp only at hSw)
       go_simp
       try with_reducible rfl
      try simp only [Act.put, tS]
      refine wpT (v := ?_) 19 rfl ?_ ?_
      rotate_left
      ·intro w0 hSw
       (try dsimp only at hSw)
       go_simp
       try with_reducible rfl
      try simp only [Act.put, tS]
      refine wpT (v := ?_) 20 rfl ?_ ?_
      rotate_left
      ·intro w0 hSw
       (try dsimp only at hSw)
       go_simp
       try with_reducible rfl
      try simp only [Act.put, tS]
      refine wpT (v := ?_) 21 rfl ?_ ?_
      rotate_left
      ·intro w0 hSw
       (try dsimp only at hSw)
       go_simp
       try with_reducible rfl
      try simp only [Act.put, tS]
      refine wpR 22 rfl fun K hK => ?_
      go_simp
      refine hK.out _ _ ?_ (fun hHeld => ?_)
      ·try dsimp only
       exact HS.out _ (by go_grown)
      clear hK K
      try simp only [Act.put, tS]
      refine wpR 23 rfl fun K hK => ?_
      go_simp
      refine hK.out _ _ ?_ (fun hHeld => ?_)
      ·try dsimp only
       exact HS.out _ (by go_grown)
      clear hK K
      try simp only [Act.put, tS]
      refine wpAnyH_done (by kernel_rfl) ?_ _
      go_wp2_with fail
      obtain ⟨w5, hw5⟩ : ∃ w5, w5 = (wr.alloc (Obj.cells #[.int .i64 pp, .int .i32 x.1, .string (strOfNums x.2)] 86)).drew := ⟨_, rfl⟩
      have b5 : Below wr.heap.size wr w5 := by rw [hw5]; go_grown
      have X5 := Lib.hid (show Blk w5 wr.heap.size (ptL ⟨pp, x.1, x.2⟩) by rw [hw5]; exact Blk.drew (Blk.made wr #[.int .i64 pp, .int .i32 x.1, .string (strOfNums x.2)] _))
      have z5 : w5.heap.size = wr.heap.size + 1 := by rw [hw5]; simp
      have OW5 := Lib.hid (ownsRow_keep HOW.out (Below.keeps (M := fun _ => False) b5) (fun _ _ => id))
      have B5 := Lib.hid (HB2.out.trans (b5.mono HB2.out.size))
      rw [← hw5]
      clear hw5 b5 HS hHeld HOW
      obtain ⟨out, hout⟩ : ∃ out, out = foldP (okPts (Z.take i) ++ okPn l t n) := ⟨_, rfl⟩
      have HOUT := Lib.hid hout
      rw [← hout] at OW5
      clear hout
      obtain ⟨No, hNo⟩ : ∃ No, No = out.length := ⟨_, rfl⟩
      have HNO := Lib.hid hNo
      rw [← hNo] at OW5
      clear hNo
      have hon : on2 = No := by
       rcases OW5.out.2 with ⟨e, h0⟩ | ⟨g, cap, cur, e, _⟩
       ·cases e; exact h0.symm
       ·cases e; rfl
      subst hon
      obtain ⟨pb, hpb⟩ : ∃ pb, pb = wr.heap.size := ⟨_, rfl⟩
      rw [← hpb] at X5 ⊢
      have HPB := Lib.hid hpb
      clear hpb
      go_wp2_with fail
      go_loopg [13] (on2 + 1) (fun gk av wl => ∃ k : Nat, gk + k = on2 + 1 ∧ k ≤ on2 ∧ av = .int .i64 k ∧ (∀ j y, j < k → out[j]? = some y → y.p < pp) ∧ Below w5.heap.size w5 wl)
      case atStart => exact ⟨0, by omega, by omega, rfl, fun j y h => absurd h (Nat.not_lt_zero _), Below.refl _ _⟩
      case round =>
       obtain ⟨k, hgk, hk, rfl, hlt, hb⟩ := hrel
       have HGK2 := Lib.hid hgk
       have HLT := Lib.hid hlt
       have HB5 := Lib.hid hb
       have zb5 := hb.size
       clear hgk hlt hb
       have hno64 : on2 ≤ 1000 := by
        have h1 := HNO.out
        rw [HOUT.out, foldP_len, List.length_append] at h1
        have h2 := okPn_len l t n
        have h3 := okPts_len (Z.take i) (fun z hz => (HD.out z (List.mem_of_mem_take hz)).2.2)
        rw [List.length_take] at h3
        omega
       have W3 : IntKind.i64.wrap ((k : Int) + 1) = (k : Int) + 1 := IntWalk.i64_in _ ⟨by omega, by omega⟩
       obtain ⟨B, hB⟩ : ∃ B : Bool, B = ((out[k]?).map fun y => decide (y.p < pp)).getD false := ⟨_, rfl⟩
       go_upto_region 14 with fail
       go_cut [76] (fun b wx => b = .bool B ∧ Below w5.heap.size w5 wx)
       case first =>
        have c0 := (HB5.out.cell (p := ⟨pb, 0, none⟩) X5.out.lt).trans (X5.out.cell 0)
        have c0 : wr.cell? ⟨pb, 0, none⟩ = some (.int .i64 pp) := c0
        by_cases hko : k < on2
        ·have hki : (k : Int) < (on2 : Int) := by omega
         obtain ⟨y, hy⟩ : ∃ y, out[k]? = some y := ⟨_, List.getElem?_eq_getElem (by have := HNO.out; omega)⟩
         obtain ⟨go, cgo, e5, hgo, hg1, hg2⟩ : ∃ g cap, (Value.slice oa2 on2 oc2) = .slice (some ⟨g, 0, none⟩) on2 cap ∧ w5.cell? ⟨g, k * 3, none⟩ = some (.int .i64 y.p) ∧ on2 ≤ cap ∧ cap ≤ maxLen := by
          have ho := OW5.out
          rcases ho.2 with ⟨_, h0⟩ | ⟨g, cap, cur, e, _, _, h1, h2, _⟩
          ·omega
          ·refine ⟨g, cap, e, ?_, h1, h2⟩
           rw [e] at ho
           rw [World.ownsRow.cellAt ho (k * 3) (by omega)]
           exact ptL_at out k 0 y hy (by omega)
         cases e5
         have hcg := (HB5.out.cell (p := ⟨go, k * 3, none⟩) (World.block_lt_of_cell? _ _ hgo)).trans hgo
         rw [hy] at hB
         clear hgo hy
         by_cases hyp : y.p < pp
         ·have hB : B = true := by rw [hB]; simpa using hyp
          refine wp_region_held_drew (S := (fun w' => w'.cell? ⟨go, k * 3, none⟩ = some (.int .i64 y.p) ∧ w'.cell? ⟨pb, 0, none⟩ = some (.int .i64 pp))) (by kernel_rfl) ?_ (fun hHeld => ?_)
          ·try dsimp only
           exact ⟨hcg, c0⟩
          refine wpT (v := ?_) 0 rfl ?_ ?_
          rotate_left
          ·intro w0 hSw
           (try dsimp only at hSw)
           go_simp
           try with_reducible rfl
          try simp only [Act.put, tS]
          refine wpT (v := ?_) 1 rfl ?_ ?_
          rotate_left
          ·intro w0 hSw
           (try dsimp only at hSw)
           go_simp
           try with_reducible rfl
          try simp only [Act.put, tS]
          refine wpT (v := ?_) 2 rfl ?_ ?_
          rotate_left
          ·intro w0 hSw
           (try dsimp only at hSw)
           go_simp
           try with_reducible rfl
          try simp only [Act.put, tS]
          refine wpT (v := ?_) 3 rfl ?_ ?_
          rotate_left
          ·intro w0 hSw
           (try dsimp only at hSw)
           go_simp
           try with_reducible rfl
          try simp only [Act.put, tS]
          refine wpT (v := ?_) 4 rfl ?_ ?_
          rotate_left
          ·intro w0 hSw
           (try dsimp only at hSw)
           go_simp
           try with_reducible rfl
          try simp only [Act.put, tS]
          refine wpT (v := ?_) 5 rfl ?_ ?_
          rotate_left
          ·intro w0 hSw
           (try dsimp only at hSw)
           go_simp
           try with_reducible rfl
          try simp only [Act.put, tS]
          refine wpT (v := ?_) 6 rfl ?_ ?_
          rotate_left
          ·intro w0 hSw
           (try dsimp only at hSw)
           go_simp
           try with_reducible rfl
          try simp only [Act.put, tS]
          refine wpT (v := ?_) 7 rfl ?_ ?_
          rotate_left
          ·intro w0 hSw
           (try dsimp only at hSw)
           go_simp
           try with_reducible rfl
          try simp only [Act.put, tS]
          refine wpT (v := ?_) 8 rfl ?_ ?_
          rotate_left
          ·intro w0 hSw
           (try dsimp only at hSw)
           go_simp
           try with_reducible rfl
          try simp only [Act.put, tS]
          refine wpT (v := ?_) 9 rfl ?_ ?_
          rotate_left
          ·intro w0 hSw
           (try dsimp only at hSw)
           go_simp
           try with_reducible rfl
          try simp only [Act.put, tS]
          refine wpT (v := ?_) 10 rfl ?_ ?_
          rotate_left
          ·intro w0 hSw
           (try dsimp only at hSw)
           go_simp
           try with_reducible rfl
          try simp only [Act.put, tS]
          refine wpT (v := ?_) 11 rfl ?_ ?_
          rotate_left
          ·intro w0 hSw
           (try dsimp only at hSw)
           go_simp
           try with_reducible rfl
          try simp only [Act.put, tS]
          refine wpT (v := ?_) 12 rfl ?_ ?_
          rotate_left
          ·intro w0 hSw
           (try dsimp only at hSw)
           go_simp
           try with_reducible rfl
          try simp only [Act.put, tS]
          refine wpT (v := ?_) 13 rfl ?_ ?_
          rotate_left
          ·intro w0 hSw
           (try dsimp only at hSw)
           go_simp
           try with_reducible rfl
          try simp only [Act.put, tS]
          refine wpAnyH_done (by kernel_rfl) ?_ _
          go_wp2_with fail
          go_meet
          exact ⟨by rw [hB], HB5.out.trans (by go_grown)⟩
         ·have hB : B = false := by rw [hB]; simpa using hyp
          refine wp_region_held_drew (S := (fun w' => w'.cell? ⟨go, k * 3, none⟩ = some (.int .i64 y.p) ∧ w'.cell? ⟨pb, 0, none⟩ = some (.int .i64 pp))) (by kernel_rfl) ?_ (fun hHeld => ?_)
          ·try dsimp only
           exact ⟨hcg, c0⟩
          refine wpT (v := ?_) 0 rfl ?_ ?_
          rotate_left
          ·intro w0 hSw
           (try dsimp only at hSw)
           go_simp
           try with_reducible rfl
          try simp only [Act.put, tS]
          refine wpT (v := ?_) 1 rfl ?_ ?_
          rotate_left
          ·intro w0 hSw
           (try dsimp only at hSw)
           go_simp
           try with_reducible rfl
          try simp only [Act.put, tS]
          refine wpT (v := ?_) 2 rfl ?_ ?_
          rotate_left
          ·intro w0 hSw
           (try dsimp only at hSw)
           go_simp
           try with_reducible rfl
          try simp only [Act.put, tS]
          refine wpT (v := ?_) 3 rfl ?_ ?_
          rotate_left
          ·intro w0 hSw
           (try dsimp only at hSw)
           go_simp
           try with_reducible rfl
          try simp only [Act.put, tS]
          refine wpT (v := ?_) 4 rfl ?_ ?_
          rotate_left
          ·intro w0 hSw
           (try dsimp only at hSw)
           go_simp
           try with_reducible rfl
          try simp only [Act.put, tS]
          refine wpT (v := ?_) 5 rfl ?_ ?_
          rotate_left
          ·intro w0 hSw
           (try dsimp only at hSw)
           go_simp
           try with_reducible rfl
          try simp only [Act.put, tS]
          refine wpT (v := ?_) 6 rfl ?_ ?_
          rotate_left
          ·intro w0 hSw
           (try dsimp only at hSw)
           go_simp
           try with_reducible rfl
          try simp only [Act.put, tS]
          refine wpT (v := ?_) 7 rfl ?_ ?_
          rotate_left
          ·intro w0 hSw
           (try dsimp only at hSw)
           go_simp
           try with_reducible rfl
          try simp only [Act.put, tS]
          refine wpT (v := ?_) 8 rfl ?_ ?_
          rotate_left
          ·intro w0 hSw
           (try dsimp only at hSw)
           go_simp
           try with_reducible rfl
          try simp only [Act.put, tS]
          refine wpT (v := ?_) 9 rfl ?_ ?_
          rotate_left
          ·intro w0 hSw
           (try dsimp only at hSw)
           go_simp
           try with_reducible rfl
          try simp only [Act.put, tS]
          refine wpT (v := ?_) 10 rfl ?_ ?_
          rotate_left
          ·intro w0 hSw
           (try dsimp only at hSw)
           go_simp
           try with_reducible rfl
          try simp only [Act.put, tS]
          refine wpT (v := ?_) 11 rfl ?_ ?_
          rotate_left
          ·intro w0 hSw
           (try dsimp only at hSw)
           go_simp
           try with_reducible rfl
          try simp only [Act.put, tS]
          refine wpT (v := ?_) 12 rfl ?_ ?_
          rotate_left
          ·intro w0 hSw
           (try dsimp only at hSw)
           go_simp
           try with_reducible rfl
          try simp only [Act.put, tS]
          refine wpT (v := ?_) 13 rfl ?_ ?_
          rotate_left
          ·intro w0 hSw
           (try dsimp only at hSw)
           go_simp
           try with_reducible rfl
          try simp only [Act.put, tS]
          refine wpAnyH_done (by kernel_rfl) ?_ _
          go_wp2_with fail
          go_meet
          exact ⟨by rw [hB], HB5.out.trans (by go_grown)⟩
        ·have hki : ¬ (k : Int) < (on2 : Int) := by omega
         have hB : B = false := by rw [hB, List.getElem?_eq_none (by have := HNO.out; omega)]; rfl
         refine wp_region_held_drew (S := (fun w' => w'.cell? ⟨pb, 0, none⟩ = some (.int .i64 pp))) (by kernel_rfl) ?_ (fun hHeld => ?_)
         ·try dsimp only
          exact c0
         refine wpT (v := ?_) 0 rfl ?_ ?_
         rotate_left
         ·intro w0 hSw
          (try dsimp only at hSw)
          go_simp
          try with_reducible rfl
         try simp only [Act.put, tS]
         refine wpT (v := ?_) 1 rfl ?_ ?_
         rotate_left
         ·intro w0 hSw
          (try dsimp only at hSw)
          go_simp
          try with_reducible rfl
         try simp only [Act.put, tS]
         refine wpT (v := ?_) 2 rfl ?_ ?_
         rotate_left
         ·intro w0 hSw
          (try dsimp only at hSw)
          go_simp
          try with_reducible rfl
         try simp only [Act.put, tS]
         refine wpT (v := ?_) 3 rfl ?_ ?_
         rotate_left
         ·intro w0 hSw
          (try dsimp only at hSw)
          go_simp
          try with_reducible rfl
         try simp only [Act.put, tS]
         refine wpT (v := ?_) 4 rfl ?_ ?_
         rotate_left
         ·intro w0 hSw
          (try dsimp only at hSw)
          go_simp
          try with_reducible rfl
         try simp only [Act.put, tS]
         refine wpAnyH_take (i := 5) (v := undef) rfl (by kernel_rfl) (by kernel_rfl) (by kernel_rfl) (fun _ _ _ h => h) (Or.inr ⟨by rfl, rfl⟩) (by assumption) ?_
         simp only [Act.put, tS]
         refine wpAnyH_take (i := 6) (v := undef) rfl (by kernel_rfl) (by kernel_rfl) (by kernel_rfl) (fun _ _ _ h => h) (Or.inr ⟨by rfl, rfl⟩) (by assumption) ?_
         simp only [Act.put, tS]
         refine wpAnyH_take (i := 7) (v := undef) rfl (by kernel_rfl) (by kernel_rfl) (by kernel_rfl) (fun _ _ _ h => h) (Or.inr ⟨by rfl, rfl⟩) (by assumption) ?_
         simp only [Act.put, tS]
         refine wpAnyH_take (i := 8) (v := undef) rfl (by kernel_rfl) (by kernel_rfl) (by kernel_rfl) (fun _ _ _ h => h) (Or.inr ⟨by rfl, rfl⟩) (by assumption) ?_
         simp only [Act.put, tS]
         refine wpAnyH_take (i := 9) (v := undef) rfl (by kernel_rfl) (by kernel_rfl) (by kernel_rfl) (fun _ _ _ h => h) (Or.inr ⟨by rfl, rfl⟩) (by assumption) ?_
         simp only [Act.put, tS]
         refine wpAnyH_take (i := 10) (v := undef) rfl (by kernel_rfl) (by kernel_rfl) (by kernel_rfl) (fun _ _ _ h => h) (Or.inr ⟨by rfl, rfl⟩) (by assumption) ?_
         simp only [Act.put, tS]
         refine wpAnyH_take (i := 11) (v := undef) rfl (by kernel_rfl) (by kernel_rfl) (by kernel_rfl) (fun _ _ _ h => h) (Or.inr ⟨by rfl, rfl⟩) (by assumption) ?_
         simp only [Act.put, tS]
         refine wpAnyH_take (i := 12) (v := undef) rfl (by kernel_rfl) (by kernel_rfl) (by kernel_rfl) (fun _ _ _ h => h) (Or.inr ⟨by rfl, rfl⟩) (by assumption) ?_
         simp only [Act.put, tS]
         refine wpT (v := ?_) 13 rfl ?_ ?_
         rotate_left
         ·intro w0 hSw
          (try dsimp only at hSw)
          go_simp
          try with_reducible rfl
         try simp only [Act.put, tS]
         refine wpAnyH_done (by kernel_rfl) ?_ _
         go_wp2_with fail
         go_meet
         exact ⟨by rw [hB], HB5.out.trans (by go_grown)⟩
       case rest =>
        obtain ⟨rfl, b6⟩ := hcut
        have HBB := Lib.hid hB
        have B6 := Lib.hid b6
        clear hB b6
        cases B with
        | true =>
         go_wp2_with fail
         go_roundg (on2 - k)
         case measure => have := HGK2.out; omega
         case rel =>
          have hk2 : k < on2 := by
           rcases Nat.lt_or_ge k on2 with h | h
           ·exact h
           ·have := HBB.out
            rw [List.getElem?_eq_none (by have := HNO.out; omega)] at this
            cases this
          refine ⟨k + 1, by omega, by omega, by go_num, fun j y hj hy => ?_, B6.out⟩
          by_cases hjk : j < k
          ·exact HLT.out j y hjk hy
          ·obtain rfl : j = k := by omega
           have := HBB.out
           rw [hy] at this
           simpa using this.symm
        | false =>
         have hnk : ∀ y, out[k]? = some y → ¬ y.p < pp := fun y hy h => by
          have := HBB.out
          rw [hy] at this
          have this : false = decide (y.p < pp) := this
          rw [decide_eq_true h] at this
          cases this
         have HNK := Lib.hid hnk
         obtain ⟨wl, hwl⟩ : ∃ wl, wl = wc := ⟨_, rfl⟩
         rw [← hwl] at B6 ⊢
         clear hwl hnk
         have X6 := Lib.hid (X5.out.below B6.out X5.out.lt)
         have OW6 := Lib.hid (ownsRow_keep OW5.out (Below.keeps (M := fun _ => False) B6.out) (fun _ _ => id))
         have hkn1 : (k : Int) ≤ (on2 : Int) := by omega
         have hkn2 : ¬ (on2 : Int) < (k : Int) := by omega
         have hkn3 : (0 : Int) ≤ (k : Int) := by omega
         have hkn4 : ¬ (k : Int) < 0 := by omega
         have HSB : Hid (∀ w', Below wl.heap.size wl w' → (fun w' => w'.cell? ⟨pb, 0, none⟩ = some (.int .i64 pp) ∧ w'.cell? ⟨pb, 1, none⟩ = some (.int .i32 x.1) ∧ w'.cell? ⟨pb, 2, none⟩ = some (.string (strOfNums x.2))) w') := Lib.hid (fun w' b => ⟨(b.cell (p := ⟨pb, 0, none⟩) X6.out.lt).trans (X6.out.cell 0), (b.cell (p := ⟨pb, 1, none⟩) X6.out.lt).trans (X6.out.cell 1), (b.cell (p := ⟨pb, 2, none⟩) X6.out.lt).trans (X6.out.cell 2)⟩)
         have BD0 := Lib.hid (bel_drewN 1 (Below.refl wl.heap.size wl))
         have CK : Hid (Value.int .i64 ((kk : Int) + 1) = Value.int .i64 (cnt0 (t.done.take (n + 1)) : Nat)) := Lib.hid (by rw [take_one2 0 (by have := HND.out; omega), List.getD_eq_getElem?_getD, HE9.out]; show _ = Value.int .i64 ((cnt0 (t.done.take n ++ [0]) : Nat) : Int); rw [cnt0_snoc, if_pos rfl, ← HKK.out]; go_num)
         have REST : Hid (∀ v w', w'.ownsRow 0 86 3 v (0 + k + 1 + (on2 - k)) ([] ++ (out.take k).flatMap ptL ++ ptL ⟨pp, x.1, x.2⟩ ++ (out.drop k).flatMap ptL) → (∀ j, v.ownBlock = some j → wl.heap.size ≤ j) → Below wl.heap.size wl w' → w'.ownsRow 0 86 3 v (foldP (okPts (Z.take i) ++ okPn l t (n + 1))).length ((foldP (okPts (Z.take i) ++ okPn l t (n + 1))).flatMap ptL) ∧ (∀ j, v.ownBlock = some j → w.heap.size ≤ j) ∧ Below w3.heap.size w3 w') := Lib.hid (fun v w' h1 h2 h3 => by
          have e1 : foldP (okPts (Z.take i) ++ okPn l t (n + 1)) = out.take k ++ ⟨pp, x.1, x.2⟩ :: out.drop k := by
           rw [okPn_succ, HE9.out, if_pos rfl, ← List.append_assoc, foldP_snoc, ← HOUT.out]
           have e2 : (⟨t.places.getD (cnt0 (t.done.take n)) 0, (l.getD n (0, [])).1, (l.getD n (0, [])).2⟩ : Pt) = ⟨pp, x.1, x.2⟩ := by rw [List.getD_eq_getElem?_getD, HPP.out, List.getD_eq_getElem?_getD, HX.out]; rfl
           rw [e2]
           exact insP_at _ out k (by have := HNO.out; omega) HLT.out HNK.out
          have hs3 := B5.out.size
          have hs4 := B6.out.size
          refine ⟨?_, fun j hj => by have := h2 j hj; omega, B5.out.trans ((B6.out.trans (h3.mono B6.out.size)).mono B5.out.size)⟩
          rw [e1]
          have e3 : (out.take k ++ (⟨pp, x.1, x.2⟩ : Pt) :: out.drop k).length = 0 + k + 1 + (on2 - k) := by rw [List.length_append, List.length_cons, List.length_take, List.length_drop]; have := HNO.out; omega
          rw [e3, List.flatMap_append, List.flatMap_cons]
          simpa using h1)
         rcases OW6.out.2 with ⟨e7, h7⟩ | ⟨go, cgo, cur7, e7, _, _, hg1, hg2, _⟩
         ·cases e7
          obtain rfl : k = 0 := by omega
          have HSRC1 : Hid (∀ w', Below wl.heap.size wl w' → ((Value.slice none 0 0 = .slice none 0 0 ∧ 0 = 0 ∧ (out.take 0).flatMap ptL = []) ∨ ∃ g off cap, Value.slice none 0 0 = .slice (some ⟨g, off, none⟩) 0 cap ∧ ∀ j u, ((out.take 0).flatMap ptL)[j]? = some u → w'.cell? ⟨g, off + j, none⟩ = some u)) := Lib.hid (fun _ _ => .inl ⟨rfl, rfl, by simp⟩)
          have HSRC2 : Hid (∀ w', Below wl.heap.size wl w' → ((Value.slice none 0 0 = .slice none 0 0 ∧ 0 - 0 = 0 ∧ (out.drop 0).flatMap ptL = []) ∨ ∃ g off cap, Value.slice none 0 0 = .slice (some ⟨g, off, none⟩) (0 - 0) cap ∧ ∀ j u, ((out.drop 0).flatMap ptL)[j]? = some u → w'.cell? ⟨g, off + j, none⟩ = some u)) := Lib.hid (fun _ _ => .inl ⟨rfl, rfl, by rw [List.drop_eq_nil_of_le (by have := HNO.out; omega)]; rfl⟩)
          go_upto_region 16 with fail
          refine wp_region_held_drew (S := (fun w' => w'.cell? ⟨pb, 0, none⟩ = some (.int .i64 pp) ∧ w'.cell? ⟨pb, 1, none⟩ = some (.int .i32 x.1) ∧ w'.cell? ⟨pb, 2, none⟩ = some (.string (strOfNums x.2)))) (by kernel_rfl) ?_ (fun hHeld => ?_)
          ·try dsimp only
           exact HSB.out _ BD0.out
          refine wpT (v := ?_) 1 rfl ?_ ?_
          rotate_left
          ·intro w0 hSw
           (try dsimp only at hSw)
           go_simp
           try with_reducible rfl
          try simp only [Act.put, tS]
          refine wpT (v := ?_) 2 rfl ?_ ?_
          rotate_left
          ·intro w0 hSw
           (try dsimp only at hSw)
           go_simp
           try with_reducible rfl
          try simp only [Act.put, tS]
          refine wpT (v := ?_) 3 rfl ?_ ?_
          rotate_left
          ·intro w0 hSw
           (try dsimp only at hSw)
           go_simp
           try with_reducible rfl
          try simp only [Act.put, tS]
          refine wpT (v := ?_) 5 rfl ?_ ?_
          rotate_left
          ·intro w0 hSw
           (try dsimp only at hSw)
           go_simp
           try with_reducible rfl
          try simp only [Act.put, tS]
          refine wpT (v := ?_) 8 rfl ?_ ?_
          rotate_left
          ·intro w0 hSw
           (try dsimp only at hSw)
           go_simp
           try with_reducible rfl
          try simp only [Act.put, tS]
          refine wpT (v := ?_) 9 rfl ?_ ?_
          rotate_left
          ·intro w0 hSw
           (try dsimp only at hSw)
           go_simp
           try with_reducible rfl
          try simp only [Act.put, tS]
          refine wpT (v := ?_) 10 rfl ?_ ?_
          rotate_left
          ·intro w0 hSw
           (try dsimp only at hSw)
           go_simp
           try with_reducible rfl
          try simp only [Act.put, tS]
          refine wpAnyH_ready (rs := [0, 6]) (by kernel_rfl) (by simp) ?_
          refine AllReadyH.cons rfl (fun K hK => ?_) (AllReadyH.cons rfl (fun K hK => ?_) AllReadyH.nil)
          ·go_simp
           have ba100 := BD0.out.trans (((Below.refl wl.drew.heap.size wl.drew).alloc (Nat.le_refl _) (Obj.cells #[] 86)).mono BD0.out.size)
           have BA100 : Hid (Below wl.heap.size wl ((wl.alloc (Obj.cells #[] 86)).drew)) := Lib.hid ba100
           clear ba100
           refine hK.out _ _ ?_ (fun hHeld => ?_)
           ·try dsimp only
            exact HSB.out _ BA100.out
           clear hK K
           try simp only [Act.put, tS]
           have FA100 : Hid (((wl.alloc (Obj.cells #[] 86)).drew).ownsRow 0 86 3 (.slice (some ⟨wl.heap.size, 0, none⟩) 0 0) 0 []) := Lib.hid (own_emptyP wl.drew 86 3)
           have NW100 : Hid (∀ j, (Value.slice (some ⟨wl.heap.size, 0, none⟩) 0 0).ownBlock = some j → wl.heap.size ≤ j ∧ j = wl.heap.size) := Lib.hid (fun j hj => by cases hj; exact ⟨BD0.out.size, rfl⟩)
           obtain ⟨wa100, hwa100⟩ : ∃ wa, wa = ((wl.alloc (Obj.cells #[] 86)).drew) := ⟨_, rfl⟩
           have BS100 : Below wl.drew.heap.size wl.drew wa100 := by rw [hwa100]; exact (Below.refl wl.drew.heap.size wl.drew).alloc (Nat.le_refl _) (Obj.cells #[] 86)
           have ZS100 : Hid (wa100.heap.size = wl.heap.size + 1) := Lib.hid (by rw [hwa100]; simp)
           rw [← hwa100] at BA100 FA100 ⊢
           clear hwa100 BS100
           refine wpAnyH_ready (rs := [4, 6]) (by kernel_rfl) (by simp) ?_
           refine AllReadyH.cons rfl (fun K hK => ?_) (AllReadyH.cons rfl (fun K hK => ?_) AllReadyH.nil)
           ·refine step_appS (by rfl) _ _ 83 86 (by rfl) Tryz.underlying83 hi hz0 hz1 hz2 rfl (by decide) _ 0 [] (by rfl) FA100.out 0 ((out.take 0).flatMap ptL) _ (by rfl) (HSRC1.out _ BA100.out) (by rw [ptL_len, List.length_take]; have := HNO.out; omega) (ptL_ones _) (by omega) (by unfold maxLen; omega) ?_
            intro v101 wa101 o101 g101 e101
            obtain ⟨sa101, sn101, sc101, rfl⟩ := own_isSl o101
            have KA101 := grown_keep g101
            have BA101 := Lib.hid (BA100.out.trans (KA101.below (B := wl.heap.size) BA100.out.size (fun j hj h => by have := (NW100.out j h).1; omega)))
            have NW101 : Hid (∀ j, (Value.slice sa101 sn101 sc101).ownBlock = some j → wl.heap.size ≤ j ∧ True) := Lib.hid (fun j hj => by
             have hsz := BA100.out.size
             rcases e101 with e | e
             ·rw [e] at hj; exact ⟨(NW100.out j hj).1, trivial⟩
             ·rw [e] at hj; cases hj; exact ⟨hsz, trivial⟩)
            have FA101 := Lib.hid o101
            clear KA101 g101 e101 o101
            refine hK.out _ _ ?_ (fun hHeld => ?_)
            ·try dsimp only
             exact HSB.out _ BA101.out
            clear hK K
            try simp only [Act.put, tS]
            refine wpR 6 rfl fun K hK => ?_
            go_simp
            have ba102 := BA101.out.trans (((Below.refl wa101.heap.size wa101).alloc (Nat.le_refl _) (Obj.cells #[.int .i64 pp, .int .i32 x.1, .string (strOfNums x.2)] 86)).mono BA101.out.size)
            have BA102 : Hid (Below wl.heap.size wl (wa101.alloc (Obj.cells #[.int .i64 pp, .int .i32 x.1, .string (strOfNums x.2)] 86))) := Lib.hid ba102
            clear ba102
            refine hK.out _ _ ?_ (fun hHeld => ?_)
            ·try dsimp only
             exact HSB.out _ BA102.out
            clear hK K
            try simp only [Act.put, tS]
            have FA102 := Lib.hid (show Blk (wa101.alloc (Obj.cells #[.int .i64 pp, .int .i32 x.1, .string (strOfNums x.2)] 86)) wa101.heap.size (ptL ⟨pp, x.1, x.2⟩) from Blk.made wa101 #[.int .i64 pp, .int .i32 x.1, .string (strOfNums x.2)] 86)
            obtain ⟨wa102, hwa102⟩ : ∃ wa, wa = (wa101.alloc (Obj.cells #[.int .i64 pp, .int .i32 x.1, .string (strOfNums x.2)] 86)) := ⟨_, rfl⟩
            have BS102 : Below wa101.heap.size wa101 wa102 := by rw [hwa102]; exact (Below.refl wa101.heap.size wa101).alloc (Nat.le_refl _) (Obj.cells #[.int .i64 pp, .int .i32 x.1, .string (strOfNums x.2)] 86)
            have ZS102 : Hid (wa102.heap.size = wa101.heap.size + 1) := Lib.hid (by rw [hwa102]; simp)
            have FR102 := Lib.hid (ownsRow_keep FA101.out (Below.keeps (M := fun _ => False) BS102) (fun _ _ => id))
            rw [← hwa102] at BA102 FA102 ⊢
            clear hwa102 BS102
            refine wpR 7 rfl fun K hK => ?_
            refine step_app1 (by rfl) _ _ 83 86 (by rfl) Tryz.underlying83 hi hz0 hz1 hz2 rfl (by decide) _ (0 + 0) ([] ++ ((out.take 0).flatMap ptL)) (by rfl) FR102.out _ (ptL ⟨pp, x.1, x.2⟩) (by rfl) FA102.out rfl (by intro u hu; exact ptL_ones [⟨pp, x.1, x.2⟩] u (by simpa using hu)) (by omega) (by unfold maxLen; omega) ?_
            intro v103 wa103 o103 g103 e103
            obtain ⟨sa103, sn103, sc103, rfl⟩ := own_isSl o103
            have KA103 := grown_keep g103
            have BA103 := Lib.hid (BA102.out.trans (KA103.below (B := wl.heap.size) BA102.out.size (fun j hj h => by have := (NW101.out j h).1; omega)))
            have NW103 : Hid (∀ j, (Value.slice sa103 sn103 sc103).ownBlock = some j → wl.heap.size ≤ j ∧ True) := Lib.hid (fun j hj => by
             have hsz := BA102.out.size
             rcases e103 with e | e
             ·rw [e] at hj; exact ⟨(NW101.out j hj).1, trivial⟩
             ·rw [e] at hj; cases hj; exact ⟨hsz, trivial⟩)
            have FA103 := Lib.hid o103
            clear KA103 g103 e103 o103
            refine hK.out _ _ ?_ (fun hHeld => ?_)
            ·try dsimp only
             exact HSB.out _ BA103.out
            clear hK K
            try simp only [Act.put, tS]
            refine wpR 11 rfl fun K hK => ?_
            refine step_appS (by rfl) _ _ 83 86 (by rfl) Tryz.underlying83 hi hz0 hz1 hz2 rfl (by decide) _ ((0 + 0) + 1) (([] ++ ((out.take 0).flatMap ptL)) ++ ptL ⟨pp, x.1, x.2⟩) (by rfl) FA103.out (0 - 0) ((out.drop 0).flatMap ptL) _ (by rfl) (HSRC2.out _ BA103.out) (by rw [ptL_len, List.length_drop]; have := HNO.out; omega) (ptL_ones _) (by omega) (by unfold maxLen; omega) ?_
            intro v104 wa104 o104 g104 e104
            obtain ⟨sa104, sn104, sc104, rfl⟩ := own_isSl o104
            have KA104 := grown_keep g104
            have BA104 := Lib.hid (BA103.out.trans (KA104.below (B := wl.heap.size) BA103.out.size (fun j hj h => by have := (NW103.out j h).1; omega)))
            have NW104 : Hid (∀ j, (Value.slice sa104 sn104 sc104).ownBlock = some j → wl.heap.size ≤ j ∧ True) := Lib.hid (fun j hj => by
             have hsz := BA103.out.size
             rcases e104 with e | e
             ·rw [e] at hj; exact ⟨(NW103.out j hj).1, trivial⟩
             ·rw [e] at hj; cases hj; exact ⟨hsz, trivial⟩)
            have FA104 := Lib.hid o104
            clear KA104 g104 e104 o104
            refine hK.out _ _ ?_ (fun hHeld => ?_)
            ·try dsimp only
             exact HSB.out _ BA104.out
            clear hK K
            try simp only [Act.put, tS]
            refine wpT (v := ?_) 12 rfl ?_ ?_
            rotate_left
            ·intro w0 hSw
             (try dsimp only at hSw)
             go_simp
             try with_reducible rfl
            try simp only [Act.put, tS]
            refine wpAnyH_done (by kernel_rfl) ?_ _
            go_wp2_with fail
            all_goals (
             go_roundg (t.done.length - n)
             case measure => have := HGN.out; omega
             case rel =>
              obtain ⟨r1, r2, r3⟩ := REST.out _ _ FA104.out (fun j hj => (NW104.out j hj).1) BA104.out
              exact ⟨n + 1, by omega, by omega, by go_num, CK.out, r1, r2, r3⟩)
           ·go_simp
            have ba105 := BA100.out.trans (((Below.refl wa100.heap.size wa100).alloc (Nat.le_refl _) (Obj.cells #[.int .i64 pp, .int .i32 x.1, .string (strOfNums x.2)] 86)).mono BA100.out.size)
            have BA105 : Hid (Below wl.heap.size wl (wa100.alloc (Obj.cells #[.int .i64 pp, .int .i32 x.1, .string (strOfNums x.2)] 86))) := Lib.hid ba105
            clear ba105
            refine hK.out _ _ ?_ (fun hHeld => ?_)
            ·try dsimp only
             exact HSB.out _ BA105.out
            clear hK K
            try simp only [Act.put, tS]
            have FA105 := Lib.hid (show Blk (wa100.alloc (Obj.cells #[.int .i64 pp, .int .i32 x.1, .string (strOfNums x.2)] 86)) wa100.heap.size (ptL ⟨pp, x.1, x.2⟩) from Blk.made wa100 #[.int .i64 pp, .int .i32 x.1, .string (strOfNums x.2)] 86)
            obtain ⟨wa105, hwa105⟩ : ∃ wa, wa = (wa100.alloc (Obj.cells #[.int .i64 pp, .int .i32 x.1, .string (strOfNums x.2)] 86)) := ⟨_, rfl⟩
            have BS105 : Below wa100.heap.size wa100 wa105 := by rw [hwa105]; exact (Below.refl wa100.heap.size wa100).alloc (Nat.le_refl _) (Obj.cells #[.int .i64 pp, .int .i32 x.1, .string (strOfNums x.2)] 86)
            have ZS105 : Hid (wa105.heap.size = wa100.heap.size + 1) := Lib.hid (by rw [hwa105]; simp)
            have FR105 := Lib.hid (ownsRow_keep FA100.out (Below.keeps (M := fun _ => False) BS105) (fun _ _ => id))
            rw [← hwa105] at BA105 FA105 ⊢
            clear hwa105 BS105
            refine wpR 4 rfl fun K hK => ?_
            refine step_appS (by rfl) _ _ 83 86 (by rfl) Tryz.underlying83 hi hz0 hz1 hz2 rfl (by decide) _ 0 [] (by rfl) FR105.out 0 ((out.take 0).flatMap ptL) _ (by rfl) (HSRC1.out _ BA105.out) (by rw [ptL_len, List.length_take]; have := HNO.out; omega) (ptL_ones _) (by omega) (by unfold maxLen; omega) ?_
            intro v106 wa106 o106 g106 e106
            obtain ⟨sa106, sn106, sc106, rfl⟩ := own_isSl o106
            have KA106 := grown_keep g106
            have BA106 := Lib.hid (BA105.out.trans (KA106.below (B := wl.heap.size) BA105.out.size (fun j hj h => by have := (NW100.out j h).1; omega)))
            have NW106 : Hid (∀ j, (Value.slice sa106 sn106 sc106).ownBlock = some j → wl.heap.size ≤ j ∧ True) := Lib.hid (fun j hj => by
             have hsz := BA105.out.size
             rcases e106 with e | e
             ·rw [e] at hj; exact ⟨(NW100.out j hj).1, trivial⟩
             ·rw [e] at hj; cases hj; exact ⟨hsz, trivial⟩)
            have FA106 := Lib.hid o106
            have FR106 := Lib.hid (FA105.out.keep KA106 (fun h => by have := (NW100.out _ h).2; have hh : wa100.heap.size = wl.heap.size := this; have q100 := ZS100.out; have q105 := ZS105.out; omega))
            clear KA106 g106 e106 o106
            refine hK.out _ _ ?_ (fun hHeld => ?_)
            ·try dsimp only
             exact HSB.out _ BA106.out
            clear hK K
            try simp only [Act.put, tS]
            refine wpR 7 rfl fun K hK => ?_
            refine step_app1 (by rfl) _ _ 83 86 (by rfl) Tryz.underlying83 hi hz0 hz1 hz2 rfl (by decide) _ (0 + 0) ([] ++ ((out.take 0).flatMap ptL)) (by rfl) FA106.out _ (ptL ⟨pp, x.1, x.2⟩) (by rfl) FR106.out rfl (by intro u hu; exact ptL_ones [⟨pp, x.1, x.2⟩] u (by simpa using hu)) (by omega) (by unfold maxLen; omega) ?_
            intro v107 wa107 o107 g107 e107
            obtain ⟨sa107, sn107, sc107, rfl⟩ := own_isSl o107
            have KA107 := grown_keep g107
            have BA107 := Lib.hid (BA106.out.trans (KA107.below (B := wl.heap.size) BA106.out.size (fun j hj h => by have := (NW106.out j h).1; omega)))
            have NW107 : Hid (∀ j, (Value.slice sa107 sn107 sc107).ownBlock = some j → wl.heap.size ≤ j ∧ True) := Lib.hid (fun j hj => by
             have hsz := BA106.out.size
             rcases e107 with e | e
             ·rw [e] at hj; exact ⟨(NW106.out j hj).1, trivial⟩
             ·rw [e] at hj; cases hj; exact ⟨hsz, trivial⟩)
            have FA107 := Lib.hid o107
            clear KA107 g107 e107 o107
            refine hK.out _ _ ?_ (fun hHeld => ?_)
            ·try dsimp only
             exact HSB.out _ BA107.out
            clear hK K
            try simp only [Act.put, tS]
            refine wpR 11 rfl fun K hK => ?_
            refine step_appS (by rfl) _ _ 83 86 (by rfl) Tryz.underlying83 hi hz0 hz1 hz2 rfl (by decide) _ ((0 + 0) + 1) (([] ++ ((out.take 0).flatMap ptL)) ++ ptL ⟨pp, x.1, x.2⟩) (by rfl) FA107.out (0 - 0) ((out.drop 0).flatMap ptL) _ (by rfl) (HSRC2.out _ BA107.out) (by rw [ptL_len, List.length_drop]; have := HNO.out; omega) (ptL_ones _) (by omega) (by unfold maxLen; omega) ?_
            intro v108 wa108 o108 g108 e108
            obtain ⟨sa108, sn108, sc108, rfl⟩ := own_isSl o108
            have KA108 := grown_keep g108
            have BA108 := Lib.hid (BA107.out.trans (KA108.below (B := wl.heap.size) BA107.out.size (fun j hj h => by have := (NW107.out j h).1; omega)))
            have NW108 : Hid (∀ j, (Value.slice sa108 sn108 sc108).ownBlock = some j → wl.heap.size ≤ j ∧ True) := Lib.hid (fun j hj => by
             have hsz := BA107.out.size
             rcases e108 with e | e
             ·rw [e] at hj; exact ⟨(NW107.out j hj).1, trivial⟩
             ·rw [e] at hj; cases hj; exact ⟨hsz, trivial⟩)
            have FA108 := Lib.hid o108
            clear KA108 g108 e108 o108
            refine hK.out _ _ ?_ (fun hHeld => ?_)
            ·try dsimp only
             exact HSB.out _ BA108.out
            clear hK K
            try simp only [Act.put, tS]
            refine wpT (v := ?_) 12 rfl ?_ ?_
            rotate_left
            ·intro w0 hSw
             (try dsimp only at hSw)
             go_simp
             try with_reducible rfl
            try simp only [Act.put, tS]
            refine wpAnyH_done (by kernel_rfl) ?_ _
            go_wp2_with fail
            all_goals (
             go_roundg (t.done.length - n)
             case measure => have := HGN.out; omega
             case rel =>
              obtain ⟨r1, r2, r3⟩ := REST.out _ _ FA108.out (fun j hj => (NW108.out j hj).1) BA108.out
              exact ⟨n + 1, by omega, by omega, by go_num, CK.out, r1, r2, r3⟩)
          ·go_simp
           have ba109 := BD0.out.trans (((Below.refl wl.drew.heap.size wl.drew).alloc (Nat.le_refl _) (Obj.cells #[.int .i64 pp, .int .i32 x.1, .string (strOfNums x.2)] 86)).mono BD0.out.size)
           have BA109 : Hid (Below wl.heap.size wl ((wl.alloc (Obj.cells #[.int .i64 pp, .int .i32 x.1, .string (strOfNums x.2)] 86)).drew)) := Lib.hid ba109
           clear ba109
           refine hK.out _ _ ?_ (fun hHeld => ?_)
           ·try dsimp only
            exact HSB.out _ BA109.out
           clear hK K
           try simp only [Act.put, tS]
           have FA109 := Lib.hid (show Blk ((wl.alloc (Obj.cells #[.int .i64 pp, .int .i32 x.1, .string (strOfNums x.2)] 86)).drew) wl.heap.size (ptL ⟨pp, x.1, x.2⟩) from Blk.made wl.drew #[.int .i64 pp, .int .i32 x.1, .string (strOfNums x.2)] 86)
           obtain ⟨wa109, hwa109⟩ : ∃ wa, wa = ((wl.alloc (Obj.cells #[.int .i64 pp, .int .i32 x.1, .string (strOfNums x.2)] 86)).drew) := ⟨_, rfl⟩
           have BS109 : Below wl.drew.heap.size wl.drew wa109 := by rw [hwa109]; exact (Below.refl wl.drew.heap.size wl.drew).alloc (Nat.le_refl _) (Obj.cells #[.int .i64 pp, .int .i32 x.1, .string (strOfNums x.2)] 86)
           have ZS109 : Hid (wa109.heap.size = wl.heap.size + 1) := Lib.hid (by rw [hwa109]; simp)
           rw [← hwa109] at BA109 FA109 ⊢
           clear hwa109 BS109
           refine wpR 0 rfl fun K hK => ?_
           go_simp
           have ba110 := BA109.out.trans (((Below.refl wa109.heap.size wa109).alloc (Nat.le_refl _) (Obj.cells #[] 86)).mono BA109.out.size)
           have BA110 : Hid (Below wl.heap.size wl (wa109.alloc (Obj.cells #[] 86))) := Lib.hid ba110
           clear ba110
           refine hK.out _ _ ?_ (fun hHeld => ?_)
           ·try dsimp only
            exact HSB.out _ BA110.out
           clear hK K
           try simp only [Act.put, tS]
           have FA110 : Hid ((wa109.alloc (Obj.cells #[] 86)).ownsRow 0 86 3 (.slice (some ⟨wa109.heap.size, 0, none⟩) 0 0) 0 []) := Lib.hid (own_emptyP wa109 86 3)
           have NW110 : Hid (∀ j, (Value.slice (some ⟨wa109.heap.size, 0, none⟩) 0 0).ownBlock = some j → wl.heap.size ≤ j ∧ j = wa109.heap.size) := Lib.hid (fun j hj => by cases hj; exact ⟨BA109.out.size, rfl⟩)
           obtain ⟨wa110, hwa110⟩ : ∃ wa, wa = (wa109.alloc (Obj.cells #[] 86)) := ⟨_, rfl⟩
           have BS110 : Below wa109.heap.size wa109 wa110 := by rw [hwa110]; exact (Below.refl wa109.heap.size wa109).alloc (Nat.le_refl _) (Obj.cells #[] 86)
           have ZS110 : Hid (wa110.heap.size = wa109.heap.size + 1) := Lib.hid (by rw [hwa110]; simp)
           have FR110 := Lib.hid (FA109.out.below BS110 FA109.out.lt)
           rw [← hwa110] at BA110 FA110 ⊢
           clear hwa110 BS110
           refine wpR 4 rfl fun K hK => ?_
           refine step_appS (by rfl) _ _ 83 86 (by rfl) Tryz.underlying83 hi hz0 hz1 hz2 rfl (by decide) _ 0 [] (by rfl) FA110.out 0 ((out.take 0).flatMap ptL) _ (by rfl) (HSRC1.out _ BA110.out) (by rw [ptL_len, List.length_take]; have := HNO.out; omega) (ptL_ones _) (by omega) (by unfold maxLen; omega) ?_
           intro v111 wa111 o111 g111 e111
           obtain ⟨sa111, sn111, sc111, rfl⟩ := own_isSl o111
           have KA111 := grown_keep g111
           have BA111 := Lib.hid (BA110.out.trans (KA111.below (B := wl.heap.size) BA110.out.size (fun j hj h => by have := (NW110.out j h).1; omega)))
           have NW111 : Hid (∀ j, (Value.slice sa111 sn111 sc111).ownBlock = some j → wl.heap.size ≤ j ∧ True) := Lib.hid (fun j hj => by
            have hsz := BA110.out.size
            rcases e111 with e | e
            ·rw [e] at hj; exact ⟨(NW110.out j hj).1, trivial⟩
            ·rw [e] at hj; cases hj; exact ⟨hsz, trivial⟩)
           have FA111 := Lib.hid o111
           have FR111 := Lib.hid (FR110.out.keep KA111 (fun h => by have := (NW110.out _ h).2; have hh : wl.heap.size = wa109.heap.size := this; have q109 := ZS109.out; have q110 := ZS110.out; omega))
           clear KA111 g111 e111 o111
           refine hK.out _ _ ?_ (fun hHeld => ?_)
           ·try dsimp only
            exact HSB.out _ BA111.out
           clear hK K
           try simp only [Act.put, tS]
           refine wpR 7 rfl fun K hK => ?_
           refine step_app1 (by rfl) _ _ 83 86 (by rfl) Tryz.underlying83 hi hz0 hz1 hz2 rfl (by decide) _ (0 + 0) ([] ++ ((out.take 0).flatMap ptL)) (by rfl) FA111.out _ (ptL ⟨pp, x.1, x.2⟩) (by rfl) FR111.out rfl (by intro u hu; exact ptL_ones [⟨pp, x.1, x.2⟩] u (by simpa using hu)) (by omega) (by unfold maxLen; omega) ?_
           intro v112 wa112 o112 g112 e112
           obtain ⟨sa112, sn112, sc112, rfl⟩ := own_isSl o112
           have KA112 := grown_keep g112
           have BA112 := Lib.hid (BA111.out.trans (KA112.below (B := wl.heap.size) BA111.out.size (fun j hj h => by have := (NW111.out j h).1; omega)))
           have NW112 : Hid (∀ j, (Value.slice sa112 sn112 sc112).ownBlock = some j → wl.heap.size ≤ j ∧ True) := Lib.hid (fun j hj => by
            have hsz := BA111.out.size
            rcases e112 with e | e
            ·rw [e] at hj; exact ⟨(NW111.out j hj).1, trivial⟩
            ·rw [e] at hj; cases hj; exact ⟨hsz, trivial⟩)
           have FA112 := Lib.hid o112
           clear KA112 g112 e112 o112
           refine hK.out _ _ ?_ (fun hHeld => ?_)
           ·try dsimp only
            exact HSB.out _ BA112.out
           clear hK K
           try simp only [Act.put, tS]
           refine wpR 11 rfl fun K hK => ?_
           refine step_appS (by rfl) _ _ 83 86 (by rfl) Tryz.underlying83 hi hz0 hz1 hz2 rfl (by decide) _ ((0 + 0) + 1) (([] ++ ((out.take 0).flatMap ptL)) ++ ptL ⟨pp, x.1, x.2⟩) (by rfl) FA112.out (0 - 0) ((out.drop 0).flatMap ptL) _ (by rfl) (HSRC2.out _ BA112.out) (by rw [ptL_len, List.length_drop]; have := HNO.out; omega) (ptL_ones _) (by omega) (by unfold maxLen; omega) ?_
           intro v113 wa113 o113 g113 e113
           obtain ⟨sa113, sn113, sc113, rfl⟩ := own_isSl o113
           have KA113 := grown_keep g113
           have BA113 := Lib.hid (BA112.out.trans (KA113.below (B := wl.heap.size) BA112.out.size (fun j hj h => by have := (NW112.out j h).1; omega)))
           have NW113 : Hid (∀ j, (Value.slice sa113 sn113 sc113).ownBlock = some j → wl.heap.size ≤ j ∧ True) := Lib.hid (fun j hj => by
            have hsz := BA112.out.size
            rcases e113 with e | e
            ·rw [e] at hj; exact ⟨(NW112.out j hj).1, trivial⟩
            ·rw [e] at hj; cases hj; exact ⟨hsz, trivial⟩)
           have FA113 := Lib.hid o113
           clear KA113 g113 e113 o113
           refine hK.out _ _ ?_ (fun hHeld => ?_)
           ·try dsimp only
            exact HSB.out _ BA113.out
           clear hK K
           try simp only [Act.put, tS]
           refine wpT (v := ?_) 12 rfl ?_ ?_
           rotate_left
           ·intro w0 hSw
            (try dsimp only at hSw)
            go_simp
            try with_reducible rfl
           try simp only [Act.put, tS]
           refine wpAnyH_done (by kernel_rfl) ?_ _
           go_wp2_with fail
           all_goals (
            go_roundg (t.done.length - n)
            case measure => have := HGN.out; omega
            case rel =>
             obtain ⟨r1, r2, r3⟩ := REST.out _ _ FA113.out (fun j hj => (NW113.out j hj).1) BA113.out
             exact ⟨n + 1, by omega, by omega, by go_num, CK.out, r1, r2, r3⟩)
         ·cases e7
          have hkc1 : (k : Int) ≤ (oc2 : Int) := by omega
          have hkc2 : ¬ (oc2 : Int) < (k : Int) := by omega
          go_upto_region 16 with fail
          refine wp_region_held_drew (S := (fun w' => w'.cell? ⟨pb, 0, none⟩ = some (.int .i64 pp) ∧ w'.cell? ⟨pb, 1, none⟩ = some (.int .i32 x.1) ∧ w'.cell? ⟨pb, 2, none⟩ = some (.string (strOfNums x.2)))) (by kernel_rfl) ?_ (fun hHeld => ?_)
          ·try dsimp only
           exact HSB.out _ BD0.out
          refine wpT (v := ?_) 1 rfl ?_ ?_
          rotate_left
          ·intro w0 hSw
           (try dsimp only at hSw)
           go_simp
           try with_reducible rfl
          try simp only [Act.put, tS]
          refine wpT (v := ?_) 2 rfl ?_ ?_
          rotate_left
          ·intro w0 hSw
           (try dsimp only at hSw)
           go_simp
           try with_reducible rfl
          try simp only [Act.put, tS]
          refine wpT (v := ?_) 3 rfl ?_ ?_
          rotate_left
          ·intro w0 hSw
           (try dsimp only at hSw)
           go_simp
           try with_reducible rfl
          try simp only [Act.put, tS]
          refine wpT (v := ?_) 5 rfl ?_ ?_
          rotate_left
          ·intro w0 hSw
           (try dsimp only at hSw)
           go_simp
           try with_reducible rfl
          try simp only [Act.put, tS]
          refine wpT (v := ?_) 8 rfl ?_ ?_
          rotate_left
          ·intro w0 hSw
           (try dsimp only at hSw)
           go_simp
           try with_reducible rfl
          try simp only [Act.put, tS]
          refine wpT (v := ?_) 9 rfl ?_ ?_
          rotate_left
          ·intro w0 hSw
           (try dsimp only at hSw)
           go_simp
           try with_reducible rfl
          try simp only [Act.put, tS]
          refine wpT (v := ?_) 10 rfl ?_ ?_
          rotate_left
          ·intro w0 hSw
           (try dsimp only at hSw)
           go_simp
           try with_reducible rfl
          try simp only [Act.put, tS]
          have HSRC1 : Hid (∀ w', Below wl.heap.size wl w' → ((Value.slice (some ⟨go, 0, none⟩) k oc2 = .slice none 0 0 ∧ k = 0 ∧ (out.take k).flatMap ptL = []) ∨ ∃ g off cap, Value.slice (some ⟨go, 0, none⟩) k oc2 = .slice (some ⟨g, off, none⟩) k cap ∧ ∀ j u, ((out.take k).flatMap ptL)[j]? = some u → w'.cell? ⟨g, off + j, none⟩ = some u)) := Lib.hid (fun w' b => .inr ⟨go, 0, oc2, rfl, fun j u hu => by
           rw [ptL_take] at hu
           have hu2 := hu
           have hj := (List.getElem?_eq_some_iff.1 hu).1
           rw [List.length_take] at hj
           rw [List.getElem?_take_of_lt (by omega)] at hu2
           rw [Nat.zero_add]
           exact (b.cell (p := ⟨go, j, none⟩) (World.ownsRow.lt OW6.out go rfl).2).trans ((World.ownsRow.cellAt OW6.out j (by rw [ptL_len] at hj; have := HNO.out; omega)).trans hu2)⟩)
          have HSRC2 : Hid (∀ w', Below wl.heap.size wl w' → ((Value.slice (if oc2 = k then some ⟨go, 0, none⟩ else some ⟨go, k * 3, none⟩) (on2 - k) (oc2 - k) = .slice none 0 0 ∧ on2 - k = 0 ∧ (out.drop k).flatMap ptL = []) ∨ ∃ g off cap, Value.slice (if oc2 = k then some ⟨go, 0, none⟩ else some ⟨go, k * 3, none⟩) (on2 - k) (oc2 - k) = .slice (some ⟨g, off, none⟩) (on2 - k) cap ∧ ∀ j u, ((out.drop k).flatMap ptL)[j]? = some u → w'.cell? ⟨g, off + j, none⟩ = some u)) := Lib.hid (fun w' b => by
           by_cases hck : oc2 = k
           ·rw [if_pos hck]
            refine .inr ⟨go, 0, oc2 - k, rfl, fun j u hu => ?_⟩
            rw [List.drop_eq_nil_of_le (by have := HNO.out; omega)] at hu
            cases hu
           ·rw [if_neg hck]
            refine .inr ⟨go, k * 3, oc2 - k, rfl, fun j u hu => ?_⟩
            rw [ptL_drop, List.getElem?_drop] at hu
            have hj := (List.getElem?_eq_some_iff.1 hu).1
            rw [ptL_len] at hj
            exact (b.cell (p := ⟨go, k * 3 + j, none⟩) (World.ownsRow.lt OW6.out go rfl).2).trans ((World.ownsRow.cellAt OW6.out (k * 3 + j) (by have := HNO.out; omega)).trans hu))
          refine wpAnyH_ready (rs := [0, 6]) (by kernel_rfl) (by simp) ?_
          refine AllReadyH.cons rfl (fun K hK => ?_) (AllReadyH.cons rfl (fun K hK => ?_) AllReadyH.nil)
          ·go_simp
           have ba0 := BD0.out.trans (((Below.refl wl.drew.heap.size wl.drew).alloc (Nat.le_refl _) (Obj.cells #[] 86)).mono BD0.out.size)
           have BA0 : Hid (Below wl.heap.size wl ((wl.alloc (Obj.cells #[] 86)).drew)) := Lib.hid ba0
           clear ba0
           refine hK.out _ _ ?_ (fun hHeld => ?_)
           ·try dsimp only
            exact HSB.out _ BA0.out
           clear hK K
           try simp only [Act.put, tS]
           have FA0 : Hid (((wl.alloc (Obj.cells #[] 86)).drew).ownsRow 0 86 3 (.slice (some ⟨wl.heap.size, 0, none⟩) 0 0) 0 []) := Lib.hid (own_emptyP wl.drew 86 3)
           have NW0 : Hid (∀ j, (Value.slice (some ⟨wl.heap.size, 0, none⟩) 0 0).ownBlock = some j → wl.heap.size ≤ j ∧ j = wl.heap.size) := Lib.hid (fun j hj => by cases hj; exact ⟨BD0.out.size, rfl⟩)
           obtain ⟨wa0, hwa0⟩ : ∃ wa, wa = ((wl.alloc (Obj.cells #[] 86)).drew) := ⟨_, rfl⟩
           have BS0 : Below wl.drew.heap.size wl.drew wa0 := by rw [hwa0]; exact (Below.refl wl.drew.heap.size wl.drew).alloc (Nat.le_refl _) (Obj.cells #[] 86)
           have ZS0 : Hid (wa0.heap.size = wl.heap.size + 1) := Lib.hid (by rw [hwa0]; simp)
           rw [← hwa0] at BA0 FA0 ⊢
           clear hwa0 BS0
           refine wpAnyH_ready (rs := [4, 6]) (by kernel_rfl) (by simp) ?_
           refine AllReadyH.cons rfl (fun K hK => ?_) (AllReadyH.cons rfl (fun K hK => ?_) AllReadyH.nil)
           ·refine step_appS (by rfl) _ _ 83 86 (by rfl) Tryz.underlying83 hi hz0 hz1 hz2 rfl (by decide) _ 0 [] (by rfl) FA0.out k ((out.take k).flatMap ptL) _ (by rfl) (HSRC1.out _ BA0.out) (by rw [ptL_len, List.length_take]; have := HNO.out; omega) (ptL_ones _) (by omega) (by unfold maxLen; omega) ?_
            intro v1 wa1 o1 g1 e1
            obtain ⟨sa1, sn1, sc1, rfl⟩ := own_isSl o1
            have KA1 := grown_keep g1
            have BA1 := Lib.hid (BA0.out.trans (KA1.below (B := wl.heap.size) BA0.out.size (fun j hj h => by have := (NW0.out j h).1; omega)))
            have NW1 : Hid (∀ j, (Value.slice sa1 sn1 sc1).ownBlock = some j → wl.heap.size ≤ j ∧ True) := Lib.hid (fun j hj => by
             have hsz := BA0.out.size
             rcases e1 with e | e
             ·rw [e] at hj; exact ⟨(NW0.out j hj).1, trivial⟩
             ·rw [e] at hj; cases hj; exact ⟨hsz, trivial⟩)
            have FA1 := Lib.hid o1
            clear KA1 g1 e1 o1
            refine hK.out _ _ ?_ (fun hHeld => ?_)
            ·try dsimp only
             exact HSB.out _ BA1.out
            clear hK K
            try simp only [Act.put, tS]
            refine wpR 6 rfl fun K hK => ?_
            go_simp
            have ba2 := BA1.out.trans (((Below.refl wa1.heap.size wa1).alloc (Nat.le_refl _) (Obj.cells #[.int .i64 pp, .int .i32 x.1, .string (strOfNums x.2)] 86)).mono BA1.out.size)
            have BA2 : Hid (Below wl.heap.size wl (wa1.alloc (Obj.cells #[.int .i64 pp, .int .i32 x.1, .string (strOfNums x.2)] 86))) := Lib.hid ba2
            clear ba2
            refine hK.out _ _ ?_ (fun hHeld => ?_)
            ·try dsimp only
             exact HSB.out _ BA2.out
            clear hK K
            try simp only [Act.put, tS]
            have FA2 := Lib.hid (show Blk (wa1.alloc (Obj.cells #[.int .i64 pp, .int .i32 x.1, .string (strOfNums x.2)] 86)) wa1.heap.size (ptL ⟨pp, x.1, x.2⟩) from Blk.made wa1 #[.int .i64 pp, .int .i32 x.1, .string (strOfNums x.2)] 86)
            obtain ⟨wa2, hwa2⟩ : ∃ wa, wa = (wa1.alloc (Obj.cells #[.int .i64 pp, .int .i32 x.1, .string (strOfNums x.2)] 86)) := ⟨_, rfl⟩
            have BS2 : Below wa1.heap.size wa1 wa2 := by rw [hwa2]; exact (Below.refl wa1.heap.size wa1).alloc (Nat.le_refl _) (Obj.cells #[.int .i64 pp, .int .i32 x.1, .string (strOfNums x.2)] 86)
            have ZS2 : Hid (wa2.heap.size = wa1.heap.size + 1) := Lib.hid (by rw [hwa2]; simp)
            have FR2 := Lib.hid (ownsRow_keep FA1.out (Below.keeps (M := fun _ => False) BS2) (fun _ _ => id))
            rw [← hwa2] at BA2 FA2 ⊢
            clear hwa2 BS2
            refine wpR 7 rfl fun K hK => ?_
            refine step_app1 (by rfl) _ _ 83 86 (by rfl) Tryz.underlying83 hi hz0 hz1 hz2 rfl (by decide) _ (0 + k) ([] ++ ((out.take k).flatMap ptL)) (by rfl) FR2.out _ (ptL ⟨pp, x.1, x.2⟩) (by rfl) FA2.out rfl (by intro u hu; exact ptL_ones [⟨pp, x.1, x.2⟩] u (by simpa using hu)) (by omega) (by unfold maxLen; omega) ?_
            intro v3 wa3 o3 g3 e3
            obtain ⟨sa3, sn3, sc3, rfl⟩ := own_isSl o3
            have KA3 := grown_keep g3
            have BA3 := Lib.hid (BA2.out.trans (KA3.below (B := wl.heap.size) BA2.out.size (fun j hj h => by have := (NW1.out j h).1; omega)))
            have NW3 : Hid (∀ j, (Value.slice sa3 sn3 sc3).ownBlock = some j → wl.heap.size ≤ j ∧ True) := Lib.hid (fun j hj => by
             have hsz := BA2.out.size
             rcases e3 with e | e
             ·rw [e] at hj; exact ⟨(NW1.out j hj).1, trivial⟩
             ·rw [e] at hj; cases hj; exact ⟨hsz, trivial⟩)
            have FA3 := Lib.hid o3
            clear KA3 g3 e3 o3
            refine hK.out _ _ ?_ (fun hHeld => ?_)
            ·try dsimp only
             exact HSB.out _ BA3.out
            clear hK K
            try simp only [Act.put, tS]
            refine wpR 11 rfl fun K hK => ?_
            refine step_appS (by rfl) _ _ 83 86 (by rfl) Tryz.underlying83 hi hz0 hz1 hz2 rfl (by decide) _ ((0 + k) + 1) (([] ++ ((out.take k).flatMap ptL)) ++ ptL ⟨pp, x.1, x.2⟩) (by rfl) FA3.out (on2 - k) ((out.drop k).flatMap ptL) _ (by rfl) (HSRC2.out _ BA3.out) (by rw [ptL_len, List.length_drop]; have := HNO.out; omega) (ptL_ones _) (by omega) (by unfold maxLen; omega) ?_
            intro v4 wa4 o4 g4 e4
            obtain ⟨sa4, sn4, sc4, rfl⟩ := own_isSl o4
            have KA4 := grown_keep g4
            have BA4 := Lib.hid (BA3.out.trans (KA4.below (B := wl.heap.size) BA3.out.size (fun j hj h => by have := (NW3.out j h).1; omega)))
            have NW4 : Hid (∀ j, (Value.slice sa4 sn4 sc4).ownBlock = some j → wl.heap.size ≤ j ∧ True) := Lib.hid (fun j hj => by
             have hsz := BA3.out.size
             rcases e4 with e | e
             ·rw [e] at hj; exact ⟨(NW3.out j hj).1, trivial⟩
             ·rw [e] at hj; cases hj; exact ⟨hsz, trivial⟩)
            have FA4 := Lib.hid o4
            clear KA4 g4 e4 o4
            refine hK.out _ _ ?_ (fun hHeld => ?_)
            ·try dsimp only
             exact HSB.out _ BA4.out
            clear hK K
            try simp only [Act.put, tS]
            refine wpT (v := ?_) 12 rfl ?_ ?_
            rotate_left
            ·intro w0 hSw
             (try dsimp only at hSw)
             go_simp
             try with_reducible rfl
            try simp only [Act.put, tS]
            refine wpAnyH_done (by kernel_rfl) ?_ _
            go_wp2_with fail
            all_goals (
             go_roundg (t.done.length - n)
             case measure => have := HGN.out; omega
             case rel =>
              obtain ⟨r1, r2, r3⟩ := REST.out _ _ FA4.out (fun j hj => (NW4.out j hj).1) BA4.out
              exact ⟨n + 1, by omega, by omega, by go_num, CK.out, r1, r2, r3⟩)
           ·go_simp
            have ba5 := BA0.out.trans (((Below.refl wa0.heap.size wa0).alloc (Nat.le_refl _) (Obj.cells #[.int .i64 pp, .int .i32 x.1, .string (strOfNums x.2)] 86)).mono BA0.out.size)
            have BA5 : Hid (Below wl.heap.size wl (wa0.alloc (Obj.cells #[.int .i64 pp, .int .i32 x.1, .string (strOfNums x.2)] 86))) := Lib.hid ba5
            clear ba5
            refine hK.out _ _ ?_ (fun hHeld => ?_)
            ·try dsimp only
             exact HSB.out _ BA5.out
            clear hK K
            try simp only [Act.put, tS]
            have FA5 := Lib.hid (show Blk (wa0.alloc (Obj.cells #[.int .i64 pp, .int .i32 x.1, .string (strOfNums x.2)] 86)) wa0.heap.size (ptL ⟨pp, x.1, x.2⟩) from Blk.made wa0 #[.int .i64 pp, .int .i32 x.1, .string (strOfNums x.2)] 86)
            obtain ⟨wa5, hwa5⟩ : ∃ wa, wa = (wa0.alloc (Obj.cells #[.int .i64 pp, .int .i32 x.1, .string (strOfNums x.2)] 86)) := ⟨_, rfl⟩
            have BS5 : Below wa0.heap.size wa0 wa5 := by rw [hwa5]; exact (Below.refl wa0.heap.size wa0).alloc (Nat.le_refl _) (Obj.cells #[.int .i64 pp, .int .i32 x.1, .string (strOfNums x.2)] 86)
            have ZS5 : Hid (wa5.heap.size = wa0.heap.size + 1) := Lib.hid (by rw [hwa5]; simp)
            have FR5 := Lib.hid (ownsRow_keep FA0.out (Below.keeps (M := fun _ => False) BS5) (fun _ _ => id))
            rw [← hwa5] at BA5 FA5 ⊢
            clear hwa5 BS5
            refine wpR 4 rfl fun K hK => ?_
            refine step_appS (by rfl) _ _ 83 86 (by rfl) Tryz.underlying83 hi hz0 hz1 hz2 rfl (by decide) _ 0 [] (by rfl) FR5.out k ((out.take k).flatMap ptL) _ (by rfl) (HSRC1.out _ BA5.out) (by rw [ptL_len, List.length_take]; have := HNO.out; omega) (ptL_ones _) (by omega) (by unfold maxLen; omega) ?_
            intro v6 wa6 o6 g6 e6
            obtain ⟨sa6, sn6, sc6, rfl⟩ := own_isSl o6
            have KA6 := grown_keep g6
            have BA6 := Lib.hid (BA5.out.trans (KA6.below (B := wl.heap.size) BA5.out.size (fun j hj h => by have := (NW0.out j h).1; omega)))
            have NW6 : Hid (∀ j, (Value.slice sa6 sn6 sc6).ownBlock = some j → wl.heap.size ≤ j ∧ True) := Lib.hid (fun j hj => by
             have hsz := BA5.out.size
             rcases e6 with e | e
             ·rw [e] at hj; exact ⟨(NW0.out j hj).1, trivial⟩
             ·rw [e] at hj; cases hj; exact ⟨hsz, trivial⟩)
            have FA6 := Lib.hid o6
            have FR6 := Lib.hid (FA5.out.keep KA6 (fun h => by have := (NW0.out _ h).2; have hh : wa0.heap.size = wl.heap.size := this; have q0 := ZS0.out; have q5 := ZS5.out; omega))
            clear KA6 g6 e6 o6
            refine hK.out _ _ ?_ (fun hHeld => ?_)
            ·try dsimp only
             exact HSB.out _ BA6.out
            clear hK K
            try simp only [Act.put, tS]
            refine wpR 7 rfl fun K hK => ?_
            refine step_app1 (by rfl) _ _ 83 86 (by rfl) Tryz.underlying83 hi hz0 hz1 hz2 rfl (by decide) _ (0 + k) ([] ++ ((out.take k).flatMap ptL)) (by rfl) FA6.out _ (ptL ⟨pp, x.1, x.2⟩) (by rfl) FR6.out rfl (by intro u hu; exact ptL_ones [⟨pp, x.1, x.2⟩] u (by simpa using hu)) (by omega) (by unfold maxLen; omega) ?_
            intro v7 wa7 o7 g7 e7
            obtain ⟨sa7, sn7, sc7, rfl⟩ := own_isSl o7
            have KA7 := grown_keep g7
            have BA7 := Lib.hid (BA6.out.trans (KA7.below (B := wl.heap.size) BA6.out.size (fun j hj h => by have := (NW6.out j h).1; omega)))
            have NW7 : Hid (∀ j, (Value.slice sa7 sn7 sc7).ownBlock = some j → wl.heap.size ≤ j ∧ True) := Lib.hid (fun j hj => by
             have hsz := BA6.out.size
             rcases e7 with e | e
             ·rw [e] at hj; exact ⟨(NW6.out j hj).1, trivial⟩
             ·rw [e] at hj; cases hj; exact ⟨hsz, trivial⟩)
            have FA7 := Lib.hid o7
            clear KA7 g7 e7 o7
            refine hK.out _ _ ?_ (fun hHeld => ?_)
            ·try dsimp only
             exact HSB.out _ BA7.out
            clear hK K
            try simp only [Act.put, tS]
            refine wpR 11 rfl fun K hK => ?_
            refine step_appS (by rfl) _ _ 83 86 (by rfl) Tryz.underlying83 hi hz0 hz1 hz2 rfl (by decide) _ ((0 + k) + 1) (([] ++ ((out.take k).flatMap ptL)) ++ ptL ⟨pp, x.1, x.2⟩) (by rfl) FA7.out (on2 - k) ((out.drop k).flatMap ptL) _ (by rfl) (HSRC2.out _ BA7.out) (by rw [ptL_len, List.length_drop]; have := HNO.out; omega) (ptL_ones _) (by omega) (by unfold maxLen; omega) ?_
            intro v8 wa8 o8 g8 e8
            obtain ⟨sa8, sn8, sc8, rfl⟩ := own_isSl o8
            have KA8 := grown_keep g8
            have BA8 := Lib.hid (BA7.out.trans (KA8.below (B := wl.heap.size) BA7.out.size (fun j hj h => by have := (NW7.out j h).1; omega)))
            have NW8 : Hid (∀ j, (Value.slice sa8 sn8 sc8).ownBlock = some j → wl.heap.size ≤ j ∧ True) := Lib.hid (fun j hj => by
             have hsz := BA7.out.size
             rcases e8 with e | e
             ·rw [e] at hj; exact ⟨(NW7.out j hj).1, trivial⟩
             ·rw [e] at hj; cases hj; exact ⟨hsz, trivial⟩)
            have FA8 := Lib.hid o8
            clear KA8 g8 e8 o8
            refine hK.out _ _ ?_ (fun hHeld => ?_)
            ·try dsimp only
             exact HSB.out _ BA8.out
            clear hK K
            try simp only [Act.put, tS]
            refine wpT (v := ?_) 12 rfl ?_ ?_
            rotate_left
            ·intro w0 hSw
             (try dsimp only at hSw)
             go_simp
             try with_reducible rfl
            try simp only [Act.put, tS]
            refine wpAnyH_done (by kernel_rfl) ?_ _
            go_wp2_with fail
            all_goals (
             go_roundg (t.done.length - n)
             case measure => have := HGN.out; omega
             case rel =>
              obtain ⟨r1, r2, r3⟩ := REST.out _ _ FA8.out (fun j hj => (NW8.out j hj).1) BA8.out
              exact ⟨n + 1, by omega, by omega, by go_num, CK.out, r1, r2, r3⟩)
          ·go_simp
           have ba9 := BD0.out.trans (((Below.refl wl.drew.heap.size wl.drew).alloc (Nat.le_refl _) (Obj.cells #[.int .i64 pp, .int .i32 x.1, .string (strOfNums x.2)] 86)).mono BD0.out.size)
           have BA9 : Hid (Below wl.heap.size wl ((wl.alloc (Obj.cells #[.int .i64 pp, .int .i32 x.1, .string (strOfNums x.2)] 86)).drew)) := Lib.hid ba9
           clear ba9
           refine hK.out _ _ ?_ (fun hHeld => ?_)
           ·try dsimp only
            exact HSB.out _ BA9.out
           clear hK K
           try simp only [Act.put, tS]
           have FA9 := Lib.hid (show Blk ((wl.alloc (Obj.cells #[.int .i64 pp, .int .i32 x.1, .string (strOfNums x.2)] 86)).drew) wl.heap.size (ptL ⟨pp, x.1, x.2⟩) from Blk.made wl.drew #[.int .i64 pp, .int .i32 x.1, .string (strOfNums x.2)] 86)
           obtain ⟨wa9, hwa9⟩ : ∃ wa, wa = ((wl.alloc (Obj.cells #[.int .i64 pp, .int .i32 x.1, .string (strOfNums x.2)] 86)).drew) := ⟨_, rfl⟩
           have BS9 : Below wl.drew.heap.size wl.drew wa9 := by rw [hwa9]; exact (Below.refl wl.drew.heap.size wl.drew).alloc (Nat.le_refl _) (Obj.cells #[.int .i64 pp, .int .i32 x.1, .string (strOfNums x.2)] 86)
           have ZS9 : Hid (wa9.heap.size = wl.heap.size + 1) := Lib.hid (by rw [hwa9]; simp)
           rw [← hwa9] at BA9 FA9 ⊢
           clear hwa9 BS9
           refine wpR 0 rfl fun K hK => ?_
           go_simp
           have ba10 := BA9.out.trans (((Below.refl wa9.heap.size wa9).alloc (Nat.le_refl _) (Obj.cells #[] 86)).mono BA9.out.size)
           have BA10 : Hid (Below wl.heap.size wl (wa9.alloc (Obj.cells #[] 86))) := Lib.hid ba10
           clear ba10
           refine hK.out _ _ ?_ (fun hHeld => ?_)
           ·try dsimp only
            exact HSB.out _ BA10.out
           clear hK K
           try simp only [Act.put, tS]
           have FA10 : Hid ((wa9.alloc (Obj.cells #[] 86)).ownsRow 0 86 3 (.slice (some ⟨wa9.heap.size, 0, none⟩) 0 0) 0 []) := Lib.hid (own_emptyP wa9 86 3)
           have NW10 : Hid (∀ j, (Value.slice (some ⟨wa9.heap.size, 0, none⟩) 0 0).ownBlock = some j → wl.heap.size ≤ j ∧ j = wa9.heap.size) := Lib.hid (fun j hj => by cases hj; exact ⟨BA9.out.size, rfl⟩)
           obtain ⟨wa10, hwa10⟩ : ∃ wa, wa = (wa9.alloc (Obj.cells #[] 86)) := ⟨_, rfl⟩
           have BS10 : Below wa9.heap.size wa9 wa10 := by rw [hwa10]; exact (Below.refl wa9.heap.size wa9).alloc (Nat.le_refl _) (Obj.cells #[] 86)
           have ZS10 : Hid (wa10.heap.size = wa9.heap.size + 1) := Lib.hid (by rw [hwa10]; simp)
           have FR10 := Lib.hid (FA9.out.below BS10 FA9.out.lt)
           rw [← hwa10] at BA10 FA10 ⊢
           clear hwa10 BS10
           refine wpR 4 rfl fun K hK => ?_
           refine step_appS (by rfl) _ _ 83 86 (by rfl) Tryz.underlying83 hi hz0 hz1 hz2 rfl (by decide) _ 0 [] (by rfl) FA10.out k ((out.take k).flatMap ptL) _ (by rfl) (HSRC1.out _ BA10.out) (by rw [ptL_len, List.length_take]; have := HNO.out; omega) (ptL_ones _) (by omega) (by unfold maxLen; omega) ?_
           intro v11 wa11 o11 g11 e11
           obtain ⟨sa11, sn11, sc11, rfl⟩ := own_isSl o11
           have KA11 := grown_keep g11
           have BA11 := Lib.hid (BA10.out.trans (KA11.below (B := wl.heap.size) BA10.out.size (fun j hj h => by have := (NW10.out j h).1; omega)))
           have NW11 : Hid (∀ j, (Value.slice sa11 sn11 sc11).ownBlock = some j → wl.heap.size ≤ j ∧ True) := Lib.hid (fun j hj => by
            have hsz := BA10.out.size
            rcases e11 with e | e
            ·rw [e] at hj; exact ⟨(NW10.out j hj).1, trivial⟩
            ·rw [e] at hj; cases hj; exact ⟨hsz, trivial⟩)
           have FA11 := Lib.hid o11
           have FR11 := Lib.hid (FR10.out.keep KA11 (fun h => by have := (NW10.out _ h).2; have hh : wl.heap.size = wa9.heap.size := this; have q9 := ZS9.out; have q10 := ZS10.out; omega))
           clear KA11 g11 e11 o11
           refine hK.out _ _ ?_ (fun hHeld => ?_)
           ·try dsimp only
            exact HSB.out _ BA11.out
           clear hK K
           try simp only [Act.put, tS]
           refine wpR 7 rfl fun K hK => ?_
           refine step_app1 (by rfl) _ _ 83 86 (by rfl) Tryz.underlying83 hi hz0 hz1 hz2 rfl (by decide) _ (0 + k) ([] ++ ((out.take k).flatMap ptL)) (by rfl) FA11.out _ (ptL ⟨pp, x.1, x.2⟩) (by rfl) FR11.out rfl (by intro u hu; exact ptL_ones [⟨pp, x.1, x.2⟩] u (by simpa using hu)) (by omega) (by unfold maxLen; omega) ?_
           intro v12 wa12 o12 g12 e12
           obtain ⟨sa12, sn12, sc12, rfl⟩ := own_isSl o12
           have KA12 := grown_keep g12
           have BA12 := Lib.hid (BA11.out.trans (KA12.below (B := wl.heap.size) BA11.out.size (fun j hj h => by have := (NW11.out j h).1; omega)))
           have NW12 : Hid (∀ j, (Value.slice sa12 sn12 sc12).ownBlock = some j → wl.heap.size ≤ j ∧ True) := Lib.hid (fun j hj => by
            have hsz := BA11.out.size
            rcases e12 with e | e
            ·rw [e] at hj; exact ⟨(NW11.out j hj).1, trivial⟩
            ·rw [e] at hj; cases hj; exact ⟨hsz, trivial⟩)
           have FA12 := Lib.hid o12
           clear KA12 g12 e12 o12
           refine hK.out _ _ ?_ (fun hHeld => ?_)
           ·try dsimp only
            exact HSB.out _ BA12.out
           clear hK K
           try simp only [Act.put, tS]
           refine wpR 11 rfl fun K hK => ?_
           refine step_appS (by rfl) _ _ 83 86 (by rfl) Tryz.underlying83 hi hz0 hz1 hz2 rfl (by decide) _ ((0 + k) + 1) (([] ++ ((out.take k).flatMap ptL)) ++ ptL ⟨pp, x.1, x.2⟩) (by rfl) FA12.out (on2 - k) ((out.drop k).flatMap ptL) _ (by rfl) (HSRC2.out _ BA12.out) (by rw [ptL_len, List.length_drop]; have := HNO.out; omega) (ptL_ones _) (by omega) (by unfold maxLen; omega) ?_
           intro v13 wa13 o13 g13 e13
           obtain ⟨sa13, sn13, sc13, rfl⟩ := own_isSl o13
           have KA13 := grown_keep g13
           have BA13 := Lib.hid (BA12.out.trans (KA13.below (B := wl.heap.size) BA12.out.size (fun j hj h => by have := (NW12.out j h).1; omega)))
           have NW13 : Hid (∀ j, (Value.slice sa13 sn13 sc13).ownBlock = some j → wl.heap.size ≤ j ∧ True) := Lib.hid (fun j hj => by
            have hsz := BA12.out.size
            rcases e13 with e | e
            ·rw [e] at hj; exact ⟨(NW12.out j hj).1, trivial⟩
            ·rw [e] at hj; cases hj; exact ⟨hsz, trivial⟩)
           have FA13 := Lib.hid o13
           clear KA13 g13 e13 o13
           refine hK.out _ _ ?_ (fun hHeld => ?_)
           ·try dsimp only
            exact HSB.out _ BA13.out
           clear hK K
           try simp only [Act.put, tS]
           refine wpT (v := ?_) 12 rfl ?_ ?_
           rotate_left
           ·intro w0 hSw
            (try dsimp only at hSw)
            go_simp
            try with_reducible rfl
           try simp only [Act.put, tS]
           refine wpAnyH_done (by kernel_rfl) ?_ _
           go_wp2_with fail
           all_goals (
            go_roundg (t.done.length - n)
            case measure => have := HGN.out; omega
            case rel =>
             obtain ⟨r1, r2, r3⟩ := REST.out _ _ FA13.out (fun j hj => (NW13.out j hj).1) BA13.out
             exact ⟨n + 1, by omega, by omega, by go_num, CK.out, r1, r2, r3⟩)
     ·have h0' : (e9 == 0) = false := by simpa using h0
      have HH0 := Lib.hid h0
      clear h0
      go_wp2_with fail
      go_roundg (t.done.length - n)
      case measure => have := HGN.out; omega
      case rel =>
       refine ⟨n + 1, by omega, by omega, by go_num, ?_, ?_, HOB2.out, HB2.out⟩
       ·rw [take_one2 0 (by have := HND.out; omega), List.getD_eq_getElem?_getD, HE9.out, cnt0_snoc]
        show _ = Value.int .i64 ((cnt0 (t.done.take n) + (if e9 = 0 then 1 else 0) : Nat) : Int)
        rw [if_neg HH0.out]
        rfl
       ·rw [okPn_succ, HE9.out, if_neg (by simpa using HH0.out), List.append_nil]
        exact HOW.out
    ·obtain rfl : n = nd := by omega
     have hnn3 : ¬ (n : Int) < (n : Int) := by omega
     go_wp2_with fail
     go_roundg (Z.length - i)
     case measure => have := HGK.out; omega
     case rel =>
      refine ⟨i + 1, by omega, by omega, by go_num, ?_, HOB2.out, BW3.out.trans (HB2.out.mono BW3.out.size)⟩
      have e1 : okPts (Z.take (i + 1)) = okPts (Z.take i) ++ okPn l t n := by
       rw [List.take_add_one, HZ.out, HND.out, okPn_all]
       unfold okPts
       rw [List.flatMap_append]
       simp
      rw [e1]
      exact HOW.out
  ·obtain rfl : i = Z.length := by omega
   have hni : ¬ (Z.length : Int) < (Z.length : Int) := by omega
   go_wp2
   go_ret
   refine ⟨_, rfl, ?_, HOB.out, HB.out⟩
   have := HOW.out
   rw [List.take_of_length_le (Nat.le_refl _)] at this
   exact this
end Go.Proofs.YtggjhleomocojaaGreat
