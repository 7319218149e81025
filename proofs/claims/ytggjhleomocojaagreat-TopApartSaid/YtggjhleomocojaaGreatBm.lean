/- Contracts of (*membuf.Buffer).Do: Read; a nil buffer; of Bytes. Conditions: as each says. Contract of (*membuf.Buffer).Do: Write. -/
import Derived.Test.YtggjhleomocojaaGreatBf
import Derived.Test.YtggjhleomocojaaGreatKi
import Derived.Test.YtggjhleomocojaaGreatWb
section
namespace Go.Proofs.YtggjhleomocojaaGreat
set_option maxRecDepth 100000
open Go.RowKit
set_option linter.unusedVariables false
set_option linter.unusedSimpArgs false
variable {w : World} {l : List Int}
theorem OwB.isSliceB {B : Nat} {v : Value} (h : OwB 5 B w v l) : ∃ a n c, v = .slice a n c := by
 rcases h.2 with ⟨rfl, _⟩ | ⟨g, cap, cur, rfl, _⟩
 ·exact ⟨_, _, _, rfl⟩
 ·exact ⟨_, _, _, rfl⟩
theorem OwB.far {B : Nat} {v : Value} (h : OwB 5 B w v l) {a : Addr} (ha : a.block < B) (x : Value) : OwB 5 B (w.setCell a x) v l := ownsRow_setCell_below h ha x
set_option maxHeartbeats 2000000 in
theorem mDo_read (p c : Nat) (cnt : Int) (bs : List Int) (a n : Nat) (v x : Int) (s0 : Option Addr) (sl sc : Nat) (w : World) (h : Buf w p c cnt bs) (hc0 : 0 ≤ cnt) (hc1 : cnt ≤ 4611686018427387904) (he : acE bs.length 5 a n sl = 0) :
  Calls Tryz.prog 122 #[.pointer (some ⟨p, 0, none⟩), .agg #[.int .i64 5, .int .i64 (a : Int), .int .i64 (n : Int), .int .u64 v, .int .u64 x, .slice s0 sl sc]] w fun e w' => ∃ s, e = .returned (.tuple #[anV 0 false s, .int .i64 0]) ∧ OwB 5 w.heap.size w' s ((bs.drop a).take n) ∧ Buf w' p c (cnt + 1) bs ∧ Keep (fun k => k = p ∨ k = c) w w' := by
 have hok := acE_ok he (by omega)
 have HE := Lib.hid he
 clear he
 have hal : n ≤ 8 ∧ a + n ≤ bs.length := by omega
 have H := Lib.hid h
 have hpl := h.hd.lt
 have hcl := h.wd.lt
 have hle := h.le
 have hne := h.ne
 have HL := Lib.hid h.len
 clear h
 go_enter Tryz.func122, Tryz.ntmps122
 go_wp2_with fail
 go_region_held3 (fun w' => w'.cell? ⟨w.heap.size, 0, none⟩ = some (.int .i64 5) ∧ w'.cell? ⟨w.heap.size, 1, none⟩ = some (.int .i64 a) ∧ w'.cell? ⟨w.heap.size, 2, none⟩ = some (.int .i64 n) ∧ w'.cell? ⟨w.heap.size, 3, none⟩ = some (.int .u64 v) ∧ w'.cell? ⟨w.heap.size, 4, none⟩ = some (.int .u64 x) ∧ w'.cell? ⟨w.heap.size, 5, none⟩ = some (.slice s0 sl sc)) (go_keep)
  (first
   | (go_at_call 146; refine (mSize_any p c cnt bs _ ((H.out.alloc _).alloc _).drew).mono ?_; rintro e w' ⟨rfl, rfl⟩)
   | (go_at_call 145; refine (mCheck_any _ _ _ _ _ _ _ _ _ _ (by omega) (by omega)).mono ?_; rintro e w1 ⟨rfl, b1⟩; have hc1 := fun o => b1.cell (p := ⟨w.heap.size, o, none⟩) (by simp <;> omega)))
 clear hc1
 have D1 : Below (w.heap.size + 2) ((w.alloc _).alloc _) w1 := ((Below.refl _ _).drew).trans (b1.mono (by simp))
 obtain ⟨f0, g0, i0⟩ := two_cellsD D1 0
 obtain ⟨f1, g1, i1⟩ := two_cellsD D1 1
 obtain ⟨f2, g2, i2⟩ := two_cellsD D1 2
 have A1 := Lib.hid (show Blk w1 (w.heap.size + 1) [.int .u64 0, .bool false, .slice none 0 0] from Blk.below (Blk.made1 w _ #[.int .u64 0, .bool false, .slice none 0 0] 74) D1 (by simp))
 obtain ⟨f3, _, _⟩ := two_cellsD D1 3
 obtain ⟨f4, _, _⟩ := two_cellsD D1 4
 obtain ⟨f5, _, _⟩ := two_cellsD D1 5
 simp only [List.getElem?_toArray, List.getElem?_cons_zero, List.getElem?_cons_succ] at f0 f1 f2 f3 f4 f5 g0 g1 g2
 have z1 : w.heap.size + 2 ≤ w1.heap.size := by
  have := D1.size
  simpa using this
 have B1 : Below w.heap.size w w1 := Below.trans (by go_grown) (D1.mono (by omega))
 have HB := Lib.hid (H.out.belows B1)
 have k1 : Keep (fun k => k = p ∨ k = c) w w1 := Below.keeps B1
 have y0 : w.heap.size < w1.heap.size := by omega
 have y1 : w.heap.size + 1 < w1.heap.size := by omega
 have np : ¬ p = w.heap.size := by omega
 have np1 : ¬ p = w.heap.size + 1 := by omega
 have nc : ¬ c = w.heap.size := by omega
 have nc1 : ¬ c = w.heap.size + 1 := by omega
 clear b1 D1
 rw [HE.out]
 have pc := HB.out.hd.cell 1
 simp only [List.getElem?_cons_zero, List.getElem?_cons_succ] at pc
 have pf := HB.out.hd.frozen 1
 go_wp2_with fail
 refine (addCnt p cnt _ (by go_simp) (by go_simp) hc0 hc1).mono ?_
 rintro e w2 ⟨rfl, rfl⟩
 have HB2 := Lib.hid (HB.out.count (cnt + 1))
 clear pc pf
 go_wp2_with fail
 refine (mbytes_any p c (cnt + 1) bs a n _ HB2.out hal.1 hal.2).mono ?_
 rintro e w3 ⟨s, rfl, o3, b3⟩
 obtain ⟨x3, n3, c3', rfl⟩ := o3.isSliceB
 have z3 := b3.size
 have z3' : w1.heap.size ≤ w3.heap.size := by simpa [World.setCell] using z3
 have HB3 := Lib.hid (HB2.out.belows b3)
 have O3 := Lib.hid (OwB.mono o3 (show w.heap.size + 2 ≤ _ by simp [World.setCell]; omega))
 clear o3
 have d3 := fun o => b3.cell (p := ⟨w.heap.size + 1, o, none⟩) (by simp [World.setCell]; omega)
 have e3 := fun o => b3.frozen (p := ⟨w.heap.size + 1, o, none⟩) (by simp [World.setCell]; omega)
 have y3 : w.heap.size < w3.heap.size := by omega
 have y3' : w.heap.size + 1 < w3.heap.size := by omega
 have q3_0 : w3.cell? ⟨w.heap.size + 1, 0, none⟩ = some (.int .u64 0) := (d3 0).trans (by go_simp)
 have q3_1 : w3.cell? ⟨w.heap.size + 1, 1, none⟩ = some (.bool false) := (d3 1).trans (by go_simp)
 have q3_2 : w3.cell? ⟨w.heap.size + 1, 2, none⟩ = some (.slice none 0 0) := (d3 2).trans (by go_simp)
 have u3_0 : w3.frozen? ⟨w.heap.size + 1, 0, none⟩ = false := (e3 0).trans (by go_simp)
 have u3_1 : w3.frozen? ⟨w.heap.size + 1, 1, none⟩ = false := (e3 1).trans (by go_simp)
 have u3_2 : w3.frozen? ⟨w.heap.size + 1, 2, none⟩ = false := (e3 2).trans (by go_simp)
 clear d3 e3
 have A3 := Lib.hid ((A1.out.far (fun e => np1 e.symm) _).below b3 (by simp [World.setCell]; omega))
 have k3 : Keep (fun k => k = p ∨ k = c) w w3 := ((k1.setCell (p := ⟨p, 1, none⟩) (.inl (.inl rfl)) _).trans (Below.keeps b3))
 go_wp2
 refine bodyPost_ret (v := .tuple #[anV 0 false (.slice x3 n3 c3'), .int .i64 0]) ?_ rfl ⟨_, rfl, ?_, ?_, ?_⟩
 ·exact res_answer rfl rfl rfl (Blk.cell (((((A3.out.set 2 _).set 0 _).set 1 _).set 2 _)) 0) (Blk.cell (((((A3.out.set 2 _).set 0 _).set 1 _).set 2 _)) 1) (Blk.cell (((((A3.out.set 2 _).set 0 _).set 1 _).set 2 _)) 2)
 ·refine OwB.mono (B := w.heap.size + 2) ?_ (by omega)
  repeat' (refine OwB.far ?_ (show w.heap.size + 1 < w.heap.size + 2 by omega) _)
  exact O3.out
 ·repeat' (refine Buf.far ?_ np1 nc1 _)
  exact HB3.out
 ·repeat' (refine Keep.setCell ?_ (p := ⟨w.heap.size + 1, _, none⟩) (.inr (by simp)) _)
  exact k3
theorem leB_word {bs : List Int} (h : IsB bs) (k i : Nat) (hl : bs.length = 8 * k) (hi : i < k) : leB (gB (wds bs k) i) 8 = (bs.drop (8 * i)).take 8 := by
 rw [wds_at _ _ _ hi]
 have l8 := block8 hl i hi
 have e : ∀ (l : List Int), IsB l → leB (leN l) l.length = l := by
  intro l
  induction l with
  | nil => intro _; rfl
  | cons b r ih =>
   intro h
   have hb := h b (by simp)
   have hr : IsB r := fun x hx => h x (by simp [hx])
   have h2 := (leN_lt r.length r (Nat.le_refl _) hr).1
   simp only [leN, List.length_cons, leB]
   rw [show (b + 256 * leN r) % 256 = b by omega, show (b + 256 * leN r) / 256 = leN r by omega, ih hr]
 have := e _ ((h.drop (8 * i)).take 8)
 rwa [l8] at this
set_option maxHeartbeats 1000000 in
theorem mBytes_any (p c : Nat) (cnt : Int) (bs : List Int) (w : World) (h : Buf w p c cnt bs) :
  Calls Tryz.prog 18 #[.pointer (some ⟨p, 0, none⟩)] w fun e w' => ∃ v, e = .returned v ∧ OwB 5 w.heap.size w' v bs ∧ Below w.heap.size w w' := by
 have hle := h.le
 have H := Lib.hid h
 have hpl := h.hd.lt
 have hcl := h.wd.lt
 have hc0 := h.hd.cell 0
 simp only [List.getElem?_cons_zero] at hc0
 obtain ⟨k, hk⟩ : ∃ k, k = bs.length / 8 := ⟨_, rfl⟩
 have hlen := h.len
 rw [← hk] at hlen hc0
 have hk' : k ≤ 16384 := by omega
 have HK := Lib.hid hk
 have HL := Lib.hid hlen
 clear h hk hlen
 go_enter Tryz.func18, Tryz.ntmps18
 go_wp2_with fail
 go_loopw [3, 4, 12] (fun v j i wr => ∃ m : Nat, m ≤ k ∧ i = .int .i64 m ∧ OwB 5 w.heap.size wr v (bs.take (8 * m)) ∧ Below w.heap.size w wr) (fun _ _ i _ => k - (intOf i).toNat)
 case atStart => exact ⟨0, by omega, rfl, OwB.nil _ _ _, Below.refl _ _⟩
 case round =>
  obtain ⟨m, hm, rfl, hown, hbel⟩ := hrel
  by_cases hlt : m < k
  ·have hzl := hbel.size
   have HO := Lib.hid hown
   have hc0r := hbel.cell (p := ⟨p, 0, none⟩) hpl
   have HBr := Lib.hid (H.out.below hbel hpl hcl)
   have hcw := HBr.out.wd.cell m (by rw [wds_len, ← HK.out]; exact hlt)
   rw [← HK.out] at hcw
   have hbd := wds_bd H.out.is k m hlt
   clear hown
   go_wp2_with fail
   refine (load64_any c m (gB (wds bs k) m) _ hcw).mono ?_
   rintro e w' ⟨rfl, rfl⟩
   go_wp2_with fail
   refine (wBytes_any (gB (wds bs k) m) 8 _ hbd.1 hbd.2 (by decide)).mono ?_
   rintro e w2 ⟨v2, rfl, o2, b2⟩
   rw [leB_word H.out.is k m HL.out hlt] at o2
   have z2 := b2.size
   have B2 := hbel.trans (b2.mono hzl)
   have O2 := HO.out.below b2
   go_wp2_with (refine list_app rfl (.tmp 15) (.tmp 23) rfl w.heap.size _ v2 (bs.take (8 * m)) ((bs.drop (8 * m)).take 8) rfl O2 rfl o2.rd (by simp; omega) (by omega) ?_)
   intro v3 w3 p3
   have O3 := p3.1
   have D3 := p3.below B2 (by omega) O2.own_ge
   go_wp2
   refine ⟨⟨m + 1, by omega, by go_num, ?_, D3⟩, by simp [intOf]; omega⟩
   rw [show 8 * (m + 1) = 8 * m + 8 by omega, List.take_add]
   exact O3
  ·go_wp2
   go_ret
   obtain rfl : m = k := by omega
   rw [List.take_of_length_le (by have := HL.out; omega)] at hown
   exact ⟨_, rfl, hown, hbel⟩
theorem Buf.noByte {p c : Nat} {cnt : Int} {bs : List Int} (h : Buf w p c cnt bs) {b o : Nat} {y : Int} (hc : w.cell? ⟨b, o, none⟩ = some (.int .u8 y)) : ¬ (b = p ∨ b = c) := by
 rintro (rfl | rfl)
 ·rw [h.hd.cell o] at hc
  match o with
  | 0 => simp at hc
  | 1 => simp at hc
  | o + 2 => simp at hc
 ·have e := Blk.cell h.wd o
  rw [e] at hc
  simp only [List.getElem?_map] at hc
  cases hx : (wds bs (bs.length / 8))[o]? with
  | none => rw [hx] at hc; cases hc
  | some z => rw [hx] at hc; cases hc
theorem spl_nil (bs : List Int) (a : Nat) : spl bs a [] = bs := by simp [spl]
theorem leB_byte (b : Int) (h : 0 ≤ b ∧ b < 256) : leB b 1 = [b] := by simp [leB]; omega
theorem gB_get (l : List Int) (i : Nat) (h : i < l.length) : gB l i = l[i] := by simp [gB, List.getD, h]
theorem spl_next (bs l : List Int) (a k : Nat) (hk : k < l.length) (h : a + l.length ≤ bs.length) : spl (spl bs a (l.take k)) (a + k) [gB l k] = spl bs a (l.take (k + 1)) := by
 have l1 : (l.take k).length = k := by simp; omega
 have l2 : (l.take (k + 1)).length = k + 1 := by simp; omega
 have s1 := spl_len bs a (l.take k) (by omega)
 have s2 := spl_len bs a (l.take (k + 1)) (by omega)
 have s3 := spl_len (spl bs a (l.take k)) (a + k) [gB l k] (by simp; omega)
 apply List.ext_getElem (by omega)
 intro i h1 h2
 have g : gB (spl (spl bs a (l.take k)) (a + k) [gB l k]) i = gB (spl bs a (l.take (k + 1))) i := by
  by_cases c1 : i < a
  ·rw [spl_lt _ _ _ (by simp; omega) _ (by omega), spl_lt _ _ _ (by omega) _ c1, spl_lt _ _ _ (by omega) _ c1]
  ·by_cases c2 : i < a + k
   ·rw [spl_lt _ _ _ (by simp; omega) _ c2, spl_in _ _ _ (by omega) _ (by omega) (by omega), spl_in _ _ _ (by omega) _ (by omega) (by omega), gB_take _ _ _ (by omega), gB_take _ _ _ (by omega)]
   ·by_cases c3 : i < a + k + 1
    ·rw [spl_in _ _ _ (by simp; omega) _ (by omega) (by simp; omega), spl_in _ _ _ (by omega) _ (by omega) (by omega), gB_take _ _ _ (by omega), show i - (a + k) = 0 by omega, show i - a = k by omega]
     rfl
    ·rw [spl_ge _ _ _ (by simp; omega) _ (by simp; omega), spl_ge _ _ _ (by omega) _ (by omega), spl_ge _ _ _ (by omega) _ (by omega)]
 have e1 := gB_get _ _ h1
 have e2 := gB_get _ _ h2
 rw [← e1, ← e2]
 exact g
set_option maxHeartbeats 2000000 in
theorem mDo_write (p c : Nat) (cnt : Int) (bs : List Int) (a n : Nat) (v x : Int) (s0 : Option Addr) (sl sc : Nat) (w : World) (h : Buf w p c cnt bs) (hc0 : 0 ≤ cnt) (hc1 : cnt ≤ 4611686018427387904) (he : acE bs.length 6 a n sl = 0) (l : List Int) (hB : RdB w (.slice s0 sl sc) l) (hBb : IsB l) :
  Calls Tryz.prog 122 #[.pointer (some ⟨p, 0, none⟩), .agg #[.int .i64 6, .int .i64 (a : Int), .int .i64 (n : Int), .int .u64 v, .int .u64 x, .slice s0 sl sc]] w fun e w' => e = .returned (.tuple #[anV 0 false (.slice none 0 0), .int .i64 0]) ∧ Buf w' p c (cnt + 1) (spl bs a l) ∧ Keep (fun k => k = p ∨ k = c) w w' := by
 have hok := acE_ok he (by omega)
 have HE := Lib.hid he
 clear he
 have hn : n = l.length ∧ sl = l.length ∧ a + l.length ≤ bs.length ∧ l.length ≤ 8 := by
  have h1 := hok.1
  simp [acSized] at h1
  have h2 : sl = l.length := by
   rcases hB with ⟨e, rfl⟩ | ⟨_, _, e, rfl, _⟩ | ⟨_, _, _, e, _⟩
   ·cases e
    rfl
   ·cases e
    rfl
   ·cases e
    rfl
  omega
 have HS := Lib.hid hB
 obtain ⟨rfl, rfl, hal1, hal2⟩ := hn
 clear hB
 have H := Lib.hid h
 have hpl := h.hd.lt
 have hcl := h.wd.lt
 have hle := h.le
 have hne := h.ne
 have HL := Lib.hid h.len
 clear h
 go_enter Tryz.func122, Tryz.ntmps122
 go_wp2_with fail
 go_region_held3 (fun w' => w'.cell? ⟨w.heap.size, 0, none⟩ = some (.int .i64 6) ∧ w'.cell? ⟨w.heap.size, 1, none⟩ = some (.int .i64 a) ∧ w'.cell? ⟨w.heap.size, 2, none⟩ = some (.int .i64 l.length) ∧ w'.cell? ⟨w.heap.size, 3, none⟩ = some (.int .u64 v) ∧ w'.cell? ⟨w.heap.size, 4, none⟩ = some (.int .u64 x) ∧ w'.cell? ⟨w.heap.size, 5, none⟩ = some (.slice s0 l.length sc)) (go_keep)
  (first
   | (go_at_call 146; refine (mSize_any p c cnt bs _ ((H.out.alloc _).alloc _).drew).mono ?_; rintro e w' ⟨rfl, rfl⟩)
   | (go_at_call 145; refine (mCheck_any _ _ _ _ _ _ _ _ _ _ (by omega) (by omega)).mono ?_; rintro e w1 ⟨rfl, b1⟩; have hc1 := fun o => b1.cell (p := ⟨w.heap.size, o, none⟩) (by simp <;> omega)))
 clear hc1
 have D1 : Below (w.heap.size + 2) ((w.alloc _).alloc _) w1 := ((Below.refl _ _).drew).trans (b1.mono (by simp))
 obtain ⟨f0, g0, i0⟩ := two_cellsD D1 0
 obtain ⟨f1, g1, i1⟩ := two_cellsD D1 1
 obtain ⟨f2, g2, i2⟩ := two_cellsD D1 2
 have A1 := Lib.hid (show Blk w1 (w.heap.size + 1) [.int .u64 0, .bool false, .slice none 0 0] from Blk.below (Blk.made1 w _ #[.int .u64 0, .bool false, .slice none 0 0] 74) D1 (by simp))
 obtain ⟨f3, _, _⟩ := two_cellsD D1 3
 obtain ⟨f4, _, _⟩ := two_cellsD D1 4
 obtain ⟨f5, _, _⟩ := two_cellsD D1 5
 simp only [List.getElem?_toArray, List.getElem?_cons_zero, List.getElem?_cons_succ] at f0 f1 f2 f3 f4 f5 g0 g1 g2
 have z1 : w.heap.size + 2 ≤ w1.heap.size := by
  have := D1.size
  simpa using this
 have B1 : Below w.heap.size w w1 := Below.trans (by go_grown) (D1.mono (by omega))
 have HB := Lib.hid (H.out.belows B1)
 have k1 : Keep (fun k => k = p ∨ k = c) w w1 := Below.keeps B1
 have y0 : w.heap.size < w1.heap.size := by omega
 have y1 : w.heap.size + 1 < w1.heap.size := by omega
 have np : ¬ p = w.heap.size := by omega
 have np1 : ¬ p = w.heap.size + 1 := by omega
 have nc : ¬ c = w.heap.size := by omega
 have nc1 : ¬ c = w.heap.size + 1 := by omega
 clear b1 D1
 rw [HE.out]
 have HRd := Lib.hid (HS.out.below B1)
 have pc := HB.out.hd.cell 1
 simp only [List.getElem?_cons_zero, List.getElem?_cons_succ] at pc
 have pf := HB.out.hd.frozen 1
 go_wp2_with fail
 refine (addCnt p cnt _ (by go_simp) (by go_simp) hc0 hc1).mono ?_
 rintro e w2 ⟨rfl, rfl⟩
 have HB2 := Lib.hid (HB.out.count (cnt + 1))
 clear pc pf
 have k2 : Keep (fun k => k = p ∨ k = c) w (w1.setCell ⟨p, 1, none⟩ (.int .i64 (cnt + 1))) := k1.setCell (p := ⟨p, 1, none⟩) (.inl (.inl rfl)) _
 have A2 := Lib.hid (A1.out.far (a := ⟨p, 1, none⟩) (fun e => np1 e.symm) (.int .i64 (cnt + 1)))
 rcases Classical.em (l.length = 0) with hl0 | hl0
 ·have hl : l = [] := List.length_eq_zero_iff.1 hl0
  subst hl
  go_wp2_with fail
  refine wp_loop_rounds 1 ?_
  rw [rounds_succ]
  go_wp2
  refine bodyPost_ret (v := .tuple #[anV 0 false (.slice none 0 0), .int .i64 0]) ?_ rfl ⟨rfl, ?_, ?_⟩
  ·exact res_answer rfl rfl rfl (Blk.cell ((((A2.out.set 0 _).set 1 _).set 2 _)) 0) (Blk.cell ((((A2.out.set 0 _).set 1 _).set 2 _)) 1) (Blk.cell ((((A2.out.set 0 _).set 1 _).set 2 _)) 2)
  ·repeat' (refine Buf.far ?_ np1 nc1 _)
   rw [spl_nil]
   exact HB2.out
  ·repeat' (refine Keep.setCell ?_ (p := ⟨w.heap.size + 1, _, none⟩) (.inr (by simp)) _)
   exact k2
 have hrow : ∃ b off, s0 = some ⟨b, off, none⟩ ∧ l.length ≤ sc ∧ ∀ i, i < l.length → w.cell? ⟨b, off + i, none⟩ = some (.int .u8 (gB l i)) := by
  rcases HS.out with ⟨e, rfl⟩ | ⟨_, _, e, rfl, _⟩ | ⟨b, off, cap, e, h2, h3, h4⟩
  ·simp at hl0
  ·simp at hl0
  ·cases e
   exact ⟨b, off, rfl, h2, h4⟩
 obtain ⟨b, off, rfl, hcap, hcell⟩ := hrow
 have HC := Lib.hid hcell
 clear hcell HRd
 go_wp2_with fail
 go_loopw [7, 8, 42] (fun i0 c0 i wr => ∃ k : Nat, k ≤ l.length ∧ i = .int .i64 k ∧ Buf wr p c (cnt + 1) (spl bs a (l.take k)) ∧ Blk wr (w.heap.size + 1) [.int .u64 0, .bool false, .slice none 0 0] ∧ Keep (fun k => k = p ∨ k = c) w wr ∧ w.heap.size + 2 ≤ wr.heap.size ∧ wr.cell? ⟨w.heap.size, 1, none⟩ = some (.int .i64 a)) (fun _ _ i _ => l.length - (intOf i).toNat)
 case atStart => exact ⟨0, by omega, rfl, by simpa [spl_nil] using HB2.out, A2.out, k2, by simpa [World.setCell] using z1, by go_simp⟩
 case round =>
  obtain ⟨k, hk, rfl, hbuf, hans, hkp, hzr, hf1⟩ := hrel
  by_cases hlt : k < l.length
  ·have hby := HC.out k hlt
   have hbr := hkp.cell (off + k) (World.block_lt_of_cell? w _ hby) (H.out.noByte hby)
   rw [hby] at hbr
   have hg := hBb.getD k
   have HBr := Lib.hid hbuf
   have HAr := Lib.hid hans
   have hsl := Lib.hid (spl_len bs a (l.take k) (by simp; omega))
   clear hby hbuf hans
   go_wp2_with fail
   refine (at_of (a + k) 1 _ _ _ HBr.out.hd (by omega) rfl (by have := hsl.out; have := HL.out; omega) (by have := hsl.out; omega) (by omega)).mono ?_
   rintro e w3 ⟨rfl, b3⟩
   have z3 := b3.size
   go_wp2_with fail
   refine (put_bytes (a + k) 1 (gB l k) _ (HBr.out.belows b3) (by omega) (by have := hsl.out; omega) (by omega) (by omega)).mono ?_
   rintro e w4 ⟨rfl, h4b, h4⟩
   have z4 := h4.size
   rw [leB_byte _ hg, spl_next bs l a k hlt (by omega)] at h4b
   have A4 := (HAr.out.below b3 (by omega)).keep h4 (fun e => nc1 e.symm)
   have k4 := (hkp.trans (Below.keeps b3)).trans (h4.mono fun _ _ e => .inr e)
   have f4' : w4.cell? ⟨w.heap.size, 1, none⟩ = some (.int .i64 a) := by
    rw [h4.cell _ (by omega) (fun e => nc e.symm), b3.cell (p := ⟨w.heap.size, 1, none⟩) (by show w.heap.size < wr.heap.size; omega)]
    exact hf1
   go_wp2
   exact ⟨⟨k + 1, by omega, by go_num, h4b, A4, k4, by omega, f4'⟩, by simp [intOf]; omega⟩
  ·have hkl : k = l.length := by omega
   subst hkl
   rw [List.take_length] at hbuf
   have q0 := hans.cell 0
   have q1 := hans.cell 1
   have q2 := hans.cell 2
   have u0 := hans.frozen 0
   have u1 := hans.frozen 1
   have u2 := hans.frozen 2
   simp only [List.getElem?_cons_zero, List.getElem?_cons_succ] at q0 q1 q2
   have HBr := Lib.hid hbuf
   have HAr := Lib.hid hans
   clear hbuf hans
   go_wp2
   refine bodyPost_ret (v := .tuple #[anV 0 false (.slice none 0 0), .int .i64 0]) ?_ rfl ⟨rfl, ?_, ?_⟩
   ·exact res_answer rfl rfl rfl (Blk.cell ((((HAr.out.set 0 _).set 1 _).set 2 _)) 0) (Blk.cell ((((HAr.out.set 0 _).set 1 _).set 2 _)) 1) (Blk.cell ((((HAr.out.set 0 _).set 1 _).set 2 _)) 2)
   ·repeat' (refine Buf.far ?_ np1 nc1 _)
    exact HBr.out
   ·repeat' (refine Keep.setCell ?_ (p := ⟨w.heap.size + 1, _, none⟩) (.inr (by simp)) _)
    exact hkp
def doB (bs : List Int) (k : Int) (a n : Nat) (v x : Int) (l : List Int) : List Int :=
 if k = 2 then spl bs a (leB v n) else if k = 3 then spl bs a (leB ((rdN bs a 8 + v) % 18446744073709551616) 8) else if k = 4 then (if rdN bs a n = v % 256 ^ n then spl bs a (leB x n) else bs) else if k = 6 then spl bs a l else bs
def doV (bs : List Int) (k : Int) (a n : Nat) : Int := if k = 1 ∨ k = 4 then rdN bs a n else if k = 3 then rdN bs a 8 else 0
def doD (bs : List Int) (k : Int) (a n : Nat) (v : Int) : Bool := if k = 4 then rdN bs a n == v % 256 ^ n else false
def doR (bs : List Int) (k : Int) (a n : Nat) : List Int := if k = 5 then (bs.drop a).take n else []
theorem acSized_k {k n l : Int} (h : acSized k n l = true) : k = 1 ∨ k = 2 ∨ k = 3 ∨ k = 4 ∨ k = 5 ∨ k = 6 := by
 unfold acSized at h
 split at h
 ·omega
 split at h
 ·omega
 split at h
 ·omega
 split at h
 ·omega
 ·cases h
theorem mDo_ok (p c : Nat) (cnt : Int) (bs : List Int) (k : Int) (a n : Nat) (v x : Int) (s0 : Option Addr) (sl sc : Nat) (l : List Int) (w : World) (h : Buf w p c cnt bs) (hc0 : 0 ≤ cnt) (hc1 : cnt ≤ 4611686018427387904) (hv0 : 0 ≤ v) (hv1 : v ≤ 18446744073709551615) (hx0 : 0 ≤ x) (hx1 : x ≤ 18446744073709551615)
  (hB : RdB w (.slice s0 sl sc) l) (hBb : IsB l) (he : acE bs.length k a n sl = 0) :
  Calls Tryz.prog 122 #[.pointer (some ⟨p, 0, none⟩), .agg #[.int .i64 k, .int .i64 (a : Int), .int .i64 (n : Int), .int .u64 v, .int .u64 x, .slice s0 sl sc]] w fun e w' =>
   ∃ s, e = .returned (.tuple #[anV (doV bs k a n) (doD bs k a n v) s, .int .i64 0]) ∧ OwB 5 w.heap.size w' s (doR bs k a n) ∧ Buf w' p c (cnt + 1) (doB bs k a n v x l) ∧ Keep (fun k => k = p ∨ k = c) w w' := by
 rcases acSized_k (acE_ok he (by omega)).1 with rfl | rfl | rfl | rfl | rfl | rfl
 ·refine (mDo_load p c cnt bs a n v x s0 sl sc w h hc0 hc1 he).mono ?_
  rintro e w' ⟨rfl, hb, hk⟩
  exact ⟨_, rfl, OwB.nil _ _ _, hb, hk⟩
 ·refine (mDo_store p c cnt bs a n v x s0 sl sc w h hc0 hc1 he hv0 hv1).mono ?_
  rintro e w' ⟨rfl, hb, hk⟩
  exact ⟨_, rfl, OwB.nil _ _ _, hb, hk⟩
 ·refine (mDo_add p c cnt bs a n v x s0 sl sc w h hc0 hc1 he hv0 hv1).mono ?_
  rintro e w' ⟨rfl, hb, hk⟩
  exact ⟨_, rfl, OwB.nil _ _ _, hb, hk⟩
 ·refine (mDo_cas p c cnt bs a n v x s0 sl sc w h hc0 hc1 he hv0 hv1 hx0 hx1).mono ?_
  rintro e w' ⟨rfl, hb, hk⟩
  exact ⟨_, rfl, OwB.nil _ _ _, hb, hk⟩
 ·refine (mDo_read p c cnt bs a n v x s0 sl sc w h hc0 hc1 he).mono ?_
  rintro e w' ⟨s, rfl, ho, hb, hk⟩
  exact ⟨_, rfl, ho, hb, hk⟩
 ·refine (mDo_write p c cnt bs a n v x s0 sl sc w h hc0 hc1 he l hB hBb).mono ?_
  rintro e w' ⟨rfl, hb, hk⟩
  exact ⟨_, rfl, OwB.nil _ _ _, hb, hk⟩
theorem rd_len {s0 : Option Addr} {sl sc : Nat} (h : RdB w (.slice s0 sl sc) l) : sl = l.length := by
 rcases h with ⟨e, rfl⟩ | ⟨_, _, e, rfl, _⟩ | ⟨_, _, _, e, _⟩
 ·cases e
  rfl
 ·cases e
  rfl
 ·cases e
  rfl
theorem doB_own {bs l : List Int} {k v x : Int} {a n : Nat} (he : acE bs.length k a n l.length = 0) (i : Nat) (hi : ¬ (a ≤ i ∧ i < a + n)) : gB (doB bs k a n v x l) i = gB bs i := by
 obtain ⟨hz, h0, h1, h2, h3, h4, h5⟩ := acE_ok he (by omega)
 have key : ∀ ms : List Int, ms.length = n → gB (spl bs a ms) i = gB bs i := by
  intro ms hm
  by_cases c : i < a
  ·exact spl_lt _ _ _ (by omega) _ c
  ·exact spl_ge _ _ _ (by omega) _ (by omega)
 unfold doB
 split
 ·exact key _ (leB_length _ _)
 split
 ·rename_i c1 c2
  have : n = 8 := by
   subst c2
   simp [acSized] at hz
   omega
  subst this
  exact key _ (leB_length _ _)
 split
 ·split
  ·exact key _ (leB_length _ _)
  ·rfl
 split
 ·rename_i c1 c2 c3 c4
  have : n = l.length := by
   subst c4
   simp [acSized] at hz
   omega
  exact key _ this.symm
 ·rfl
theorem doB_len {bs l : List Int} {k v x : Int} {a n : Nat} (he : acE bs.length k a n l.length = 0) : (doB bs k a n v x l).length = bs.length := by
 obtain ⟨hz, h0, h1, h2, h3, h4, h5⟩ := acE_ok he (by omega)
 unfold doB
 split
 ·exact spl_len _ _ _ (by rw [leB_length]; omega)
 split
 ·rename_i c1 c2
  have : n = 8 := by
   subst c2
   simp [acSized] at hz
   omega
  subst this
  exact spl_len _ _ _ (by rw [leB_length]; omega)
 split
 ·split
  ·exact spl_len _ _ _ (by rw [leB_length]; omega)
  ·rfl
 split
 ·rename_i c1 c2 c3 c4
  have : n = l.length := by
   subst c4
   simp [acSized] at hz
   omega
  exact spl_len _ _ _ (by omega)
 ·rfl
end Go.Proofs.YtggjhleomocojaaGreat
end
