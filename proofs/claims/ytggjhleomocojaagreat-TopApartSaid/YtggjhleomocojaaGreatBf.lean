/- Contracts of (*membuf.Buffer).Do, a theorem for each kind of access. Conditions: as each says. Contracts of (*membuf.Buffer).Do: Add, Read; a nil buffer. Conditions: as each says. -/
import Derived.Test.YtggjhleomocojaaGreatBd
import Derived.Deep.RegionHeld3
import Derived.Laws.ResultCell
section
namespace Go.Proofs.YtggjhleomocojaaGreat
set_option maxRecDepth 100000
open Go.RowKit
set_option linter.unusedVariables false
set_option linter.unusedSimpArgs false
variable {w : World} {p c : Nat} {cnt : Int} {bs : List Int}
theorem Buf.count (h : Buf w p c cnt bs) (x : Int) : Buf (w.setCell ⟨p, 1, none⟩ (.int .i64 x)) p c x bs :=
 ⟨by simpa using h.hd.set 1 (.int .i64 x), Blk.far h.wd (by have := h.ne; simp; omega) _, h.len, h.is, h.ne, h.le⟩
theorem Buf.alloc (h : Buf w p c cnt bs) (o : Obj) : Buf (w.alloc o) p c cnt bs :=
 h.belows ((Below.refl _ _).alloc (Nat.le_refl _) o)
theorem Buf.drew (h : Buf w p c cnt bs) : Buf w.drew p c cnt bs := ⟨h.hd, h.wd, h.len, h.is, h.ne, h.le⟩
theorem Buf.far (h : Buf w p c cnt bs) {a : Addr} (hp : p ≠ a.block) (hc : c ≠ a.block) (v : Value) : Buf (w.setCell a v) p c cnt bs :=
 ⟨h.hd.far hp v, Blk.far h.wd hc v, h.len, h.is, h.ne, h.le⟩
def anV (v : Int) (d : Bool) (s : Value) : Value := .agg #[.int .u64 v, .bool d, s]
theorem Blk.made1 (w : World) (o : Obj) (cs : Array Value) (T : TypeId) : Blk ((w.alloc o).alloc (.cells cs T)) (w.heap.size + 1) cs.toList := by
 have := Blk.made (w.alloc o) cs T
 rwa [show (w.alloc o).heap.size = w.heap.size + 1 by simp] at this
theorem res_answer {fn : Func} {tmps : Array Value} {W : World} {q : Nat} {V : Int} {D : Bool} {S0 : Option Addr} {S1 S2 : Nat} {E : Value} (hf : fn.results = #[.cell 4 74, .tmp 5]) (hp : tmps.getD 4 undef = .pointer (some ⟨q, 0, none⟩)) (he : tmps.getD 5 undef = E)
  (c0 : W.cell? ⟨q, 0, none⟩ = some (.int .u64 V)) (c1 : W.cell? ⟨q, 1, none⟩ = some (.bool D)) (c2 : W.cell? ⟨q, 2, none⟩ = some (.slice S0 S1 S2)) :
  (results fn tmps).run Tryz.prog W = .ok (.tuple #[anV V D (.slice S0 S1 S2), E]) W := by
 rw [results_cell_tmp hf, hp, he]
 go_simp
 rfl
theorem two_cellsD {w w1 : World} {cs ds : Array Value} {t u : TypeId} (h : Below (w.heap.size + 2) ((w.alloc (.cells cs t)).alloc (.cells ds u)) w1) (i : Nat) :
  w1.cell? ⟨w.heap.size, i, none⟩ = cs[i]? ∧ w1.cell? ⟨w.heap.size + 1, i, none⟩ = ds[i]? ∧ w1.frozen? ⟨w.heap.size + 1, i, none⟩ = false := by
 have e := (MapKept.heap_alloc (w.alloc (.cells cs t)) (.cells ds u)).1
 simp only [show (w.alloc (.cells cs t)).heap.size = w.heap.size + 1 by simp] at e
 refine ⟨?_, ?_, ?_⟩
 ·rw [h.cell (p := ⟨w.heap.size, i, none⟩) (by simp), World.cell?, Below.heap_alloc _ _ _ (by simp), (MapKept.heap_alloc w _).1]
  rfl
 ·rw [h.cell (p := ⟨w.heap.size + 1, i, none⟩) (by simp), World.cell?, e]
  rfl
 ·rw [h.frozen (p := ⟨w.heap.size + 1, i, none⟩) (by simp), World.frozen?, e]
  simp
set_option maxHeartbeats 2000000 in
theorem mDo_bad (p c : Nat) (cnt : Int) (bs : List Int) (k a n v x : Int) (s0 : Option Addr) (sl sc : Nat) (w : World) (h : Buf w p c cnt bs) (he : acE bs.length k a n sl ≠ 0) :
  Calls Tryz.prog 122 #[.pointer (some ⟨p, 0, none⟩), .agg #[.int .i64 k, .int .i64 a, .int .i64 n, .int .u64 v, .int .u64 x, .slice s0 sl sc]] w fun e w' => e = .returned (.tuple #[anV 0 false (.slice none 0 0), .int .i64 (acE bs.length k a n sl)]) ∧ Below w.heap.size w w' := by
 obtain ⟨ev, hev⟩ : ∃ ev, ev = acE bs.length k a n sl := ⟨_, rfl⟩
 rw [← hev] at he ⊢
 have HE := Lib.hid hev
 have he' : (ev != 0) = true := by simpa using he
 clear he hev
 have H := Lib.hid h
 have hpl := h.hd.lt
 have hcl := h.wd.lt
 have hle := h.le
 have hne := h.ne
 have HL := Lib.hid h.len
 clear h
 go_enter Tryz.func122, Tryz.ntmps122
 go_wp2_with fail
 go_region_held3 (fun w' => w'.cell? ⟨w.heap.size, 0, none⟩ = some (.int .i64 k) ∧ w'.cell? ⟨w.heap.size, 1, none⟩ = some (.int .i64 a) ∧ w'.cell? ⟨w.heap.size, 2, none⟩ = some (.int .i64 n) ∧ w'.cell? ⟨w.heap.size, 3, none⟩ = some (.int .u64 v) ∧ w'.cell? ⟨w.heap.size, 4, none⟩ = some (.int .u64 x) ∧ w'.cell? ⟨w.heap.size, 5, none⟩ = some (.slice s0 sl sc)) (go_keep)
  (first
   | (go_at_call 146; refine (mSize_any p c cnt bs _ ((H.out.alloc _).alloc _).drew).mono ?_; rintro e w' ⟨rfl, rfl⟩)
   | (go_at_call 145; refine (mCheck_any _ _ _ _ _ _ _ _ _ _ (by omega) (by omega)).mono ?_; rintro e w1 ⟨rfl, b1⟩; have hc1 := fun o => b1.cell (p := ⟨w.heap.size, o, none⟩) (by simp <;> omega)))
 clear hc1
 have D1 : Below (w.heap.size + 2) ((w.alloc _).alloc _) w1 := ((Below.refl _ _).drew).trans (b1.mono (by simp))
 obtain ⟨f0, g0, i0⟩ := two_cellsD D1 0
 obtain ⟨f1, g1, i1⟩ := two_cellsD D1 1
 obtain ⟨f2, g2, i2⟩ := two_cellsD D1 2
 have A1 := Lib.hid (show Blk w1 (w.heap.size + 1) [.int .u64 0, .bool false, .slice none 0 0] from Blk.below (Blk.made1 w _ #[.int .u64 0, .bool false, .slice none 0 0] 74) D1 (by simp))
 obtain ⟨f3, _, _⟩ := two_cellsD D1 3
 obtain ⟨f4, _, _⟩ := two_cellsD D1 4
 obtain ⟨f5, _, _⟩ := two_cellsD D1 5
 simp only [List.getElem?_toArray, List.getElem?_cons_zero, List.getElem?_cons_succ] at f0 f1 f2 f3 f4 f5 g0 g1 g2
 have z1 : w.heap.size + 2 ≤ w1.heap.size := by
  have := D1.size
  simpa using this
 have B1 : Below w.heap.size w w1 := Below.trans (by go_grown) (D1.mono (by omega))
 have HB := Lib.hid (H.out.belows B1)
 have k1 : Keep (fun k => k = p ∨ k = c) w w1 := Below.keeps B1
 have y0 : w.heap.size < w1.heap.size := by omega
 have y1 : w.heap.size + 1 < w1.heap.size := by omega
 have np : ¬ p = w.heap.size := by omega
 have np1 : ¬ p = w.heap.size + 1 := by omega
 have nc : ¬ c = w.heap.size := by omega
 have nc1 : ¬ c = w.heap.size + 1 := by omega
 clear b1 D1
 rw [← HE.out]
 go_wp2
 refine bodyPost_ret (v := .tuple #[anV 0 false (.slice none 0 0), .int .i64 ev]) ?_ rfl ⟨rfl, ?_⟩
 ·rw [results_cell_tmp rfl]
  go_simp
  first | done | exact ⟨rfl, rfl⟩ | rfl
 ·refine Below.setCell (Below.setCell (Below.setCell B1 ?_ _) ?_ _) ?_ _ <;> simp
theorem addCnt (p : Nat) (cnt : Int) (w : World) (h : w.cell? ⟨p, 1, none⟩ = some (.int .i64 cnt)) (hf : w.frozen? ⟨p, 1, none⟩ = false) (h0 : 0 ≤ cnt) (h1 : cnt ≤ 4611686018427387904) :
  Calls Tryz.prog 147 #[.pointer (some ⟨p, 1, none⟩), .int .i64 1] w fun e w' => e = .returned (.int .i64 (cnt + 1)) ∧ w.setCell ⟨p, 1, none⟩ (.int .i64 (cnt + 1)) = w' := by
 have := addI64_any p 1 cnt 1 w h hf
 rwa [IntWalk.i64_in (cnt + 1) ⟨by omega, by omega⟩] at this
theorem acE_ok {size k a n l : Int} (h : acE size k a n l = 0) (hl : 0 ≤ l) : acSized k n l = true ∧ 0 ≤ a ∧ a ≤ size ∧ n ≤ size - a ∧ 0 ≤ n ∧ n ≤ 8 ∧ (k < 5 → a % n = 0 ∧ (n = 4 ∨ n = 8)) := by
 unfold acE at h
 split at h
 ·cases h
 split at h
 ·cases h
 split at h
 ·cases h
 rename_i h1 h2 h3
 have hz : acSized k n l = true := by simpa using h1
 have hb := acSized_bd hz hl
 refine ⟨hz, by omega, by omega, by omega, hb.1, hb.2, fun hk => ⟨?_, acSized_n hz hk⟩⟩
 have := acSized_n hz hk
 omega
set_option maxHeartbeats 2000000 in
theorem mDo_load (p c : Nat) (cnt : Int) (bs : List Int) (a n : Nat) (v x : Int) (s0 : Option Addr) (sl sc : Nat) (w : World) (h : Buf w p c cnt bs) (hc0 : 0 ≤ cnt) (hc1 : cnt ≤ 4611686018427387904) (he : acE bs.length 1 a n sl = 0) :
  Calls Tryz.prog 122 #[.pointer (some ⟨p, 0, none⟩), .agg #[.int .i64 1, .int .i64 (a : Int), .int .i64 (n : Int), .int .u64 v, .int .u64 x, .slice s0 sl sc]] w fun e w' => e = .returned (.tuple #[anV (rdN bs a n) false (.slice none 0 0), .int .i64 0]) ∧ Buf w' p c (cnt + 1) bs ∧ Keep (fun k => k = p ∨ k = c) w w' := by
 have hok := acE_ok he (by omega)
 have HE := Lib.hid he
 clear he
 have hal : a % 8 + n ≤ 8 ∧ a < bs.length ∧ a < 8 * (bs.length / 8) ∧ n ≤ 8 ∧ 4 ≤ n := by
  obtain ⟨_, h1, h2, h3, h4, h5, h6⟩ := hok
  have h7 := h6 (by omega)
  have h8 := h.len
  rcases h7.2 with e | e
  ·have : n = 4 := by omega
   subst this
   omega
  ·have : n = 8 := by omega
   subst this
   omega
 have H := Lib.hid h
 have hpl := h.hd.lt
 have hcl := h.wd.lt
 have hle := h.le
 have hne := h.ne
 have HL := Lib.hid h.len
 clear h
 go_enter Tryz.func122, Tryz.ntmps122
 go_wp2_with fail
 go_region_held3 (fun w' => w'.cell? ⟨w.heap.size, 0, none⟩ = some (.int .i64 1) ∧ w'.cell? ⟨w.heap.size, 1, none⟩ = some (.int .i64 a) ∧ w'.cell? ⟨w.heap.size, 2, none⟩ = some (.int .i64 n) ∧ w'.cell? ⟨w.heap.size, 3, none⟩ = some (.int .u64 v) ∧ w'.cell? ⟨w.heap.size, 4, none⟩ = some (.int .u64 x) ∧ w'.cell? ⟨w.heap.size, 5, none⟩ = some (.slice s0 sl sc)) (go_keep)
  (first
   | (go_at_call 146; refine (mSize_any p c cnt bs _ ((H.out.alloc _).alloc _).drew).mono ?_; rintro e w' ⟨rfl, rfl⟩)
   | (go_at_call 145; refine (mCheck_any _ _ _ _ _ _ _ _ _ _ (by omega) (by omega)).mono ?_; rintro e w1 ⟨rfl, b1⟩; have hc1 := fun o => b1.cell (p := ⟨w.heap.size, o, none⟩) (by simp <;> omega)))
 clear hc1
 have D1 : Below (w.heap.size + 2) ((w.alloc _).alloc _) w1 := ((Below.refl _ _).drew).trans (b1.mono (by simp))
 obtain ⟨f0, g0, i0⟩ := two_cellsD D1 0
 obtain ⟨f1, g1, i1⟩ := two_cellsD D1 1
 obtain ⟨f2, g2, i2⟩ := two_cellsD D1 2
 have A1 := Lib.hid (show Blk w1 (w.heap.size + 1) [.int .u64 0, .bool false, .slice none 0 0] from Blk.below (Blk.made1 w _ #[.int .u64 0, .bool false, .slice none 0 0] 74) D1 (by simp))
 obtain ⟨f3, _, _⟩ := two_cellsD D1 3
 obtain ⟨f4, _, _⟩ := two_cellsD D1 4
 obtain ⟨f5, _, _⟩ := two_cellsD D1 5
 simp only [List.getElem?_toArray, List.getElem?_cons_zero, List.getElem?_cons_succ] at f0 f1 f2 f3 f4 f5 g0 g1 g2
 have z1 : w.heap.size + 2 ≤ w1.heap.size := by
  have := D1.size
  simpa using this
 have B1 : Below w.heap.size w w1 := Below.trans (by go_grown) (D1.mono (by omega))
 have HB := Lib.hid (H.out.belows B1)
 have k1 : Keep (fun k => k = p ∨ k = c) w w1 := Below.keeps B1
 have y0 : w.heap.size < w1.heap.size := by omega
 have y1 : w.heap.size + 1 < w1.heap.size := by omega
 have np : ¬ p = w.heap.size := by omega
 have np1 : ¬ p = w.heap.size + 1 := by omega
 have nc : ¬ c = w.heap.size := by omega
 have nc1 : ¬ c = w.heap.size + 1 := by omega
 clear b1 D1
 rw [HE.out]
 have pc := HB.out.hd.cell 1
 simp only [List.getElem?_cons_zero, List.getElem?_cons_succ] at pc
 have pf := HB.out.hd.frozen 1
 go_wp2_with fail
 refine (addCnt p cnt _ (by go_simp) (by go_simp) hc0 hc1).mono ?_
 rintro e w2 ⟨rfl, rfl⟩
 have HB2 := Lib.hid (HB.out.count (cnt + 1))
 clear pc pf
 go_wp2_with fail
 refine (at_of a n _ _ _ HB2.out.hd rfl rfl hal.2.2.1 (by omega) hal.2.2.2.1).mono ?_
 rintro e w3 ⟨rfl, b3⟩
 have z3 := b3.size
 have z3' : w1.heap.size ≤ w3.heap.size := by simpa [World.setCell] using z3
 have HB3 := Lib.hid (HB2.out.belows b3)
 have c3 := fun o => b3.cell (p := ⟨w.heap.size, o, none⟩) (by simp [World.setCell]; omega)
 have d3 := fun o => b3.cell (p := ⟨w.heap.size + 1, o, none⟩) (by simp [World.setCell]; omega)
 have e3 := fun o => b3.frozen (p := ⟨w.heap.size + 1, o, none⟩) (by simp [World.setCell]; omega)
 have y3 : w.heap.size < w3.heap.size := by omega
 have y3' : w.heap.size + 1 < w3.heap.size := by omega
 go_wp2_with fail
 refine (get_bytes a n _ (HB3.out.alloc _) hal.1 hal.2.1).mono ?_
 rintro e w4 ⟨rfl, b4⟩
 have HB4 := Lib.hid ((HB3.out.alloc _).belows b4)
 have z4 := b4.size
 simp at z4
 have z4' : w3.heap.size < w4.heap.size := by omega
 have d4 := fun o => b4.cell (p := ⟨w.heap.size + 1, o, none⟩) (by simp; omega)
 have e4 := fun o => b4.frozen (p := ⟨w.heap.size + 1, o, none⟩) (by simp; omega)
 have c4 := fun o => b4.cell (p := ⟨w.heap.size, o, none⟩) (by simp; omega)
 have q4_0 : w4.cell? ⟨w.heap.size + 1, 0, none⟩ = some (.int .u64 0) := (d4 0).trans (by go_simp)
 have q4_1 : w4.cell? ⟨w.heap.size + 1, 1, none⟩ = some (.bool false) := (d4 1).trans (by go_simp)
 have q4_2 : w4.cell? ⟨w.heap.size + 1, 2, none⟩ = some (.slice none 0 0) := (d4 2).trans (by go_simp)
 have u4_0 : w4.frozen? ⟨w.heap.size + 1, 0, none⟩ = false := (e4 0).trans (by go_simp)
 have u4_1 : w4.frozen? ⟨w.heap.size + 1, 1, none⟩ = false := (e4 1).trans (by go_simp)
 have u4_2 : w4.frozen? ⟨w.heap.size + 1, 2, none⟩ = false := (e4 2).trans (by go_simp)
 have f4_0 : w4.cell? ⟨w.heap.size, 0, none⟩ = some (.int .i64 1) := (c4 0).trans (by go_simp)
 clear d4 e4 c4 d3 e3 c3
 have A4 := Lib.hid ((((A1.out.far (fun e => np1 e.symm) _).below b3 (by simp [World.setCell]; omega)).alloc _).below b4 (by simp; omega))
 have k4 : Keep (fun k => k = p ∨ k = c) w w4 := ((((k1.setCell (p := ⟨p, 1, none⟩) (.inl (.inl rfl)) _).trans (Below.keeps b3)).alloc _).trans (Below.keeps b4))
 go_wp2
 refine bodyPost_ret (v := .tuple #[anV (rdN bs a n) false (.slice none 0 0), .int .i64 0]) ?_ rfl ⟨rfl, ?_, ?_⟩
 ·rw [results_cell_tmp rfl]
  go_simp
  first | done | exact ⟨rfl, rfl⟩ | rfl
 ·repeat' (refine Buf.far ?_ np1 nc1 _)
  exact HB4.out
 ·repeat' (refine Keep.setCell ?_ (p := ⟨w.heap.size + 1, _, none⟩) (.inr (by simp)) _)
  exact k4
set_option maxHeartbeats 2000000 in
theorem mDo_store (p c : Nat) (cnt : Int) (bs : List Int) (a n : Nat) (v x : Int) (s0 : Option Addr) (sl sc : Nat) (w : World) (h : Buf w p c cnt bs) (hc0 : 0 ≤ cnt) (hc1 : cnt ≤ 4611686018427387904) (he : acE bs.length 2 a n sl = 0) (hv0 : 0 ≤ v) (hv1 : v ≤ 18446744073709551615) :
  Calls Tryz.prog 122 #[.pointer (some ⟨p, 0, none⟩), .agg #[.int .i64 2, .int .i64 (a : Int), .int .i64 (n : Int), .int .u64 v, .int .u64 x, .slice s0 sl sc]] w fun e w' => e = .returned (.tuple #[anV 0 false (.slice none 0 0), .int .i64 0]) ∧ Buf w' p c (cnt + 1) (spl bs a (leB v n)) ∧ Keep (fun k => k = p ∨ k = c) w w' := by
 have hok := acE_ok he (by omega)
 have HE := Lib.hid he
 clear he
 have hal : a % 8 + n ≤ 8 ∧ a < bs.length ∧ a < 8 * (bs.length / 8) ∧ n ≤ 8 ∧ 4 ≤ n := by
  obtain ⟨_, h1, h2, h3, h4, h5, h6⟩ := hok
  have h7 := h6 (by omega)
  have h8 := h.len
  rcases h7.2 with e | e
  ·have : n = 4 := by omega
   subst this
   omega
  ·have : n = 8 := by omega
   subst this
   omega
 have H := Lib.hid h
 have hpl := h.hd.lt
 have hcl := h.wd.lt
 have hle := h.le
 have hne := h.ne
 have HL := Lib.hid h.len
 clear h
 go_enter Tryz.func122, Tryz.ntmps122
 go_wp2_with fail
 go_region_held3 (fun w' => w'.cell? ⟨w.heap.size, 0, none⟩ = some (.int .i64 2) ∧ w'.cell? ⟨w.heap.size, 1, none⟩ = some (.int .i64 a) ∧ w'.cell? ⟨w.heap.size, 2, none⟩ = some (.int .i64 n) ∧ w'.cell? ⟨w.heap.size, 3, none⟩ = some (.int .u64 v) ∧ w'.cell? ⟨w.heap.size, 4, none⟩ = some (.int .u64 x) ∧ w'.cell? ⟨w.heap.size, 5, none⟩ = some (.slice s0 sl sc)) (go_keep)
  (first
   | (go_at_call 146; refine (mSize_any p c cnt bs _ ((H.out.alloc _).alloc _).drew).mono ?_; rintro e w' ⟨rfl, rfl⟩)
   | (go_at_call 145; refine (mCheck_any _ _ _ _ _ _ _ _ _ _ (by omega) (by omega)).mono ?_; rintro e w1 ⟨rfl, b1⟩; have hc1 := fun o => b1.cell (p := ⟨w.heap.size, o, none⟩) (by simp <;> omega)))
 clear hc1
 have D1 : Below (w.heap.size + 2) ((w.alloc _).alloc _) w1 := ((Below.refl _ _).drew).trans (b1.mono (by simp))
 obtain ⟨f0, g0, i0⟩ := two_cellsD D1 0
 obtain ⟨f1, g1, i1⟩ := two_cellsD D1 1
 obtain ⟨f2, g2, i2⟩ := two_cellsD D1 2
 have A1 := Lib.hid (show Blk w1 (w.heap.size + 1) [.int .u64 0, .bool false, .slice none 0 0] from Blk.below (Blk.made1 w _ #[.int .u64 0, .bool false, .slice none 0 0] 74) D1 (by simp))
 obtain ⟨f3, _, _⟩ := two_cellsD D1 3
 obtain ⟨f4, _, _⟩ := two_cellsD D1 4
 obtain ⟨f5, _, _⟩ := two_cellsD D1 5
 simp only [List.getElem?_toArray, List.getElem?_cons_zero, List.getElem?_cons_succ] at f0 f1 f2 f3 f4 f5 g0 g1 g2
 have z1 : w.heap.size + 2 ≤ w1.heap.size := by
  have := D1.size
  simpa using this
 have B1 : Below w.heap.size w w1 := Below.trans (by go_grown) (D1.mono (by omega))
 have HB := Lib.hid (H.out.belows B1)
 have k1 : Keep (fun k => k = p ∨ k = c) w w1 := Below.keeps B1
 have y0 : w.heap.size < w1.heap.size := by omega
 have y1 : w.heap.size + 1 < w1.heap.size := by omega
 have np : ¬ p = w.heap.size := by omega
 have np1 : ¬ p = w.heap.size + 1 := by omega
 have nc : ¬ c = w.heap.size := by omega
 have nc1 : ¬ c = w.heap.size + 1 := by omega
 clear b1 D1
 rw [HE.out]
 have pc := HB.out.hd.cell 1
 simp only [List.getElem?_cons_zero, List.getElem?_cons_succ] at pc
 have pf := HB.out.hd.frozen 1
 go_wp2_with fail
 refine (addCnt p cnt _ (by go_simp) (by go_simp) hc0 hc1).mono ?_
 rintro e w2 ⟨rfl, rfl⟩
 have HB2 := Lib.hid (HB.out.count (cnt + 1))
 clear pc pf
 go_wp2_with fail
 refine (at_of a n _ _ _ HB2.out.hd rfl rfl hal.2.2.1 (by omega) hal.2.2.2.1).mono ?_
 rintro e w3 ⟨rfl, b3⟩
 have z3 := b3.size
 have z3' : w1.heap.size ≤ w3.heap.size := by simpa [World.setCell] using z3
 have HB3 := Lib.hid (HB2.out.belows b3)
 have c3 := fun o => b3.cell (p := ⟨w.heap.size, o, none⟩) (by simp [World.setCell]; omega)
 have d3 := fun o => b3.cell (p := ⟨w.heap.size + 1, o, none⟩) (by simp [World.setCell]; omega)
 have e3 := fun o => b3.frozen (p := ⟨w.heap.size + 1, o, none⟩) (by simp [World.setCell]; omega)
 have y3 : w.heap.size < w3.heap.size := by omega
 have y3' : w.heap.size + 1 < w3.heap.size := by omega
 go_wp2_with fail
 refine (put_bytes a n v _ (HB3.out.alloc _) hal.1 hal.2.1 hv0 hv1).mono ?_
 rintro e w4 ⟨rfl, h4b, h4⟩
 have HB4 := Lib.hid h4b
 clear h4b
 have z4 := h4.size
 simp at z4
 have z4' : w3.heap.size < w4.heap.size := by omega
 have d4 := fun o => h4.cell (b := w.heap.size + 1) o (by simp; omega) (fun e => nc1 e.symm)
 have e4 := fun o => h4.frozen (b := w.heap.size + 1) o (by simp; omega) (fun e => nc1 e.symm)
 have c4 := fun o => h4.cell (b := w.heap.size) o (by simp; omega) (fun e => nc e.symm)
 have q4_0 : w4.cell? ⟨w.heap.size + 1, 0, none⟩ = some (.int .u64 0) := (d4 0).trans (by go_simp)
 have q4_1 : w4.cell? ⟨w.heap.size + 1, 1, none⟩ = some (.bool false) := (d4 1).trans (by go_simp)
 have q4_2 : w4.cell? ⟨w.heap.size + 1, 2, none⟩ = some (.slice none 0 0) := (d4 2).trans (by go_simp)
 have u4_0 : w4.frozen? ⟨w.heap.size + 1, 0, none⟩ = false := (e4 0).trans (by go_simp)
 have u4_1 : w4.frozen? ⟨w.heap.size + 1, 1, none⟩ = false := (e4 1).trans (by go_simp)
 have u4_2 : w4.frozen? ⟨w.heap.size + 1, 2, none⟩ = false := (e4 2).trans (by go_simp)
 have f4_0 : w4.cell? ⟨w.heap.size, 0, none⟩ = some (.int .i64 2) := (c4 0).trans (by go_simp)
 clear d4 e4 c4 d3 e3 c3
 have A4 := Lib.hid ((((A1.out.far (fun e => np1 e.symm) _).below b3 (by simp [World.setCell]; omega)).alloc _).keep h4 (fun e => nc1 e.symm))
 have k4 : Keep (fun k => k = p ∨ k = c) w w4 := ((((k1.setCell (p := ⟨p, 1, none⟩) (.inl (.inl rfl)) _).trans (Below.keeps b3)).alloc _).trans (h4.mono fun _ _ e => .inr e))
 go_wp2
 refine bodyPost_ret (v := .tuple #[anV 0 false (.slice none 0 0), .int .i64 0]) ?_ rfl ⟨rfl, ?_, ?_⟩
 ·rw [results_cell_tmp rfl]
  go_simp
  first | done | exact ⟨rfl, rfl⟩ | rfl
 ·repeat' (refine Buf.far ?_ np1 nc1 _)
  exact HB4.out
 ·repeat' (refine Keep.setCell ?_ (p := ⟨w.heap.size + 1, _, none⟩) (.inr (by simp)) _)
  exact k4
theorem and_msk (v : Int) (n : Nat) (h0 : 0 ≤ v) (h1 : v ≤ 18446744073709551615) (hn : n ≤ 8) : bits .and .u64 v (256 ^ n - 1) = v % 256 ^ n := by
 obtain ⟨V, rfl⟩ := Int.eq_ofNat_of_zero_le h0
 have e8 : ((256 : Int) ^ n) = 2 ^ (8 * n) := by rw [Int.pow_mul]; rfl
 rw [e8, and_mod V (8 * n) (by omega) (by omega), Int.natCast_emod, pow_cast]
theorem cas_bytes (m n : Nat) (v x : Int) (w : World) (h : Buf w p c cnt bs) (hm : m % 8 + n ≤ 8) (hl : m < bs.length) (hv0 : 0 ≤ v) (hv1 : v ≤ 18446744073709551615) (hx0 : 0 ≤ x) (hx1 : x ≤ 18446744073709551615) :
  Calls Tryz.prog 153 #[.agg #[.pointer (some ⟨c, m / 8, none⟩), .int .u64 (8 * ((m % 8 : Nat) : Int)), .int .u64 (256 ^ n - 1)], .int .u64 v, .int .u64 x] w fun e w' =>
   e = .returned (.tuple #[.int .u64 (rdN bs m n), .bool (rdN bs m n == v % 256 ^ n)]) ∧ Buf w' p c cnt (if rdN bs m n = v % 256 ^ n then spl bs m (leB x n) else bs) ∧ Keep (· = c) w w' := by
 have hk : m / 8 < bs.length / 8 := by have := h.len; omega
 have b := wds_bd h.is (bs.length / 8) (m / 8) hk
 have hsl : (spl bs m (leB x n)).length = bs.length := spl_len _ _ _ (by have := h.len; rw [leB_length]; omega)
 by_cases he : rdN bs m n = v % 256 ^ n
 ·have := cas_hit c (m / 8) (m % 8) (wds bs (bs.length / 8)) (256 ^ n - 1) v x w (by omega) b.1 b.2 h.wd (by rw [wds_len]; exact hk) (by rw [gt_bytes h.is h.len m n hm hk, he, and_msk v n hv0 hv1 (by omega)])
  rw [gt_bytes h.is h.len m n hm hk] at this
  refine this.mono ?_
  rintro e w' ⟨rfl, hw, hkp⟩
  rw [sw_bytes h.is h.len m n x hx0 hx1 hm hk] at hw
  rw [if_pos he]
  refine ⟨by rw [show (rdN bs m n == v % 256 ^ n) = true by simpa using he], ⟨?_, ?_, ?_, spl_is h.is (leB_is _ _), h.ne, ?_⟩, hkp⟩
  ·rw [hsl]
   exact h.hd.keep hkp h.ne
  ·rw [hsl]
   exact hw
  ·rw [hsl]
   exact h.len
  ·rw [hsl]
   exact h.le
 ·have := cas_miss c (m / 8) (m % 8) (gB (wds bs (bs.length / 8)) (m / 8)) (256 ^ n - 1) v x w (by omega) b.1 b.2 (h.wd.cell _ (by rw [wds_len]; exact hk)) (by rw [gt_bytes h.is h.len m n hm hk, and_msk v n hv0 hv1 (by omega)]; exact he)
  rw [gt_bytes h.is h.len m n hm hk] at this
  refine this.mono ?_
  rintro e w' ⟨rfl, hb⟩
  rw [if_neg he]
  exact ⟨by rw [show (rdN bs m n == v % 256 ^ n) = false by simpa using he], h.belows hb, Below.keeps hb⟩
set_option maxHeartbeats 2000000 in
theorem mDo_cas (p c : Nat) (cnt : Int) (bs : List Int) (a n : Nat) (v x : Int) (s0 : Option Addr) (sl sc : Nat) (w : World) (h : Buf w p c cnt bs) (hc0 : 0 ≤ cnt) (hc1 : cnt ≤ 4611686018427387904) (he : acE bs.length 4 a n sl = 0) (hv0 : 0 ≤ v) (hv1 : v ≤ 18446744073709551615) (hx0 : 0 ≤ x) (hx1 : x ≤ 18446744073709551615) :
  Calls Tryz.prog 122 #[.pointer (some ⟨p, 0, none⟩), .agg #[.int .i64 4, .int .i64 (a : Int), .int .i64 (n : Int), .int .u64 v, .int .u64 x, .slice s0 sl sc]] w fun e w' => e = .returned (.tuple #[anV (rdN bs a n) (rdN bs a n == v % 256 ^ n) (.slice none 0 0), .int .i64 0]) ∧ Buf w' p c (cnt + 1) (if rdN bs a n = v % 256 ^ n then spl bs a (leB x n) else bs) ∧ Keep (fun k => k = p ∨ k = c) w w' := by
 have hok := acE_ok he (by omega)
 have HE := Lib.hid he
 clear he
 have hal : a % 8 + n ≤ 8 ∧ a < bs.length ∧ a < 8 * (bs.length / 8) ∧ n ≤ 8 ∧ 4 ≤ n := by
  obtain ⟨_, h1, h2, h3, h4, h5, h6⟩ := hok
  have h7 := h6 (by omega)
  have h8 := h.len
  rcases h7.2 with e | e
  ·have : n = 4 := by omega
   subst this
   omega
  ·have : n = 8 := by omega
   subst this
   omega
 obtain ⟨dn, hdn⟩ : ∃ dn, dn = (rdN bs a n == v % 256 ^ n) := ⟨_, rfl⟩
 obtain ⟨bs', hbs'⟩ : ∃ bs', bs' = (if rdN bs a n = v % 256 ^ n then spl bs a (leB x n) else bs) := ⟨_, rfl⟩
 rw [← hdn, ← hbs']
 have HDN := Lib.hid hdn
 have HBS := Lib.hid hbs'
 clear hdn hbs'
 have H := Lib.hid h
 have hpl := h.hd.lt
 have hcl := h.wd.lt
 have hle := h.le
 have hne := h.ne
 have HL := Lib.hid h.len
 clear h
 go_enter Tryz.func122, Tryz.ntmps122
 go_wp2_with fail
 go_region_held3 (fun w' => w'.cell? ⟨w.heap.size, 0, none⟩ = some (.int .i64 4) ∧ w'.cell? ⟨w.heap.size, 1, none⟩ = some (.int .i64 a) ∧ w'.cell? ⟨w.heap.size, 2, none⟩ = some (.int .i64 n) ∧ w'.cell? ⟨w.heap.size, 3, none⟩ = some (.int .u64 v) ∧ w'.cell? ⟨w.heap.size, 4, none⟩ = some (.int .u64 x) ∧ w'.cell? ⟨w.heap.size, 5, none⟩ = some (.slice s0 sl sc)) (go_keep)
  (first
   | (go_at_call 146; refine (mSize_any p c cnt bs _ ((H.out.alloc _).alloc _).drew).mono ?_; rintro e w' ⟨rfl, rfl⟩)
   | (go_at_call 145; refine (mCheck_any _ _ _ _ _ _ _ _ _ _ (by omega) (by omega)).mono ?_; rintro e w1 ⟨rfl, b1⟩; have hc1 := fun o => b1.cell (p := ⟨w.heap.size, o, none⟩) (by simp <;> omega)))
 clear hc1
 have D1 : Below (w.heap.size + 2) ((w.alloc _).alloc _) w1 := ((Below.refl _ _).drew).trans (b1.mono (by simp))
 obtain ⟨f0, g0, i0⟩ := two_cellsD D1 0
 obtain ⟨f1, g1, i1⟩ := two_cellsD D1 1
 obtain ⟨f2, g2, i2⟩ := two_cellsD D1 2
 have A1 := Lib.hid (show Blk w1 (w.heap.size + 1) [.int .u64 0, .bool false, .slice none 0 0] from Blk.below (Blk.made1 w _ #[.int .u64 0, .bool false, .slice none 0 0] 74) D1 (by simp))
 obtain ⟨f3, _, _⟩ := two_cellsD D1 3
 obtain ⟨f4, _, _⟩ := two_cellsD D1 4
 obtain ⟨f5, _, _⟩ := two_cellsD D1 5
 simp only [List.getElem?_toArray, List.getElem?_cons_zero, List.getElem?_cons_succ] at f0 f1 f2 f3 f4 f5 g0 g1 g2
 have z1 : w.heap.size + 2 ≤ w1.heap.size := by
  have := D1.size
  simpa using this
 have B1 : Below w.heap.size w w1 := Below.trans (by go_grown) (D1.mono (by omega))
 have HB := Lib.hid (H.out.belows B1)
 have k1 : Keep (fun k => k = p ∨ k = c) w w1 := Below.keeps B1
 have y0 : w.heap.size < w1.heap.size := by omega
 have y1 : w.heap.size + 1 < w1.heap.size := by omega
 have np : ¬ p = w.heap.size := by omega
 have np1 : ¬ p = w.heap.size + 1 := by omega
 have nc : ¬ c = w.heap.size := by omega
 have nc1 : ¬ c = w.heap.size + 1 := by omega
 clear b1 D1
 rw [HE.out]
 have pc := HB.out.hd.cell 1
 simp only [List.getElem?_cons_zero, List.getElem?_cons_succ] at pc
 have pf := HB.out.hd.frozen 1
 go_wp2_with fail
 refine (addCnt p cnt _ (by go_simp) (by go_simp) hc0 hc1).mono ?_
 rintro e w2 ⟨rfl, rfl⟩
 have HB2 := Lib.hid (HB.out.count (cnt + 1))
 clear pc pf
 go_wp2_with fail
 refine (at_of a n _ _ _ HB2.out.hd rfl rfl hal.2.2.1 (by omega) hal.2.2.2.1).mono ?_
 rintro e w3 ⟨rfl, b3⟩
 have z3 := b3.size
 have z3' : w1.heap.size ≤ w3.heap.size := by simpa [World.setCell] using z3
 have HB3 := Lib.hid (HB2.out.belows b3)
 have c3 := fun o => b3.cell (p := ⟨w.heap.size, o, none⟩) (by simp [World.setCell]; omega)
 have d3 := fun o => b3.cell (p := ⟨w.heap.size + 1, o, none⟩) (by simp [World.setCell]; omega)
 have e3 := fun o => b3.frozen (p := ⟨w.heap.size + 1, o, none⟩) (by simp [World.setCell]; omega)
 have y3 : w.heap.size < w3.heap.size := by omega
 have y3' : w.heap.size + 1 < w3.heap.size := by omega
 go_wp2_with fail
 refine (cas_bytes a n v x _ (HB3.out.alloc _) hal.1 hal.2.1 hv0 hv1 hx0 hx1).mono ?_
 rintro e w4 ⟨rfl, h4b, h4⟩
 rw [← HDN.out]
 rw [← HBS.out] at h4b
 have HB4 := Lib.hid h4b
 clear h4b
 have z4 := h4.size
 simp at z4
 have z4' : w3.heap.size < w4.heap.size := by omega
 have d4 := fun o => h4.cell (b := w.heap.size + 1) o (by simp; omega) (fun e => nc1 e.symm)
 have e4 := fun o => h4.frozen (b := w.heap.size + 1) o (by simp; omega) (fun e => nc1 e.symm)
 have c4 := fun o => h4.cell (b := w.heap.size) o (by simp; omega) (fun e => nc e.symm)
 have q4_0 : w4.cell? ⟨w.heap.size + 1, 0, none⟩ = some (.int .u64 0) := (d4 0).trans (by go_simp)
 have q4_1 : w4.cell? ⟨w.heap.size + 1, 1, none⟩ = some (.bool false) := (d4 1).trans (by go_simp)
 have q4_2 : w4.cell? ⟨w.heap.size + 1, 2, none⟩ = some (.slice none 0 0) := (d4 2).trans (by go_simp)
 have u4_0 : w4.frozen? ⟨w.heap.size + 1, 0, none⟩ = false := (e4 0).trans (by go_simp)
 have u4_1 : w4.frozen? ⟨w.heap.size + 1, 1, none⟩ = false := (e4 1).trans (by go_simp)
 have u4_2 : w4.frozen? ⟨w.heap.size + 1, 2, none⟩ = false := (e4 2).trans (by go_simp)
 have f4_0 : w4.cell? ⟨w.heap.size, 0, none⟩ = some (.int .i64 4) := (c4 0).trans (by go_simp)
 clear d4 e4 c4 d3 e3 c3
 have A4 := Lib.hid ((((A1.out.far (fun e => np1 e.symm) _).below b3 (by simp [World.setCell]; omega)).alloc _).keep h4 (fun e => nc1 e.symm))
 have k4 : Keep (fun k => k = p ∨ k = c) w w4 := ((((k1.setCell (p := ⟨p, 1, none⟩) (.inl (.inl rfl)) _).trans (Below.keeps b3)).alloc _).trans (h4.mono fun _ _ e => .inr e))
 go_wp2
 refine bodyPost_ret (v := .tuple #[anV (rdN bs a n) dn (.slice none 0 0), .int .i64 0]) ?_ rfl ⟨rfl, ?_, ?_⟩
 ·exact res_answer rfl rfl rfl (Blk.cell (((((A4.out.set 0 _).set 1 _).set 0 _).set 1 _).set 2 _) 0) (Blk.cell (((((A4.out.set 0 _).set 1 _).set 0 _).set 1 _).set 2 _) 1) (Blk.cell (((((A4.out.set 0 _).set 1 _).set 0 _).set 1 _).set 2 _) 2)
 ·repeat' (refine Buf.far ?_ np1 nc1 _)
  exact HB4.out
 ·repeat' (refine Keep.setCell ?_ (p := ⟨w.heap.size + 1, _, none⟩) (.inr (by simp)) _)
  exact k4
theorem word_back (bs : List Int) (k a : Nat) (y : Int) (h : IsB bs) (hl : bs.length = 8 * k) (ha : a / 8 < k) (hm : a % 8 = 0) (h0 : 0 ≤ y) (h1 : y ≤ 18446744073709551615) :
  (wds bs k).set (a / 8) y = wds (spl bs a (leB y 8)) k := by
 have e := sw_bytes h hl a 8 y h0 h1 (by omega) ha
 rw [← e]
 congr 1
 rw [wds_at _ _ _ ha, hm, swV_word ((h.drop _).take 8) (block8 hl _ ha) 0 8 y h0 h1 (by omega)]
 simp only [List.take_zero, List.nil_append]
 rw [List.drop_eq_nil_of_le (by rw [block8 hl _ ha]; omega), List.append_nil, leN_leB]
 have e8 : (256 : Int) ^ 8 = 18446744073709551616 := by decide
 omega
theorem rd8 (bs : List Int) (k a : Nat) (ha : a / 8 < k) (hm : a % 8 = 0) : gB (wds bs k) (a / 8) = rdN bs a 8 := by
 rw [wds_at _ _ _ ha, show 8 * (a / 8) = a by omega]
 rfl
theorem add_bytes (m : Nat) (v : Int) (w : World) (h : Buf w p c cnt bs) (hm : m % 8 = 0) (hl : m < bs.length) :
  Calls Tryz.prog 152 #[.pointer (some ⟨c, m / 8, none⟩), .int .u64 v] w fun e w' => e = .returned (.int .u64 ((rdN bs m 8 + v) % 18446744073709551616)) ∧ Buf w' p c cnt (spl bs m (leB ((rdN bs m 8 + v) % 18446744073709551616) 8)) ∧ Keep (· = c) w w' := by
 have hk : m / 8 < bs.length / 8 := by have := h.len; omega
 have hsl : (spl bs m (leB ((rdN bs m 8 + v) % 18446744073709551616) 8)).length = bs.length := spl_len _ _ _ (by have := h.len; rw [leB_length]; omega)
 have := add64_any c (m / 8) (gB (wds bs (bs.length / 8)) (m / 8)) v w (h.wd.cell _ (by rw [wds_len]; exact hk)) (h.wd.frozen _)
 rw [rd8 _ _ _ hk hm, IntKind.wrap_u64] at this
 refine this.mono ?_
 rintro e w' ⟨rfl, rfl⟩
 have hset := h.wd.set (m / 8) ((rdN bs m 8 + v) % 18446744073709551616)
 rw [word_back _ _ _ _ h.is h.len hk hm (by omega) (by omega)] at hset
 refine ⟨rfl, ⟨?_, ?_, ?_, spl_is h.is (leB_is _ _), h.ne, ?_⟩, Keep.setCell (M := (· = c)) (Keep.refl _ w) (p := ⟨c, m / 8, none⟩) (.inl rfl) _⟩
 ·rw [hsl]
  exact h.hd.far h.ne _
 ·rw [hsl]
  exact hset
 ·rw [hsl]
  exact h.len
 ·rw [hsl]
  exact h.le
set_option maxHeartbeats 2000000 in
theorem mDo_add (p c : Nat) (cnt : Int) (bs : List Int) (a n : Nat) (v x : Int) (s0 : Option Addr) (sl sc : Nat) (w : World) (h : Buf w p c cnt bs) (hc0 : 0 ≤ cnt) (hc1 : cnt ≤ 4611686018427387904) (he : acE bs.length 3 a n sl = 0) (hv0 : 0 ≤ v) (hv1 : v ≤ 18446744073709551615) :
  Calls Tryz.prog 122 #[.pointer (some ⟨p, 0, none⟩), .agg #[.int .i64 3, .int .i64 (a : Int), .int .i64 (n : Int), .int .u64 v, .int .u64 x, .slice s0 sl sc]] w fun e w' => e = .returned (.tuple #[anV (rdN bs a 8) false (.slice none 0 0), .int .i64 0]) ∧ Buf w' p c (cnt + 1) (spl bs a (leB ((rdN bs a 8 + v) % 18446744073709551616) 8)) ∧ Keep (fun k => k = p ∨ k = c) w w' := by
 have hok := acE_ok he (by omega)
 have HE := Lib.hid he
 clear he
 have hn8 : n = 8 := by
  have := hok.1
  simp [acSized] at this
  omega
 subst hn8
 have hal : a % 8 = 0 ∧ a < bs.length ∧ a < 8 * (bs.length / 8) := by
  have h7 := hok.2.2.2.2.2.2 (by omega)
  have h8 := h.len
  omega
 have hbd := word_bd h.is (a / 8)
 have hrd : rdN bs a 8 = leN ((bs.drop (8 * (a / 8))).take 8) := by rw [show 8 * (a / 8) = a by omega]; rfl
 rw [← hrd] at hbd
 obtain ⟨y, hy⟩ : ∃ y, y = (rdN bs a 8 + v) % 18446744073709551616 := ⟨_, rfl⟩
 have HX := Lib.hid (show IntKind.u64.wrap (y - v) = rdN bs a 8 by rw [IntKind.wrap_u64, hy]; omega)
 rw [← hy]
 have HY := Lib.hid hy
 clear hy hrd
 have HE8 := Lib.hid (show acE bs.length 3 a 8 sl = 0 from HE.out)
 have H := Lib.hid h
 have hpl := h.hd.lt
 have hcl := h.wd.lt
 have hle := h.le
 have hne := h.ne
 have HL := Lib.hid h.len
 clear h
 go_enter Tryz.func122, Tryz.ntmps122
 go_wp2_with fail
 go_region_held3 (fun w' => w'.cell? ⟨w.heap.size, 0, none⟩ = some (.int .i64 3) ∧ w'.cell? ⟨w.heap.size, 1, none⟩ = some (.int .i64 a) ∧ w'.cell? ⟨w.heap.size, 2, none⟩ = some (.int .i64 8) ∧ w'.cell? ⟨w.heap.size, 3, none⟩ = some (.int .u64 v) ∧ w'.cell? ⟨w.heap.size, 4, none⟩ = some (.int .u64 x) ∧ w'.cell? ⟨w.heap.size, 5, none⟩ = some (.slice s0 sl sc)) (go_keep)
  (first
   | (go_at_call 146; refine (mSize_any p c cnt bs _ ((H.out.alloc _).alloc _).drew).mono ?_; rintro e w' ⟨rfl, rfl⟩)
   | (go_at_call 145; refine (mCheck_any _ _ _ _ _ _ _ _ _ _ (by omega) (by omega)).mono ?_; rintro e w1 ⟨rfl, b1⟩; have hc1 := fun o => b1.cell (p := ⟨w.heap.size, o, none⟩) (by simp <;> omega)))
 clear hc1
 have D1 : Below (w.heap.size + 2) ((w.alloc _).alloc _) w1 := ((Below.refl _ _).drew).trans (b1.mono (by simp))
 obtain ⟨f0, g0, i0⟩ := two_cellsD D1 0
 obtain ⟨f1, g1, i1⟩ := two_cellsD D1 1
 obtain ⟨f2, g2, i2⟩ := two_cellsD D1 2
 have A1 := Lib.hid (show Blk w1 (w.heap.size + 1) [.int .u64 0, .bool false, .slice none 0 0] from Blk.below (Blk.made1 w _ #[.int .u64 0, .bool false, .slice none 0 0] 74) D1 (by simp))
 obtain ⟨f3, _, _⟩ := two_cellsD D1 3
 obtain ⟨f4, _, _⟩ := two_cellsD D1 4
 obtain ⟨f5, _, _⟩ := two_cellsD D1 5
 simp only [List.getElem?_toArray, List.getElem?_cons_zero, List.getElem?_cons_succ] at f0 f1 f2 f3 f4 f5 g0 g1 g2
 have z1 : w.heap.size + 2 ≤ w1.heap.size := by
  have := D1.size
  simpa using this
 have B1 : Below w.heap.size w w1 := Below.trans (by go_grown) (D1.mono (by omega))
 have HB := Lib.hid (H.out.belows B1)
 have k1 : Keep (fun k => k = p ∨ k = c) w w1 := Below.keeps B1
 have y0 : w.heap.size < w1.heap.size := by omega
 have y1 : w.heap.size + 1 < w1.heap.size := by omega
 have np : ¬ p = w.heap.size := by omega
 have np1 : ¬ p = w.heap.size + 1 := by omega
 have nc : ¬ c = w.heap.size := by omega
 have nc1 : ¬ c = w.heap.size + 1 := by omega
 clear b1 D1
 rw [HE8.out]
 have pc := HB.out.hd.cell 1
 simp only [List.getElem?_cons_zero, List.getElem?_cons_succ] at pc
 have pf := HB.out.hd.frozen 1
 go_wp2_with fail
 refine (addCnt p cnt _ (by go_simp) (by go_simp) hc0 hc1).mono ?_
 rintro e w2 ⟨rfl, rfl⟩
 have HB2 := Lib.hid (HB.out.count (cnt + 1))
 clear pc pf
 go_wp2_with fail
 refine (at_of a 8 _ _ _ HB2.out.hd rfl rfl hal.2.2 (by omega) (by omega)).mono ?_
 rintro e w3 ⟨rfl, b3⟩
 have z3 := b3.size
 have z3' : w1.heap.size ≤ w3.heap.size := by simpa [World.setCell] using z3
 have HB3 := Lib.hid (HB2.out.belows b3)
 have c3 := fun o => b3.cell (p := ⟨w.heap.size, o, none⟩) (by simp [World.setCell]; omega)
 have d3 := fun o => b3.cell (p := ⟨w.heap.size + 1, o, none⟩) (by simp [World.setCell]; omega)
 have e3 := fun o => b3.frozen (p := ⟨w.heap.size + 1, o, none⟩) (by simp [World.setCell]; omega)
 have y3 : w.heap.size < w3.heap.size := by omega
 have y3' : w.heap.size + 1 < w3.heap.size := by omega
 have n3 : ¬ w3.heap.size = w.heap.size + 1 := by omega
 have n3' : ¬ w.heap.size + 1 = w3.heap.size := by omega
 go_wp2
 go_region_held3 (fun w' => w'.cell? ⟨w3.heap.size, 0, none⟩ = some (.pointer (some ⟨c, a / 8, none⟩)) ∧ w'.cell? ⟨w.heap.size, 3, none⟩ = some (.int .u64 v)) (go_keep)
  ((go_at_call 152; refine (add_bytes a v _ ((HB3.out.alloc _).drew) hal.1 hal.2.1).mono ?_; rintro e w4 ⟨rfl, h4b, h4⟩; rw [← HY.out] at h4b ⊢; have z4 := h4.size; simp at z4; have d4 := fun o => h4.cell (b := w.heap.size + 1) o (by simp; omega) (fun e => nc1 e.symm); have e4 := fun o => h4.frozen (b := w.heap.size + 1) o (by simp; omega) (fun e => nc1 e.symm); have c4 := fun o => h4.cell (b := w.heap.size) o (by simp; omega) (fun e => nc e.symm); have a4 := fun o => h4.cell (b := w3.heap.size) o (by simp) (by show ¬ w3.heap.size = c; omega)))
 rw [HX.out]
 have HB4 := Lib.hid h4b
 have q4_0 : w4.cell? ⟨w.heap.size + 1, 0, none⟩ = some (.int .u64 0) := (d4 0).trans (by go_simp)
 have q4_1 : w4.cell? ⟨w.heap.size + 1, 1, none⟩ = some (.bool false) := (d4 1).trans (by go_simp)
 have q4_2 : w4.cell? ⟨w.heap.size + 1, 2, none⟩ = some (.slice none 0 0) := (d4 2).trans (by go_simp)
 have u4_0 : w4.frozen? ⟨w.heap.size + 1, 0, none⟩ = false := (e4 0).trans (by go_simp)
 have u4_1 : w4.frozen? ⟨w.heap.size + 1, 1, none⟩ = false := (e4 1).trans (by go_simp)
 have u4_2 : w4.frozen? ⟨w.heap.size + 1, 2, none⟩ = false := (e4 2).trans (by go_simp)
 have f4_0 : w4.cell? ⟨w.heap.size, 0, none⟩ = some (.int .i64 3) := (c4 0).trans (by go_simp)
 clear d4 e4 c4 d3 e3 c3 a4
 have A4 := Lib.hid ((((A1.out.far (fun e => np1 e.symm) _).below b3 (by simp [World.setCell]; omega)).alloc _).drew.keep h4 (fun e => nc1 e.symm))
 have k4 : Keep (fun k => k = p ∨ k = c) w w4 := ((((k1.setCell (p := ⟨p, 1, none⟩) (.inl (.inl rfl)) _).trans (Below.keeps b3)).alloc _).drew.trans (h4.mono fun _ _ e => .inr e))
 go_wp2
 refine bodyPost_ret (v := .tuple #[anV (rdN bs a 8) false (.slice none 0 0), .int .i64 0]) ?_ rfl ⟨rfl, ?_, ?_⟩
 ·exact res_answer rfl rfl rfl (Blk.cell (((((A4.out.set 0 _).set 0 _).set 1 _).set 2 _)) 0) (Blk.cell (((((A4.out.set 0 _).set 0 _).set 1 _).set 2 _)) 1) (Blk.cell (((((A4.out.set 0 _).set 0 _).set 1 _).set 2 _)) 2)
 ·repeat' (refine Buf.far ?_ np1 nc1 _)
  exact HB4.out
 ·repeat' (refine Keep.setCell ?_ (p := ⟨w.heap.size + 1, _, none⟩) (.inr (by simp)) _)
  exact k4
end Go.Proofs.YtggjhleomocojaaGreat
end
