/- Contracts of (*membuf.Buffer).Do: Add, Read; a nil buffer. Conditions: as each says. -/
import Derived.Test.YtpicplkbblmbeaaGreatBe
namespace Go.Proofs.YtpicplkbblmbeaaGreat
set_option maxRecDepth 100000
open Go.RowKit
set_option linter.unusedVariables false
set_option linter.unusedSimpArgs false
theorem word_back (bs : List Int) (k a : Nat) (y : Int) (h : IsB bs) (hl : bs.length = 8 * k) (ha : a / 8 < k) (hm : a % 8 = 0) (h0 : 0 ≤ y) (h1 : y ≤ 18446744073709551615) :
    (wds bs k).set (a / 8) y = wds (spl bs a (leB y 8)) k := by
  have e := sw_bytes h hl a 8 y h0 h1 (by omega) ha
  rw [← e]
  congr 1
  rw [wds_at _ _ _ ha, hm, swV_word ((h.drop _).take 8) (block8 hl _ ha) 0 8 y h0 h1 (by omega)]
  simp only [List.take_zero, List.nil_append]
  rw [List.drop_eq_nil_of_le (by rw [block8 hl _ ha]; omega), List.append_nil, leN_leB]
  have e8 : (256 : Int) ^ 8 = 18446744073709551616 := by decide
  omega
theorem rd8 (bs : List Int) (k a : Nat) (ha : a / 8 < k) (hm : a % 8 = 0) : gB (wds bs k) (a / 8) = rdN bs a 8 := by
  rw [wds_at _ _ _ ha, show 8 * (a / 8) = a by omega]
  rfl
/-- atomic's Add on a word, in bytes. -/
theorem add_bytes {p c : Nat} {cnt : Int} {bs : List Int} (m : Nat) (v : Int) (w : World) (h : Buf w p c cnt bs) (hm : m % 8 = 0) (hl : m < bs.length) :
    Calls Tryz.prog 63 #[.pointer (some ⟨c, m / 8, none⟩), .int .u64 v] w fun e w' => e = .returned (.int .u64 ((rdN bs m 8 + v) % 18446744073709551616)) ∧ Buf w' p c cnt (spl bs m (leB ((rdN bs m 8 + v) % 18446744073709551616) 8)) ∧ Keep (· = c) w w' := by
  have hk : m / 8 < bs.length / 8 := by have := h.len; omega
  have hsl : (spl bs m (leB ((rdN bs m 8 + v) % 18446744073709551616) 8)).length = bs.length := spl_len _ _ _ (by have := h.len; rw [leB_length]; omega)
  have := add64_any c (m / 8) (gB (wds bs (bs.length / 8)) (m / 8)) v w (h.wd.cell _ (by rw [wds_len]; exact hk)) (h.wd.frozen _)
  rw [rd8 _ _ _ hk hm, IntKind.wrap_u64] at this
  refine this.mono ?_
  rintro e w' ⟨rfl, rfl⟩
  have hset := h.wd.set (m / 8) ((rdN bs m 8 + v) % 18446744073709551616)
  rw [word_back _ _ _ _ h.is h.len hk hm (by omega) (by omega)] at hset
  refine ⟨rfl, ⟨?_, ?_, ?_, spl_is h.is (leB_is _ _), h.ne, ?_⟩, Keep.setCell (M := (· = c)) (Keep.refl _ w) (p := ⟨c, m / 8, none⟩) (.inl rfl) _⟩
  · rw [hsl]
    exact h.hd.far h.ne _
  · rw [hsl]
    exact hset
  · rw [hsl]
    exact h.len
  · rw [hsl]
    exact h.le
set_option maxHeartbeats 2000000 in
theorem mDo_add (p c : Nat) (cnt : Int) (bs : List Int) (a n : Nat) (v x : Int) (s0 : Option Addr) (sl sc : Nat) (w : World) (h : Buf w p c cnt bs) (hc0 : 0 ≤ cnt) (hc1 : cnt ≤ 4611686018427387904) (he : acE bs.length 3 a n sl = 0) (hv0 : 0 ≤ v) (hv1 : v ≤ 18446744073709551615) :
    Calls Tryz.prog 12 #[.pointer (some ⟨p, 0, none⟩), .agg #[.int .i64 3, .int .i64 (a : Int), .int .i64 (n : Int), .int .u64 v, .int .u64 x, .slice s0 sl sc]] w fun e w' => e = .returned (.tuple #[anV (rdN bs a 8) false (.slice none 0 0), .int .i64 0]) ∧ Buf w' p c (cnt + 1) (spl bs a (leB ((rdN bs a 8 + v) % 18446744073709551616) 8)) ∧ Keep (fun k => k = p ∨ k = c) w w' := by
  have hok := acE_ok he (by omega)
  have HE := Lib.hid he
  clear he
  have hn8 : n = 8 := by
    have := hok.1
    simp [acSized] at this
    omega
  subst hn8
  have hal : a % 8 = 0 ∧ a < bs.length ∧ a < 8 * (bs.length / 8) := by
    have h7 := hok.2.2.2.2.2.2 (by omega)
    have h8 := h.len
    omega
  have hbd := word_bd h.is (a / 8)
  have hrd : rdN bs a 8 = leN ((bs.drop (8 * (a / 8))).take 8) := by rw [show 8 * (a / 8) = a by omega]; rfl
  rw [← hrd] at hbd
  obtain ⟨y, hy⟩ : ∃ y, y = (rdN bs a 8 + v) % 18446744073709551616 := ⟨_, rfl⟩
  have HX := Lib.hid (show IntKind.u64.wrap (y - v) = rdN bs a 8 by rw [IntKind.wrap_u64, hy]; omega)
  rw [← hy]
  have HY := Lib.hid hy
  clear hy hrd
  have HE8 := Lib.hid (show acE bs.length 3 a 8 sl = 0 from HE.out)
  have H := Lib.hid h
  have hpl := h.hd.lt
  have hcl := h.wd.lt
  have hle := h.le
  have hne := h.ne
  have HL := Lib.hid h.len
  clear h
  go_enter Tryz.func12, Tryz.ntmps12
  go_wp2_with fail
  go_region_held3 (fun w' => w'.cell? ⟨w.heap.size, 0, none⟩ = some (.int .i64 3) ∧ w'.cell? ⟨w.heap.size, 1, none⟩ = some (.int .i64 a) ∧ w'.cell? ⟨w.heap.size, 2, none⟩ = some (.int .i64 8) ∧ w'.cell? ⟨w.heap.size, 3, none⟩ = some (.int .u64 v) ∧ w'.cell? ⟨w.heap.size, 4, none⟩ = some (.int .u64 x) ∧ w'.cell? ⟨w.heap.size, 5, none⟩ = some (.slice s0 sl sc)) (go_keep)
    (first
      | (go_at_call 57; refine (mSize_any p c cnt bs _ ((H.out.alloc _).alloc _).drew).mono ?_; rintro e w' ⟨rfl, rfl⟩)
      | (go_at_call 56; refine (mCheck_any _ _ _ _ _ _ _ _ _ _ (by omega) (by omega)).mono ?_; rintro e w1 ⟨rfl, b1⟩; have hc1 := fun o => b1.cell (p := ⟨w.heap.size, o, none⟩) (by simp <;> omega)))
  clear hc1
  have D1 : Below (w.heap.size + 2) ((w.alloc _).alloc _) w1 := ((Below.refl _ _).drew).trans (b1.mono (by simp))
  obtain ⟨f0, g0, i0⟩ := two_cellsD D1 0
  obtain ⟨f1, g1, i1⟩ := two_cellsD D1 1
  obtain ⟨f2, g2, i2⟩ := two_cellsD D1 2
  have A1 := Lib.hid (show Blk w1 (w.heap.size + 1) [.int .u64 0, .bool false, .slice none 0 0] from Blk.below (Blk.made1 w _ #[.int .u64 0, .bool false, .slice none 0 0] 33) D1 (by simp))
  obtain ⟨f3, _, _⟩ := two_cellsD D1 3
  obtain ⟨f4, _, _⟩ := two_cellsD D1 4
  obtain ⟨f5, _, _⟩ := two_cellsD D1 5
  simp only [List.getElem?_toArray, List.getElem?_cons_zero, List.getElem?_cons_succ] at f0 f1 f2 f3 f4 f5 g0 g1 g2
  have z1 : w.heap.size + 2 ≤ w1.heap.size := by
    have := D1.size
    simpa using this
  have B1 : Below w.heap.size w w1 := Below.trans (by go_grown) (D1.mono (by omega))
  have HB := Lib.hid (H.out.belows B1)
  have k1 : Keep (fun k => k = p ∨ k = c) w w1 := Below.keeps B1
  have y0 : w.heap.size < w1.heap.size := by omega
  have y1 : w.heap.size + 1 < w1.heap.size := by omega
  have np : ¬ p = w.heap.size := by omega
  have np1 : ¬ p = w.heap.size + 1 := by omega
  have nc : ¬ c = w.heap.size := by omega
  have nc1 : ¬ c = w.heap.size + 1 := by omega
  clear b1 D1
  rw [HE8.out]
  have pc := HB.out.hd.cell 1
  simp only [List.getElem?_cons_zero, List.getElem?_cons_succ] at pc
  have pf := HB.out.hd.frozen 1
  go_wp2_with fail
  refine (addCnt p cnt _ (by go_simp) (by go_simp) hc0 hc1).mono ?_
  rintro e w2 ⟨rfl, rfl⟩
  have HB2 := Lib.hid (HB.out.count (cnt + 1))
  clear pc pf
  go_wp2_with fail
  refine (at_of a 8 _ _ _ HB2.out.hd rfl rfl hal.2.2 (by omega) (by omega)).mono ?_
  rintro e w3 ⟨rfl, b3⟩
  have z3 := b3.size
  have z3' : w1.heap.size ≤ w3.heap.size := by simpa [World.setCell] using z3
  have HB3 := Lib.hid (HB2.out.belows b3)
  have c3 := fun o => b3.cell (p := ⟨w.heap.size, o, none⟩) (by simp [World.setCell]; omega)
  have d3 := fun o => b3.cell (p := ⟨w.heap.size + 1, o, none⟩) (by simp [World.setCell]; omega)
  have e3 := fun o => b3.frozen (p := ⟨w.heap.size + 1, o, none⟩) (by simp [World.setCell]; omega)
  have y3 : w.heap.size < w3.heap.size := by omega
  have y3' : w.heap.size + 1 < w3.heap.size := by omega
  have n3 : ¬ w3.heap.size = w.heap.size + 1 := by omega
  have n3' : ¬ w.heap.size + 1 = w3.heap.size := by omega
  go_wp2
  go_region_held3 (fun w' => w'.cell? ⟨w3.heap.size, 0, none⟩ = some (.pointer (some ⟨c, a / 8, none⟩)) ∧ w'.cell? ⟨w.heap.size, 3, none⟩ = some (.int .u64 v)) (go_keep)
    ((go_at_call 63; refine (add_bytes a v _ ((HB3.out.alloc _).drew) hal.1 hal.2.1).mono ?_; rintro e w4 ⟨rfl, h4b, h4⟩; rw [← HY.out] at h4b ⊢; have z4 := h4.size; simp at z4; have d4 := fun o => h4.cell (b := w.heap.size + 1) o (by simp; omega) (fun e => nc1 e.symm); have e4 := fun o => h4.frozen (b := w.heap.size + 1) o (by simp; omega) (fun e => nc1 e.symm); have c4 := fun o => h4.cell (b := w.heap.size) o (by simp; omega) (fun e => nc e.symm); have a4 := fun o => h4.cell (b := w3.heap.size) o (by simp) (by show ¬ w3.heap.size = c; omega)))
  rw [HX.out]
  have HB4 := Lib.hid h4b
  have q4_0 : w4.cell? ⟨w.heap.size + 1, 0, none⟩ = some (.int .u64 0) := (d4 0).trans (by go_simp)
  have q4_1 : w4.cell? ⟨w.heap.size + 1, 1, none⟩ = some (.bool false) := (d4 1).trans (by go_simp)
  have q4_2 : w4.cell? ⟨w.heap.size + 1, 2, none⟩ = some (.slice none 0 0) := (d4 2).trans (by go_simp)
  have u4_0 : w4.frozen? ⟨w.heap.size + 1, 0, none⟩ = false := (e4 0).trans (by go_simp)
  have u4_1 : w4.frozen? ⟨w.heap.size + 1, 1, none⟩ = false := (e4 1).trans (by go_simp)
  have u4_2 : w4.frozen? ⟨w.heap.size + 1, 2, none⟩ = false := (e4 2).trans (by go_simp)
  have f4_0 : w4.cell? ⟨w.heap.size, 0, none⟩ = some (.int .i64 3) := (c4 0).trans (by go_simp)
  clear d4 e4 c4 d3 e3 c3 a4
  have A4 := Lib.hid ((((A1.out.far (fun e => np1 e.symm) _).below b3 (by simp [World.setCell]; omega)).alloc _).drew.keep h4 (fun e => nc1 e.symm))
  have k4 : Keep (fun k => k = p ∨ k = c) w w4 := ((((k1.setCell (p := ⟨p, 1, none⟩) (.inl (.inl rfl)) _).trans (Below.keeps b3)).alloc _).drew.trans (h4.mono fun _ _ e => .inr e))
  go_wp2
  refine bodyPost_ret (v := .tuple #[anV (rdN bs a 8) false (.slice none 0 0), .int .i64 0]) ?_ rfl ⟨rfl, ?_, ?_⟩
  · exact res_answer rfl rfl rfl (Blk.cell (((((A4.out.set 0 _).set 0 _).set 1 _).set 2 _)) 0) (Blk.cell (((((A4.out.set 0 _).set 0 _).set 1 _).set 2 _)) 1) (Blk.cell (((((A4.out.set 0 _).set 0 _).set 1 _).set 2 _)) 2)
  · repeat' (refine Buf.far ?_ np1 nc1 _)
    exact HB4.out
  · repeat' (refine Keep.setCell ?_ (p := ⟨w.heap.size + 1, _, none⟩) (.inr (by simp)) _)
    exact k4
end Go.Proofs.YtpicplkbblmbeaaGreat
