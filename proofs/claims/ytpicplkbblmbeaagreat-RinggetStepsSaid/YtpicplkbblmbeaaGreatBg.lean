/- Contracts of (*membuf.Buffer).Do: Read; a nil buffer; of Bytes. Conditions: as each says. -/
import Derived.Test.YtpicplkbblmbeaaGreatBe
import Derived.Test.YtpicplkbblmbeaaGreatAp
import Derived.Test.YtpicplkbblmbeaaGreatWb
namespace Go.Proofs.YtpicplkbblmbeaaGreat
set_option maxRecDepth 100000
open Go.RowKit
set_option linter.unusedVariables false
set_option linter.unusedSimpArgs false
theorem OwB.isSliceB {B : Nat} {w : World} {v : Value} {l : List Int} (h : OwB 5 B w v l) : ∃ a n c, v = .slice a n c := by
  rcases h.2 with ⟨rfl, _⟩ | ⟨g, cap, cur, rfl, _⟩
  · exact ⟨_, _, _, rfl⟩
  · exact ⟨_, _, _, rfl⟩
theorem OwB.far {B : Nat} {w : World} {v : Value} {l : List Int} (h : OwB 5 B w v l) {a : Addr} (ha : a.block < B) (x : Value) : OwB 5 B (w.setCell a x) v l := ownsRow_setCell_below h ha x
set_option maxHeartbeats 2000000 in
theorem mDo_read (p c : Nat) (cnt : Int) (bs : List Int) (a n : Nat) (v x : Int) (s0 : Option Addr) (sl sc : Nat) (w : World) (h : Buf w p c cnt bs) (hc0 : 0 ≤ cnt) (hc1 : cnt ≤ 4611686018427387904) (he : acE bs.length 5 a n sl = 0) :
    Calls Tryz.prog 12 #[.pointer (some ⟨p, 0, none⟩), .agg #[.int .i64 5, .int .i64 (a : Int), .int .i64 (n : Int), .int .u64 v, .int .u64 x, .slice s0 sl sc]] w fun e w' => ∃ s, e = .returned (.tuple #[anV 0 false s, .int .i64 0]) ∧ OwB 5 w.heap.size w' s ((bs.drop a).take n) ∧ Buf w' p c (cnt + 1) bs ∧ Keep (fun k => k = p ∨ k = c) w w' := by
  have hok := acE_ok he (by omega)
  have HE := Lib.hid he
  clear he
  have hal : n ≤ 8 ∧ a + n ≤ bs.length := by omega
  have H := Lib.hid h
  have hpl := h.hd.lt
  have hcl := h.wd.lt
  have hle := h.le
  have hne := h.ne
  have HL := Lib.hid h.len
  clear h
  go_enter Tryz.func12, Tryz.ntmps12
  go_wp2_with fail
  go_region_held3 (fun w' => w'.cell? ⟨w.heap.size, 0, none⟩ = some (.int .i64 5) ∧ w'.cell? ⟨w.heap.size, 1, none⟩ = some (.int .i64 a) ∧ w'.cell? ⟨w.heap.size, 2, none⟩ = some (.int .i64 n) ∧ w'.cell? ⟨w.heap.size, 3, none⟩ = some (.int .u64 v) ∧ w'.cell? ⟨w.heap.size, 4, none⟩ = some (.int .u64 x) ∧ w'.cell? ⟨w.heap.size, 5, none⟩ = some (.slice s0 sl sc)) (go_keep)
    (first
      | (go_at_call 57; refine (mSize_any p c cnt bs _ ((H.out.alloc _).alloc _).drew).mono ?_; rintro e w' ⟨rfl, rfl⟩)
      | (go_at_call 56; refine (mCheck_any _ _ _ _ _ _ _ _ _ _ (by omega) (by omega)).mono ?_; rintro e w1 ⟨rfl, b1⟩; have hc1 := fun o => b1.cell (p := ⟨w.heap.size, o, none⟩) (by simp <;> omega)))
  clear hc1
  have D1 : Below (w.heap.size + 2) ((w.alloc _).alloc _) w1 := ((Below.refl _ _).drew).trans (b1.mono (by simp))
  obtain ⟨f0, g0, i0⟩ := two_cellsD D1 0
  obtain ⟨f1, g1, i1⟩ := two_cellsD D1 1
  obtain ⟨f2, g2, i2⟩ := two_cellsD D1 2
  have A1 := Lib.hid (show Blk w1 (w.heap.size + 1) [.int .u64 0, .bool false, .slice none 0 0] from Blk.below (Blk.made1 w _ #[.int .u64 0, .bool false, .slice none 0 0] 33) D1 (by simp))
  obtain ⟨f3, _, _⟩ := two_cellsD D1 3
  obtain ⟨f4, _, _⟩ := two_cellsD D1 4
  obtain ⟨f5, _, _⟩ := two_cellsD D1 5
  simp only [List.getElem?_toArray, List.getElem?_cons_zero, List.getElem?_cons_succ] at f0 f1 f2 f3 f4 f5 g0 g1 g2
  have z1 : w.heap.size + 2 ≤ w1.heap.size := by
    have := D1.size
    simpa using this
  have B1 : Below w.heap.size w w1 := Below.trans (by go_grown) (D1.mono (by omega))
  have HB := Lib.hid (H.out.belows B1)
  have k1 : Keep (fun k => k = p ∨ k = c) w w1 := Below.keeps B1
  have y0 : w.heap.size < w1.heap.size := by omega
  have y1 : w.heap.size + 1 < w1.heap.size := by omega
  have np : ¬ p = w.heap.size := by omega
  have np1 : ¬ p = w.heap.size + 1 := by omega
  have nc : ¬ c = w.heap.size := by omega
  have nc1 : ¬ c = w.heap.size + 1 := by omega
  clear b1 D1
  rw [HE.out]
  have pc := HB.out.hd.cell 1
  simp only [List.getElem?_cons_zero, List.getElem?_cons_succ] at pc
  have pf := HB.out.hd.frozen 1
  go_wp2_with fail
  refine (addCnt p cnt _ (by go_simp) (by go_simp) hc0 hc1).mono ?_
  rintro e w2 ⟨rfl, rfl⟩
  have HB2 := Lib.hid (HB.out.count (cnt + 1))
  clear pc pf
  go_wp2_with fail
  refine (mbytes_any p c (cnt + 1) bs a n _ HB2.out hal.1 hal.2).mono ?_
  rintro e w3 ⟨s, rfl, o3, b3⟩
  obtain ⟨x3, n3, c3', rfl⟩ := o3.isSliceB
  have z3 := b3.size
  have z3' : w1.heap.size ≤ w3.heap.size := by simpa [World.setCell] using z3
  have HB3 := Lib.hid (HB2.out.belows b3)
  have O3 := Lib.hid (OwB.mono o3 (show w.heap.size + 2 ≤ _ by simp [World.setCell]; omega))
  clear o3
  have d3 := fun o => b3.cell (p := ⟨w.heap.size + 1, o, none⟩) (by simp [World.setCell]; omega)
  have e3 := fun o => b3.frozen (p := ⟨w.heap.size + 1, o, none⟩) (by simp [World.setCell]; omega)
  have y3 : w.heap.size < w3.heap.size := by omega
  have y3' : w.heap.size + 1 < w3.heap.size := by omega
  have q3_0 : w3.cell? ⟨w.heap.size + 1, 0, none⟩ = some (.int .u64 0) := (d3 0).trans (by go_simp)
  have q3_1 : w3.cell? ⟨w.heap.size + 1, 1, none⟩ = some (.bool false) := (d3 1).trans (by go_simp)
  have q3_2 : w3.cell? ⟨w.heap.size + 1, 2, none⟩ = some (.slice none 0 0) := (d3 2).trans (by go_simp)
  have u3_0 : w3.frozen? ⟨w.heap.size + 1, 0, none⟩ = false := (e3 0).trans (by go_simp)
  have u3_1 : w3.frozen? ⟨w.heap.size + 1, 1, none⟩ = false := (e3 1).trans (by go_simp)
  have u3_2 : w3.frozen? ⟨w.heap.size + 1, 2, none⟩ = false := (e3 2).trans (by go_simp)
  clear d3 e3
  have A3 := Lib.hid ((A1.out.far (fun e => np1 e.symm) _).below b3 (by simp [World.setCell]; omega))
  have k3 : Keep (fun k => k = p ∨ k = c) w w3 := ((k1.setCell (p := ⟨p, 1, none⟩) (.inl (.inl rfl)) _).trans (Below.keeps b3))
  go_wp2
  refine bodyPost_ret (v := .tuple #[anV 0 false (.slice x3 n3 c3'), .int .i64 0]) ?_ rfl ⟨_, rfl, ?_, ?_, ?_⟩
  · exact res_answer rfl rfl rfl (Blk.cell (((((A3.out.set 2 _).set 0 _).set 1 _).set 2 _)) 0) (Blk.cell (((((A3.out.set 2 _).set 0 _).set 1 _).set 2 _)) 1) (Blk.cell (((((A3.out.set 2 _).set 0 _).set 1 _).set 2 _)) 2)
  · refine OwB.mono (B := w.heap.size + 2) ?_ (by omega)
    repeat' (refine OwB.far ?_ (show w.heap.size + 1 < w.heap.size + 2 by omega) _)
    exact O3.out
  · repeat' (refine Buf.far ?_ np1 nc1 _)
    exact HB3.out
  · repeat' (refine Keep.setCell ?_ (p := ⟨w.heap.size + 1, _, none⟩) (.inr (by simp)) _)
    exact k3
set_option maxHeartbeats 2000000 in
theorem mDo_nil (k a n v x : Int) (s0 : Option Addr) (sl sc : Nat) (w : World) :
    Calls Tryz.prog 12 #[.pointer none, .agg #[.int .i64 k, .int .i64 a, .int .i64 n, .int .u64 v, .int .u64 x, .slice s0 sl sc]] w fun e w' => e = .returned (.tuple #[anV 0 false (.slice none 0 0), .int .i64 (if acE 0 k a n sl = 0 then 2 else acE 0 k a n sl)]) ∧ Below w.heap.size w w' := by
  obtain ⟨ev, hev⟩ : ∃ ev, ev = acE 0 k a n sl := ⟨_, rfl⟩
  rw [← hev]
  have HE := Lib.hid hev
  clear hev
  rcases hz : (ev != 0) with _ | _
  · have he : ev = 0 := by simpa using hz
    rw [if_pos he]
    clear he
    go_enter Tryz.func12, Tryz.ntmps12
    go_wp2_with fail
    go_region_held3 (fun w' => w'.cell? ⟨w.heap.size, 0, none⟩ = some (.int .i64 k) ∧ w'.cell? ⟨w.heap.size, 1, none⟩ = some (.int .i64 a) ∧ w'.cell? ⟨w.heap.size, 2, none⟩ = some (.int .i64 n) ∧ w'.cell? ⟨w.heap.size, 3, none⟩ = some (.int .u64 v) ∧ w'.cell? ⟨w.heap.size, 4, none⟩ = some (.int .u64 x) ∧ w'.cell? ⟨w.heap.size, 5, none⟩ = some (.slice s0 sl sc)) (go_keep)
      (first
        | (go_at_call 57; refine (mSize_nil _).mono ?_; rintro e w' ⟨rfl, rfl⟩)
        | (go_at_call 56; refine (mCheck_any _ _ _ _ _ _ _ _ _ _ (by omega) (by omega)).mono ?_; rintro e w1 ⟨rfl, b1⟩; have hc1 := fun o => b1.cell (p := ⟨w.heap.size, o, none⟩) (by simp <;> omega)))
    clear hc1
    have D1 : Below (w.heap.size + 2) ((w.alloc _).alloc _) w1 := ((Below.refl _ _).drew).trans (b1.mono (by simp))
    obtain ⟨_, g0, i0⟩ := two_cellsD D1 0
    obtain ⟨_, g1, i1⟩ := two_cellsD D1 1
    obtain ⟨_, g2, i2⟩ := two_cellsD D1 2
    simp only [List.getElem?_toArray, List.getElem?_cons_zero, List.getElem?_cons_succ] at g0 g1 g2
    have B1 : Below w.heap.size w w1 := Below.trans (by go_grown) (D1.mono (by omega))
    clear b1 D1
    rw [← HE.out]
    go_wp2
    refine bodyPost_ret (v := .tuple #[anV 0 false (.slice none 0 0), .int .i64 2]) ?_ rfl ⟨rfl, ?_⟩
    · rw [results_cell_tmp rfl]
      go_simp
      first | done | exact ⟨rfl, rfl⟩ | rfl
    · refine Below.setCell (Below.setCell (Below.setCell B1 ?_ _) ?_ _) ?_ _ <;> simp
  · have he : ¬ ev = 0 := by simpa using hz
    rw [if_neg he]
    clear he
    go_enter Tryz.func12, Tryz.ntmps12
    go_wp2_with fail
    go_region_held3 (fun w' => w'.cell? ⟨w.heap.size, 0, none⟩ = some (.int .i64 k) ∧ w'.cell? ⟨w.heap.size, 1, none⟩ = some (.int .i64 a) ∧ w'.cell? ⟨w.heap.size, 2, none⟩ = some (.int .i64 n) ∧ w'.cell? ⟨w.heap.size, 3, none⟩ = some (.int .u64 v) ∧ w'.cell? ⟨w.heap.size, 4, none⟩ = some (.int .u64 x) ∧ w'.cell? ⟨w.heap.size, 5, none⟩ = some (.slice s0 sl sc)) (go_keep)
      (first
        | (go_at_call 57; refine (mSize_nil _).mono ?_; rintro e w' ⟨rfl, rfl⟩)
        | (go_at_call 56; refine (mCheck_any _ _ _ _ _ _ _ _ _ _ (by omega) (by omega)).mono ?_; rintro e w1 ⟨rfl, b1⟩; have hc1 := fun o => b1.cell (p := ⟨w.heap.size, o, none⟩) (by simp <;> omega)))
    clear hc1
    have D1 : Below (w.heap.size + 2) ((w.alloc _).alloc _) w1 := ((Below.refl _ _).drew).trans (b1.mono (by simp))
    obtain ⟨_, g0, i0⟩ := two_cellsD D1 0
    obtain ⟨_, g1, i1⟩ := two_cellsD D1 1
    obtain ⟨_, g2, i2⟩ := two_cellsD D1 2
    simp only [List.getElem?_toArray, List.getElem?_cons_zero, List.getElem?_cons_succ] at g0 g1 g2
    have B1 : Below w.heap.size w w1 := Below.trans (by go_grown) (D1.mono (by omega))
    clear b1 D1
    rw [← HE.out]
    go_wp2
    refine bodyPost_ret (v := .tuple #[anV 0 false (.slice none 0 0), .int .i64 ev]) ?_ rfl ⟨rfl, ?_⟩
    · rw [results_cell_tmp rfl]
      go_simp
      first | done | exact ⟨rfl, rfl⟩ | rfl
    · refine Below.setCell (Below.setCell (Below.setCell B1 ?_ _) ?_ _) ?_ _ <;> simp
theorem mBytes_nil (w : World) : Calls Tryz.prog 19 #[.pointer none] w fun e w' => e = .returned (.slice none 0 0) ∧ w = w' := by
  go_enter Tryz.func19, Tryz.ntmps19
  go_wp2
  go_ret
  exact ⟨rfl, rfl⟩
theorem leB_word {bs : List Int} (h : IsB bs) (k i : Nat) (hl : bs.length = 8 * k) (hi : i < k) : leB (gB (wds bs k) i) 8 = (bs.drop (8 * i)).take 8 := by
  rw [wds_at _ _ _ hi]
  have l8 := block8 hl i hi
  have e : ∀ (l : List Int), IsB l → leB (leN l) l.length = l := by
    intro l
    induction l with
    | nil => intro _; rfl
    | cons b r ih =>
      intro h
      have hb := h b (by simp)
      have hr : IsB r := fun x hx => h x (by simp [hx])
      have h2 := (leN_lt r.length r (Nat.le_refl _) hr).1
      simp only [leN, List.length_cons, leB]
      rw [show (b + 256 * leN r) % 256 = b by omega, show (b + 256 * leN r) / 256 = leN r by omega, ih hr]
  have := e _ ((h.drop (8 * i)).take 8)
  rwa [l8] at this
set_option maxHeartbeats 1000000 in
theorem mBytes_any (p c : Nat) (cnt : Int) (bs : List Int) (w : World) (h : Buf w p c cnt bs) :
    Calls Tryz.prog 19 #[.pointer (some ⟨p, 0, none⟩)] w fun e w' => ∃ v, e = .returned v ∧ OwB 5 w.heap.size w' v bs ∧ Below w.heap.size w w' := by
  have hle := h.le
  have H := Lib.hid h
  have hpl := h.hd.lt
  have hcl := h.wd.lt
  have hc0 := h.hd.cell 0
  simp only [List.getElem?_cons_zero] at hc0
  obtain ⟨k, hk⟩ : ∃ k, k = bs.length / 8 := ⟨_, rfl⟩
  have hlen := h.len
  rw [← hk] at hlen hc0
  have hk' : k ≤ 16384 := by omega
  have HK := Lib.hid hk
  have HL := Lib.hid hlen
  clear h hk hlen
  go_enter Tryz.func19, Tryz.ntmps19
  go_wp2_with fail
  go_loopw [3, 4, 12] (fun v j i wr => ∃ m : Nat, m ≤ k ∧ i = .int .i64 m ∧ OwB 5 w.heap.size wr v (bs.take (8 * m)) ∧ Below w.heap.size w wr) (fun _ _ i _ => k - (intOf i).toNat)
  case atStart => exact ⟨0, by omega, rfl, OwB.nil _ _ _, Below.refl _ _⟩
  case round =>
    obtain ⟨m, hm, rfl, hown, hbel⟩ := hrel
    by_cases hlt : m < k
    · have hzl := hbel.size
      have HO := Lib.hid hown
      have hc0r := hbel.cell (p := ⟨p, 0, none⟩) hpl
      have HBr := Lib.hid (H.out.below hbel hpl hcl)
      have hcw := HBr.out.wd.cell m (by rw [wds_len, ← HK.out]; exact hlt)
      rw [← HK.out] at hcw
      have hbd := wds_bd H.out.is k m hlt
      clear hown
      go_wp2_with fail
      refine (load64_any c m (gB (wds bs k) m) _ hcw).mono ?_
      rintro e w' ⟨rfl, rfl⟩
      go_wp2_with fail
      refine (wBytes_any (gB (wds bs k) m) 8 _ hbd.1 hbd.2 (by decide)).mono ?_
      rintro e w2 ⟨v2, rfl, o2, b2⟩
      rw [leB_word H.out.is k m HL.out hlt] at o2
      have z2 := b2.size
      have B2 := hbel.trans (b2.mono hzl)
      have O2 := HO.out.below b2
      go_wp2_with (refine list_app rfl (.tmp 15) (.tmp 23) rfl w.heap.size _ v2 (bs.take (8 * m)) ((bs.drop (8 * m)).take 8) rfl O2 rfl o2.rd (by simp; omega) (by omega) ?_)
      intro v3 w3 p3
      have O3 := p3.1
      have D3 := p3.below B2 (by omega) O2.own_ge
      go_wp2
      refine ⟨⟨m + 1, by omega, by go_num, ?_, D3⟩, by simp [intOf]; omega⟩
      rw [show 8 * (m + 1) = 8 * m + 8 by omega, List.take_add]
      exact O3
    · go_wp2
      go_ret
      obtain rfl : m = k := by omega
      rw [List.take_of_length_le (by have := HL.out; omega)] at hown
      exact ⟨_, rfl, hown, hbel⟩
end Go.Proofs.YtpicplkbblmbeaaGreat
