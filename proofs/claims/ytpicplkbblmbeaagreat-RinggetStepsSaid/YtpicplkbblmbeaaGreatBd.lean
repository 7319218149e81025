/- A buffer in memory; contracts of membuf.New, Size, Count, bytes. Conditions: as each says. -/
import Derived.Test.YtpicplkbblmbeaaGreatBp
import Derived.Test.YtpicplkbblmbeaaGreatBc
namespace Go.Proofs.YtpicplkbblmbeaaGreat
set_option maxRecDepth 100000
open Go.RowKit
set_option linter.unusedVariables false
set_option linter.unusedSimpArgs false
/-- A buffer at block p, its words in block c: how many accesses there were, and its bytes. -/
structure Buf (w : World) (p c : Nat) (cnt : Int) (bs : List Int) : Prop where
  hd : Blk w p [.slice (some ⟨c, 0, none⟩) (bs.length / 8) (bs.length / 8), .int .i64 cnt]
  wd : WB w c (wds bs (bs.length / 8))
  len : bs.length = 8 * (bs.length / 8)
  is : IsB bs
  ne : p ≠ c
  le : bs.length ≤ 131072
theorem Buf.keep {M : Nat → Prop} {w w' : World} {p c : Nat} {cnt : Int} {bs : List Int} (h : Buf w p c cnt bs) (k : Keep M w w') (hp : ¬ M p) (hc : ¬ M c) : Buf w' p c cnt bs :=
  ⟨h.hd.keep k hp, h.wd.keep k hc, h.len, h.is, h.ne, h.le⟩
theorem Buf.below {B : Nat} {w w' : World} {p c : Nat} {cnt : Int} {bs : List Int} (h : Buf w p c cnt bs) (k : Below B w w') (hp : p < B) (hc : c < B) : Buf w' p c cnt bs :=
  ⟨h.hd.below k hp, h.wd.below k hc, h.len, h.is, h.ne, h.le⟩
theorem Buf.belows {w w' : World} {p c : Nat} {cnt : Int} {bs : List Int} (h : Buf w p c cnt bs) (k : Below w.heap.size w w') : Buf w' p c cnt bs := h.below k h.hd.lt h.wd.lt
set_option maxHeartbeats 400000 in
theorem mSize_any (p c : Nat) (cnt : Int) (bs : List Int) (w : World) (h : Buf w p c cnt bs) :
    Calls Tryz.prog 57 #[.pointer (some ⟨p, 0, none⟩)] w fun e w' => e = .returned (.int .i64 bs.length) ∧ w = w' := by
  have hc0 := h.hd.cell 0
  simp only [List.getElem?_cons_zero] at hc0
  have hle := h.le
  have hlen := Lib.hid h.len
  have h8 : bs.length / 8 ≤ 16384 := by omega
  obtain ⟨k, hk⟩ : ∃ k, k = bs.length / 8 := ⟨_, rfl⟩
  rw [← hk] at hc0 h8
  have HK := Lib.hid hk
  clear h hk hle
  go_enter Tryz.func57, Tryz.ntmps57
  go_wp2
  go_ret
  exact ⟨ret_int (by have := HK.out; have := hlen.out; omega), rfl⟩
theorem mSize_nil (w : World) : Calls Tryz.prog 57 #[.pointer none] w fun e w' => e = .returned (.int .i64 0) ∧ w = w' := by
  go_enter Tryz.func57, Tryz.ntmps57
  go_wp2
  go_ret
  exact ⟨rfl, rfl⟩
theorem u138info : (Tryz.prog.info? 151).map (fun i => (i.zero, i.size, i.bytes)) = some (some (.agg #[.int .u64 0]), 1, 8) := by kernel_rfl
theorem own_blk {w : World} {B E g n : Nat} {xs : List Value} (h : w.ownsRow B E 1 (.slice (some ⟨g, 0, none⟩) n n) n xs) : Blk w g xs ∧ B ≤ g := by
  rcases h.2 with ⟨h, _⟩ | ⟨g', cap, cur, e, hb, hg, hn, hc, hs, ht⟩
  · cases h
  · cases e
    refine ⟨⟨E, ?_⟩, hb⟩
    rw [hg, ← ht, List.take_of_length_le (by simp; omega)]
theorem leN_zeros (m : Nat) : leN (List.replicate m 0) = 0 := by
  induction m with
  | zero => rfl
  | succ m ih => simp [List.replicate_succ, leN, ih]
theorem wds_zeros (k : Nat) : wds (List.replicate (8 * k) 0) k = List.replicate k 0 := by
  apply List.ext_getElem
  · simp [wds]
  intro i h1 h2
  simp [wds, leN_zeros]
theorem made_zeros (k : Nat) : ((List.replicate k (0 : Int)).map (Value.int .u64)) = (madeCells #[Value.int .u64 0] (k * 1)).toList := by
  simp only [madeCells, List.map_replicate, Nat.mul_one]
  apply List.ext_getElem
  · simp
  · intro i h1 h2
    simp [Nat.mod_one]
theorem zeros_is (m : Nat) : IsB (List.replicate m 0) := by
  intro x hx
  obtain ⟨_, rfl⟩ := List.mem_replicate.1 hx
  omega
set_option maxHeartbeats 1000000 in
theorem mNew_bad (size : Int) (w : World) (h0 : -9223372036854775808 ≤ size) (h : size < 8 ∨ 131072 < size ∨ size.tmod 8 ≠ 0) :
    Calls Tryz.prog 11 #[.int .i64 size] w fun e w' => e = .returned (.tuple #[.pointer none, .int .i64 1]) ∧ w = w' := by
  by_cases h1 : size < 8
  · clear h
    go_enter Tryz.func11, Tryz.ntmps11
    go_wp2
    go_ret2
    exact ⟨rfl, rfl⟩
  by_cases h2 : 131072 < size
  · clear h
    go_enter Tryz.func11, Tryz.ntmps11
    go_wp2
    go_ret2
    exact ⟨rfl, rfl⟩
  have h3 : (size % 8 != 0) = true := by
    have : size.tmod 8 = size % 8 := Int.tmod_eq_emod_of_nonneg (by omega)
    rw [this] at h
    simp
    omega
  clear h
  go_enter Tryz.func11, Tryz.ntmps11
  go_wp2
  go_ret2
  exact ⟨rfl, rfl⟩
set_option maxHeartbeats 1000000 in
theorem mNew_any (k : Nat) (w : World) (h1 : 1 ≤ k) (h2 : k ≤ 16384) :
    Calls Tryz.prog 11 #[.int .i64 (8 * (k : Int))] w fun e w' => ∃ p c, e = .returned (.tuple #[.pointer (some ⟨p, 0, none⟩), .int .i64 0]) ∧ Buf w' p c 0 (List.replicate (8 * k) 0) ∧ w.heap.size ≤ p ∧ w.heap.size ≤ c ∧ Below w.heap.size w w' := by
  obtain ⟨i0, hi, hz0, hz1, hz2⟩ := info_parts u138info
  have hm : (8 * (k : Int) % 8 != 0) = false := by simp
  have q1 : ¬ (8 * (k : Int)) < 8 := by omega
  have q2 : ¬ 131072 < (8 * (k : Int)) := by omega
  go_enter Tryz.func11, Tryz.ntmps11
  go_wp2_with (refine wpList_make_full _ rfl _ _ 115 rfl w.heap.size 151 i0 (.agg #[.int .u64 0]) 1 Tryz.underlying115 hi hz0 hz1 _ _ _ _ k rfl rfl rfl rfl (by rw [hz2]; omega) (by unfold maxLen; omega) (Nat.le_refl _) ?_)
  intro w1 own1 hg1
  obtain ⟨hblk, _⟩ := own_blk own1
  have hb1 : Below w.heap.size w w1 := (Below.refl _ _).grown hg1 (Nat.le_refl _) (fun k hk => by cases hk)
  have hz1' := hblk.lt
  have HB := Lib.hid hblk
  clear own1 hg1 hblk
  go_wp2
  go_ret2
  refine ⟨w1.heap.size, w.heap.size, rfl, ⟨?_, ?_, ?_, zeros_is _, by omega, by simp; omega⟩, by omega, Nat.le_refl _, hb1.alloc (by omega) _⟩
  · have e := Blk.made w1 #[.slice (some ⟨w.heap.size, 0, none⟩) k k, .int .i64 0] 122
    simp only [List.length_replicate, Nat.mul_div_cancel_left k (show 0 < 8 by omega)]
    exact e
  · simp only [List.length_replicate, Nat.mul_div_cancel_left k (show 0 < 8 by omega)]
    unfold WB
    rw [wds_zeros, made_zeros, Nat.mul_one]
    exact HB.out.alloc _
  · simp
theorem at_of {p c cap k : Nat} {cnt : Value} (m n : Nat) (A N : Int) (w : World) (hb : Blk w p [.slice (some ⟨c, 0, none⟩) k cap, cnt]) (hA : A = m) (hN : N = n) (ha : m < 8 * k) (hk : k ≤ 1000000) (hn : n ≤ 8) :
    Calls Tryz.prog 60 #[.pointer (some ⟨p, 0, none⟩), .int .i64 A, .int .i64 N] w fun e w' => e = .returned (.agg #[.pointer (some ⟨c, m / 8, none⟩), .int .u64 (8 * ((m % 8 : Nat) : Int)), .int .u64 (256 ^ n - 1)]) ∧ Below w.heap.size w w' := by
  subst hA hN
  exact at_any p c m n cap cnt k w hb ha hk hn
/-- Reading n bytes at a place. -/
theorem get_bytes {p c : Nat} {cnt : Int} {bs : List Int} (m n : Nat) (w : World) (h : Buf w p c cnt bs) (hm : m % 8 + n ≤ 8) (hl : m < bs.length) :
    Calls Tryz.prog 62 #[.agg #[.pointer (some ⟨c, m / 8, none⟩), .int .u64 (8 * ((m % 8 : Nat) : Int)), .int .u64 (256 ^ n - 1)]] w fun e w' => e = .returned (.int .u64 (rdN bs m n)) ∧ Below w.heap.size w w' := by
  have hk : m / 8 < bs.length / 8 := by have := h.len; omega
  have b := wds_bd h.is (bs.length / 8) (m / 8) hk
  have := get_any c (m / 8) (m % 8) (gB (wds bs (bs.length / 8)) (m / 8)) (256 ^ n - 1) w (by omega) b.1 b.2 (h.wd.cell _ (by rw [wds_len]; exact hk))
  rw [gt_bytes h.is h.len m n hm hk] at this
  exact this
/-- Writing n bytes at a place. -/
theorem put_bytes {p c : Nat} {cnt : Int} {bs : List Int} (m n : Nat) (v : Int) (w : World) (h : Buf w p c cnt bs) (hm : m % 8 + n ≤ 8) (hl : m < bs.length) (h0 : 0 ≤ v) (h1 : v ≤ 18446744073709551615) :
    Calls Tryz.prog 61 #[.agg #[.pointer (some ⟨c, m / 8, none⟩), .int .u64 (8 * ((m % 8 : Nat) : Int)), .int .u64 (256 ^ n - 1)], .int .u64 v] w fun e w' => e = .returned (.tuple #[]) ∧ Buf w' p c cnt (spl bs m (leB v n)) ∧ Keep (· = c) w w' := by
  have hk : m / 8 < bs.length / 8 := by have := h.len; omega
  have b := wds_bd h.is (bs.length / 8) (m / 8) hk
  have hsl : (spl bs m (leB v n)).length = bs.length := spl_len _ _ _ (by have := h.len; rw [leB_length]; omega)
  refine (put_any c (m / 8) (m % 8) (wds bs (bs.length / 8)) (256 ^ n - 1) v w (by omega) b.1 b.2 h.wd (by rw [wds_len]; exact hk)).mono ?_
  rintro e w' ⟨rfl, hw, hkp⟩
  rw [sw_bytes h.is h.len m n v h0 h1 hm hk] at hw
  refine ⟨rfl, ⟨?_, ?_, ?_, spl_is h.is (leB_is _ _), h.ne, ?_⟩, hkp⟩
  · rw [hsl]
    exact h.hd.keep hkp h.ne
  · rw [hsl]
    exact hw
  · rw [hsl]
    exact h.len
  · rw [hsl]
    exact h.le
theorem rdN_one (bs : List Int) (m : Nat) (h : m < bs.length) : rdN bs m 1 = gB bs m := by
  unfold rdN
  have e := List.drop_eq_getElem_cons h
  rw [e, List.take_succ_cons, List.take_zero]
  simp [leN, gB, h]
theorem own_below {w w' : World} {B E n : Nat} {v : Value} {xs : List Value} (h : w.ownsRow B E 1 v n xs) (hb : Below w.heap.size w w') : w'.ownsRow B E 1 v n xs := by
  obtain ⟨h1, h2⟩ := h
  refine ⟨h1, h2.imp id ?_⟩
  rintro ⟨g, cap, cur, e1, e2, e3, e4⟩
  exact ⟨g, cap, cur, e1, e2, by rw [hb.block g (by have := Array.getElem?_eq_some_iff.1 e3; exact this.1)]; exact e3, e4⟩
/-- The row after k rounds. -/
def rbS (bs : List Int) (a n k : Nat) : List Int := (bs.drop a).take k ++ List.replicate (n - k) 0
theorem rbS_start (bs : List Int) (a n : Nat) : (rbS bs a n 0).map (Value.int .u8) = (madeCells #[Value.int .u8 0] n).toList := by
  simp only [rbS, madeCells, Nat.sub_zero, List.take_zero, List.nil_append, List.map_replicate]
  apply List.ext_getElem
  · simp
  · intro i h1 h2
    simp [Nat.mod_one]
theorem rbS_end (bs : List Int) (a n : Nat) (h : a + n ≤ bs.length) : rbS bs a n n = (bs.drop a).take n := by simp [rbS]
theorem rbS_set (bs : List Int) (a n k : Nat) (h : k < n) (ha : a + n ≤ bs.length) : ((rbS bs a n k).map (Value.int .u8)).set k (.int .u8 (gB bs (a + k))) = (rbS bs a n (k + 1)).map (Value.int .u8) := by
  obtain ⟨m, hm⟩ : ∃ m, n - k = m + 1 := ⟨n - k - 1, by omega⟩
  unfold rbS
  rw [hm, show n - (k + 1) = m from by omega, List.take_succ_eq_append_getElem (by simp; omega)]
  have e : gB bs (a + k) = bs[a + k]'(by omega) := by simp [gB, List.getD, show a + k < bs.length by omega]
  rw [e]
  simp [List.replicate_succ, show min k (bs.length - a) = k by omega]
theorem rbS_cell (bs : List Int) (a n k : Nat) (h : k < n) (ha : a + n ≤ bs.length) : ((rbS bs a n k).map (Value.int .u8))[k]? = some (.int .u8 0) := by
  have e : ((bs.drop a).take k).length = k := by simp; omega
  unfold rbS
  rw [List.getElem?_map, List.getElem?_append_right (by omega), e, Nat.sub_self]
  simp [List.getElem?_replicate, Nat.sub_pos_of_lt h]
set_option maxHeartbeats 1000000 in
/-- bytes: some bytes, one by one. -/
theorem mbytes_any (p c : Nat) (cnt : Int) (bs : List Int) (a n : Nat) (w : World) (h : Buf w p c cnt bs) (hn : n ≤ 8) (ha : a + n ≤ bs.length) :
    Calls Tryz.prog 59 #[.pointer (some ⟨p, 0, none⟩), .int .i64 a, .int .i64 n] w fun e w' => ∃ v, e = .returned v ∧ OwB 5 w.heap.size w' v ((bs.drop a).take n) ∧ Below w.heap.size w w' := by
  obtain ⟨i0, hi, hz0, hz1, hz2⟩ := info_parts u8info
  have hle := h.le
  have H := Lib.hid h
  have hpl := h.hd.lt
  have hcl := h.wd.lt
  clear h
  go_enter Tryz.func59, Tryz.ntmps59
  go_wp2_with (refine wpList_make_full _ rfl _ _ 22 rfl w.heap.size 5 i0 (.int .u8 0) 1 Tryz.underlying22 hi hz0 hz1 _ _ _ _ n rfl rfl rfl rfl (by rw [hz2]; omega) (by unfold maxLen; omega) (Nat.le_refl _) ?_)
  intro w1 own1 hg1
  have own0 : w1.ownsRow w.heap.size 5 1 (.slice (some ⟨w.heap.size, 0, none⟩) n n) n ((rbS bs a n 0).map (Value.int .u8)) := by
    rw [rbS_start]
    exact own1
  have hb1 : Below w.heap.size w w1 := (Below.refl _ _).grown hg1 (Nat.le_refl _) (fun k hk => by cases hk)
  clear own1 hg1
  go_wp2_with fail
  go_loopw [8, 13] (fun j i wr => ∃ k : Nat, k ≤ n ∧ i = .int .i64 k ∧ wr.ownsRow w.heap.size 5 1 (.slice (some ⟨w.heap.size, 0, none⟩) n n) n ((rbS bs a n k).map (Value.int .u8)) ∧ Below w.heap.size w wr) (fun _ i _ => n - (intOf i).toNat)
  case atStart => exact ⟨0, by omega, rfl, own0, hb1⟩
  case round =>
    obtain ⟨k, hk, rfl, hown, hbel⟩ := hrel
    by_cases hlt : k < n
    · have hzl := hbel.size
      have hcl2 := (World.ownsRow.lt hown _ rfl).2
      have HO := Lib.hid hown
      have hcell := hown.cellAt k (by omega)
      have hfroz := hown.frozenAt k
      rw [rbS_cell bs a n k hlt ha] at hcell
      have hgb := H.out.is.getD (a + k)
      clear hown
      go_wp2_with fail
      refine (at_of (a + k) 1 _ _ _ (H.out.belows hbel).hd (by omega) rfl (by have := H.out.len; omega) (by omega) (by omega)).mono ?_
      rintro e w2 ⟨rfl, b2⟩
      have z2 := b2.size
      go_wp2_with fail
      refine (get_bytes (a + k) 1 _ ((H.out.belows hbel).belows b2) (by omega) (by omega)).mono ?_
      rintro e w3 ⟨rfl, b3⟩
      have z3 := b3.size
      rw [rdN_one _ _ (by omega)]
      have B3 := b2.trans (b3.mono z2)
      have hc3 := B3.cell (p := ⟨w.heap.size, k, none⟩) hcl2
      have hf3 := B3.frozen (p := ⟨w.heap.size, k, none⟩) hcl2
      rw [hfroz] at hf3
      clear hfroz
      rw [hcell] at hc3
      clear hcell
      go_wp2
      have hst := (own_below HO.out B3).stored k (.int .u8 (gB bs (a + k)))
      refine ⟨⟨k + 1, by omega, by go_num, ?_, (hbel.trans (B3.mono hzl)).setCell (Nat.le_refl _) _⟩, by simp [intOf]; omega⟩
      have e := hst.1
      rw [rbS_set bs a n k hlt ha] at e
      exact e
    · go_wp2
      go_ret
      obtain rfl : k = n := by omega
      rw [rbS_end _ _ _ ha] at hown
      refine ⟨_, rfl, ?_, hbel⟩
      unfold OwB
      rw [show ((bs.drop a).take k).length = k by simp; omega]
      exact hown
end Go.Proofs.YtpicplkbblmbeaaGreat
