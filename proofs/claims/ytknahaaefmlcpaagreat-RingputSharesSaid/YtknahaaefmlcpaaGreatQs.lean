/- A put on a buffer that somebody else writes: the walk of the law RingputShares. Conditions: as each says. -/
import Derived.Test.YtknahaaefmlcpaaGreatRg
import Derived.Test.YtknahaaefmlcpaaGreatPo
import Derived.Test.YtknahaaefmlcpaaGreatQe
import Derived.Test.YtknahaaefmlcpaaGreatOx
import Derived.Deep.CutRange
import Derived.Deep.RegionHeld3
namespace Go.Proofs.YtknahaaefmlcpaaGreat
set_option maxRecDepth 100000
open Go.RowKit
set_option linter.unusedVariables false
set_option linter.unusedSimpArgs false
theorem sameAns_ok (v : Int) (d : Bool) (s0 t0 : Option Addr) (sl sc tl tc : Nat) (l : List Int) (w : World) (h1 : RdB w (.slice s0 sl sc) l) (h2 : RdB w (.slice t0 tl tc) l) :
    Calls Tryz.prog 15 #[.agg #[.int .u64 v, .bool d, .slice s0 sl sc], .agg #[.int .u64 v, .bool d, .slice t0 tl tc]] w fun e w' => e = .returned (.bool true) ∧ Below w.heap.size w w' := by
  have r1 := ((h1.below ((Below.refl _ w).alloc (Nat.le_refl _) (Obj.cells #[Value.int IntKind.u64 v, Value.bool d, Value.slice s0 sl sc] 33))).below ((Below.refl _ _).alloc (Nat.le_refl _) (Obj.cells #[Value.int IntKind.u64 v, Value.bool d, Value.slice t0 tl tc] 33)))
  have r2 := ((h2.below ((Below.refl _ w).alloc (Nat.le_refl _) (Obj.cells #[Value.int IntKind.u64 v, Value.bool d, Value.slice s0 sl sc] 33))).below ((Below.refl _ _).alloc (Nat.le_refl _) (Obj.cells #[Value.int IntKind.u64 v, Value.bool d, Value.slice t0 tl tc] 33)))
  have V1 := conv_rd 22 9 Tryz.underlying22 Tryz.underlying9 r1
  have V2 := conv_rd 22 9 Tryz.underlying22 Tryz.underlying9 r2
  clear h1 h2 r1 r2
  go_enter Tryz.func15, Tryz.ntmps15
  go_wp2
  go_ret
  exact ⟨rfl, by go_grown⟩
/-- What an access tells, refused or not. -/
def AA.ansE (c : AA) (bs : List Int) : AN := if c.err bs.length = 0 then c.ans bs else anZ
def AA.outE (c : AA) (bs : List Int) : List Int := if c.err bs.length = 0 then c.out bs else bs
theorem AA.outE_len (c : AA) (bs : List Int) : (c.outE bs).length = bs.length := by
  unfold AA.outE
  split
  · rename_i h
    exact AA.out_len h
  · rfl
theorem AA.ansE_in {c : AA} {bs : List Int} (h : IsB bs) : inU (c.ansE bs).v := by
  unfold AA.ansE
  split
  · rename_i he
    have := AA.ans_ok h he
    exact ⟨this.v0, this.v1⟩
  · exact ⟨Int.le_refl 0, by show (0 : Int) ≤ _; omega⟩
theorem mDo_all (p c : Nat) (cnt : Int) (bs : List Int) (A : AA) (s0 : Option Addr) (sl sc : Nat) (w : World) (h : Buf w p c cnt bs) (hc0 : 0 ≤ cnt) (hc1 : cnt ≤ 4611686018427387904) (hwf : A.wf) (hB : RdB w (.slice s0 sl sc) A.b) :
    Calls Tryz.prog 11 #[.pointer (some ⟨p, 0, none⟩), A.V (.slice s0 sl sc)] w fun e w' => ∃ r0 rl rc cnt', e = .returned (.tuple #[.agg #[.int .u64 (A.ansE bs).v, .bool (A.ansE bs).d, .slice r0 rl rc], .int .i64 (A.err bs.length)]) ∧ OwB 5 w.heap.size w' (.slice r0 rl rc) (A.ansE bs).b ∧ Buf w' p c cnt' (A.outE bs) ∧ cnt ≤ cnt' ∧ cnt' ≤ cnt + 1 ∧ Keep (fun k => k = p ∨ k = c) w w' := by
  by_cases he : A.err bs.length = 0
  · have hle := h.le
    obtain ⟨hz, h0, h1, h2, h3, h4, h5⟩ := acE_ok he (by omega)
    have e1 : A.ansE bs = A.ans bs := if_pos he
    have e2 : A.outE bs = A.out bs := if_pos he
    rw [e1, e2, he]
    clear e1 e2
    obtain ⟨k, a, n, v, x, b⟩ := A
    dsimp only at h0 h3
    obtain ⟨a, rfl⟩ := Int.eq_ofNat_of_zero_le h0
    obtain ⟨n, rfl⟩ := Int.eq_ofNat_of_zero_le h3
    have hl := rd_len hB
    dsimp only at hl hB
    refine (mDo_ok p c cnt bs k a n v x s0 sl sc b w h hc0 hc1 hwf.v0 hwf.v1 hwf.x0 hwf.x1 hB hwf.b (by rw [hl]; exact he)).mono ?_
    rintro e w' ⟨s, rfl, o, hb, k⟩
    obtain ⟨r0, rl, rc, rfl⟩ := o.isSliceC
    exact ⟨r0, rl, rc, cnt + 1, rfl, o, hb, by omega, by omega, k⟩
  · have e1 : A.ansE bs = anZ := if_neg he
    have e2 : A.outE bs = bs := if_neg he
    rw [e1, e2]
    have hl := rd_len hB
    refine (mDo_bad p c cnt bs A.k A.a A.n A.v A.x s0 sl sc w h (by rw [hl]; exact he)).mono ?_
    rintro e w' ⟨rfl, b⟩
    refine ⟨none, 0, 0, cnt, ?_, OwB.nil _ _ _, h.belows b, by omega, by omega, Below.keeps b⟩
    have e3 : A.err bs.length = acE bs.length A.k A.a A.n sl := by rw [hl]; rfl
    rw [e3]
    rfl
theorem rDo_all (g : Nat) (bs : List Int) (A : AA) (s0 : Option Addr) (sl sc : Nat) (w : World) (hg : Blk w g (bs.map (Value.int .u8))) (hib : IsB bs) (hl : bs.length ≤ 131072) (hwf : A.wf) (hB : RdB w (.slice s0 sl sc) A.b) (hne : A.b.length ≠ 0 → ∀ i, (Value.slice s0 sl sc).ownBlock = some i → i ≠ g) :
    Calls Tryz.prog 14 #[.slice (some ⟨g, 0, none⟩) bs.length bs.length, A.V (.slice s0 sl sc)] w fun e w' => ∃ r0 rl rc, e = .returned (.tuple #[.agg #[.int .u64 (A.ansE bs).v, .bool (A.ansE bs).d, .slice r0 rl rc], .int .i64 (A.err bs.length)]) ∧ OwB 5 w.heap.size w' (.slice r0 rl rc) (A.ansE bs).b ∧ Blk w' g ((A.outE bs).map (Value.int .u8)) ∧ Keep (· = g) w w' := by
  by_cases he : A.err bs.length = 0
  · have e1 : A.ansE bs = A.ans bs := if_pos he
    have e2 : A.outE bs = A.out bs := if_pos he
    rw [e1, e2, he]
    exact rDo_ok g bs A s0 sl sc w hg hib hl hwf hB hne he
  · have e1 : A.ansE bs = anZ := if_neg he
    have e2 : A.outE bs = bs := if_neg he
    rw [e1, e2]
    have hsl := rd_len hB
    refine (rDo_bad (some ⟨g, 0, none⟩) bs.length bs.length A.k A.a A.n A.v A.x s0 sl sc w hl (by rw [hsl]; exact he)).mono ?_
    rintro e w' ⟨rfl, b⟩
    refine ⟨none, 0, 0, ?_, OwB.nil _ _ _, hg.below b hg.lt, Below.keeps b⟩
    have e3 : A.err bs.length = acE bs.length A.k A.a A.n sl := by rw [hsl]; rfl
    rw [e3]
    rfl
theorem rowW_at {w : World} {t0 : Option Addr} {tc : Nat} {L : List WrV} (hr : RdR w (.slice t0 L.length tc) 2 (L.map WrV.cs)) {k : Nat} {x : WrV} (hx : L[k]? = some x) : ∃ bk off, t0 = some ⟨bk, off, none⟩ ∧ w.cell? ⟨bk, off + k * 2, none⟩ = some (.int .u16 x.a) ∧ w.cell? ⟨bk, off + k * 2 + 1, none⟩ = some (.int .u64 x.v) ∧ L.length ≤ tc ∧ tc ≤ maxLen := by
  have hkl := (List.getElem?_eq_some_iff.1 hx).1
  rcases hr with ⟨e, e2⟩ | ⟨_, _, e, e2, _⟩ | ⟨bk, off, cap, e, h1, h2, hc⟩
  · have : L = [] := by simpa using e2
    rw [this] at hkl
    exact absurd hkl (Nat.not_lt_zero _)
  · have : L = [] := by simpa using e2
    rw [this] at hkl
    exact absurd hkl (Nat.not_lt_zero _)
  · rw [List.length_map] at e h1
    cases e
    have h3 := hc k x.cs (by rw [List.getElem?_map, hx]; rfl)
    exact ⟨bk, off, rfl, by have := h3 0 _ rfl; simpa using this, by have := h3 1 _ rfl; simpa using this, h1, h2⟩
/-- A buffer that is filled from a row, eight bytes at a time. -/
def filled (ob : List Int) (k : Nat) : List Int := ob.take (8 * k) ++ List.replicate (512 - 8 * k) 0
theorem filled_len {ob : List Int} (h : ob.length = 512) {k : Nat} (hk : k ≤ 64) : (filled ob k).length = 512 := by
  unfold filled
  rw [List.length_append, List.length_take, List.length_replicate, h]
  omega
theorem filled_next {ob : List Int} (h : ob.length = 512) {k : Nat} (hk : k < 64) : spl (filled ob k) (8 * k) ((ob.drop (8 * k)).take 8) = filled ob (k + 1) := by
  have l1 : (ob.take (8 * k)).length = 8 * k := by rw [List.length_take]; omega
  have l2 : ((ob.drop (8 * k)).take 8).length = 8 := by rw [List.length_take, List.length_drop]; omega
  have e1 : (ob.take (8 * k) ++ List.replicate (512 - 8 * k) 0).take (8 * k) = ob.take (8 * k) := by
    rw [List.take_append, l1, Nat.sub_self, List.take_zero, List.append_nil, List.take_of_length_le (by omega)]
  have e2 : (ob.take (8 * k) ++ List.replicate (512 - 8 * k) (0 : Int)).drop (8 * k + 8) = List.replicate (512 - 8 * (k + 1)) 0 := by
    rw [List.drop_append, List.drop_eq_nil_of_le (by omega), List.nil_append, l1, List.drop_replicate]
    congr 1
    omega
  unfold spl filled
  rw [l2, e1, e2, ← List.append_assoc]
  congr 1
  rw [show 8 * (k + 1) = 8 * k + 8 by omega, List.take_add]
theorem filled_all {ob : List Int} (h : ob.length = 512) : filled ob 64 = ob := by
  unfold filled
  rw [List.take_of_length_le (by omega)]
  simp
theorem acE_wr8 {N : Nat} {a : Nat} (h : a + 8 ≤ N) : acE (N : Int) 6 (a : Int) ((8 : Nat) : Int) ((8 : Nat) : Int) = 0 := by
  unfold acE
  rw [if_neg (by simp [acSized]), if_neg (by omega), if_neg (by omega)]
theorem PutM.told_nil (m : PutM) : m.told [] = m := rfl
set_option maxHeartbeats 8000000 in
theorem shares_main (base bits typ : Int) (hbase : 0 ≤ base ∧ base ≤ 255) (hbits : 0 ≤ bits ∧ bits ≤ 255) (htyp : -2147483648 ≤ typ ∧ typ ≤ 2147483647) (sa : Option Addr) (sn sc : Nat) (fl : List Int) (ba : Option Addr) (bn bc : Nat) (bl : List Int) (la : Option Addr) (lc : Nat) (Ws : List WrV) (w : World) (rf : RdB w (.slice sa sn sc) fl) (bf : IsB fl) (rb : RdB w (.slice ba bn bc) bl) (bb : IsB bl) (hr : RdR w (.slice la Ws.length lc) 2 (Ws.map WrV.cs)) (hW : ∀ x ∈ Ws, WrV.Ok x) (h400 : sn ≤ 400) (h60 : bn ≤ 60) (h150 : Ws.length ≤ 150) :
    Calls Tryz.prog 3 #[.slice sa sn sc, .int .u8 base, .int .u8 bits, .int .i32 typ, .slice ba bn bc, .slice la Ws.length lc] w fun e w' => e = .returned (.bool true) ∧ Below w.heap.size w w' := by
  have RF := Lib.hid rf
  have BF := Lib.hid bf
  have RBB := Lib.hid rb
  have BB := Lib.hid bb
  have HR := Lib.hid hr
  have HW := Lib.hid hW
  have HSN := Lib.hid (rd_len rf)
  have HBN := Lib.hid (rd_len rb)
  have hi1 : ¬ (400 : Int) < (sn : Int) := by omega
  have hi2 : ¬ (60 : Int) < (bn : Int) := by omega
  have hi3 : ¬ (150 : Int) < (Ws.length : Int) := by omega
  clear rf bf rb bb hr hW
  go_enter Tryz.func3, Tryz.ntmps3
  go_wp2_with fail
  refine (fixed07_any _).mono ?_
  rintro e w1 ⟨rfl, b1⟩
  have z1 := b1.size
  have B1 := Lib.hid b1
  clear b1
  go_upto_region 5 with fail
  go_cut [13] from 44 to 51 (fun rp wx => ∃ b0 s : Nat, rp = .pointer (some ⟨w1.heap.size, 0, none⟩) ∧ b0 ≤ 64 ∧ (s = 64 ∨ s = 128 ∨ s = 256) ∧ Blk wx w1.heap.size [.int .i64 b0, .int .i64 s] ∧ Below w1.heap.size w1 wx ∧ w1.heap.size < wx.heap.size)
  case first =>
    have ht : bits.tmod 3 = bits % 3 := Int.tmod_eq_emod_of_nonneg hbits.1
    have hu : base.tmod 9 = base % 9 := Int.tmod_eq_emod_of_nonneg hbase.1
    obtain ⟨a, ha⟩ : ∃ a : Nat, base % 9 = a := ⟨(base % 9).toNat, by omega⟩
    have ha8 : a ≤ 8 := by omega
    rw [ha] at hu
    have Wa : IntKind.i64.wrap (8 * (a : Int)) = ((8 * a : Nat) : Int) := by rw [IntWalk.i64_in _ ⟨by omega, by omega⟩]; omega
    have hc : bits % 3 = 0 ∨ bits % 3 = 1 ∨ bits % 3 = 2 := by omega
    clear ha
    rcases hc with hc | hc | hc
    · rw [hc] at ht
      clear hc
      go_wp2_with fail
      go_meet
      exact ⟨8 * a, 64, rfl, by omega, by omega, Blk.made w1 #[.int .i64 ((8 * a : Nat) : Int), .int .i64 64] _, (Below.refl _ _).alloc (Nat.le_refl _) _, by simp⟩
    · rw [hc] at ht
      clear hc
      go_wp2_with fail
      go_meet
      exact ⟨8 * a, 128, rfl, by omega, by omega, Blk.made w1 #[.int .i64 ((8 * a : Nat) : Int), .int .i64 128] _, (Below.refl _ _).alloc (Nat.le_refl _) _, by simp⟩
    · rw [hc] at ht
      clear hc
      go_wp2_with fail
      go_meet
      exact ⟨8 * a, 256, rfl, by omega, by omega, Blk.made w1 #[.int .i64 ((8 * a : Nat) : Int), .int .i64 256] _, (Below.refl _ _).alloc (Nat.le_refl _) _, by simp⟩
  case rest =>
    obtain ⟨b0, s, rfl, hb0, hs, hB, bb, lb⟩ := hcut
    obtain ⟨i0, hi, hz0, hz1, hz2⟩ := info_parts u8info
    obtain ⟨j0, ji, jz0, jz1, jz2⟩ := info_parts aninfo
    have X2 := Lib.hid hB
    have B2 := Lib.hid (B1.out.trans (bb.mono z1))
    have z2 := bb.size
    have HS := Lib.hid hs
    have hs256 : s ≤ 256 := by omega
    clear hB bb hs
    go_wp2_with fail
    refine (mNew_at 512 64 _ (by decide) (by decide) (by decide)).mono ?_
    rintro e w3 ⟨p, c, rfl, hb3, hp, hc, b3⟩
    have z3 := b3.size
    have HB3 := Lib.hid hb3
    have X3 := Lib.hid (X2.out.below b3 lb)
    have B3 := Lib.hid (B2.out.trans (b3.mono (by omega)))
    have lx3 : w1.heap.size < w3.heap.size := by omega
    have lp3 := hb3.hd.lt
    have lc3 := Blk.lt hb3.wd
    clear hb3 b3
    go_wp2_with (refine wpList_make_full _ rfl _ _ 22 rfl w3.heap.size 5 i0 (.int .u8 0) 1 Tryz.underlying22 hi hz0 hz1 _ _ _ _ 512 rfl rfl rfl rfl (by rw [hz2]; omega) (by unfold maxLen; omega) (Nat.le_refl _) ?_)
    intro w4 own4 hg4
    obtain ⟨hblk, _⟩ := own_blkK own4
    have b4 : Below w3.heap.size w3 w4 := (Below.refl _ _).grown hg4 (Nat.le_refl _) (fun k hk => by cases hk)
    rw [← rep_cells 512] at hblk
    obtain ⟨Z, hZ⟩ : ∃ Z : List Int, Z = List.replicate 512 0 := ⟨_, rfl⟩
    rw [← hZ] at hblk
    have HZ := Lib.hid hZ
    have hZl : Z.length = 512 := by rw [hZ, List.length_replicate]
    have HZL := Lib.hid hZl
    clear hZ hZl
    have z4 := b4.size
    have HW4 := Lib.hid hblk
    have lg4 := hblk.lt
    have HB4 := Lib.hid (HB3.out.belows b4)
    have X4 := Lib.hid (X3.out.below b4 lx3)
    have B4 := Lib.hid (B3.out.trans (b4.mono (by omega)))
    have RF4 := Lib.hid (RF.out.below B4.out)
    clear own4 hg4 hblk b4 HB3 X3
    obtain ⟨g, hg⟩ : ∃ g, g = w3.heap.size := ⟨_, rfl⟩
    rw [← hg] at HW4 lg4 ⊢
    have hgp : ¬ g = p := by omega
    have hgc : ¬ g = c := by omega
    have hgx : ¬ g = w1.heap.size := by omega
    have HGW := Lib.hid (show w.heap.size ≤ g by have := B3.out.size; omega)
    have hpx : ¬ p = w1.heap.size := by omega
    have hcx : ¬ c = w1.heap.size := by omega
    have HPW := Lib.hid (show w.heap.size ≤ p ∧ w.heap.size ≤ c by omega)
    have HG := Lib.hid hg
    clear hg
    go_wp2_with (refine list_copy rfl (.tmp 57) (.tmp 58) rfl _ _ _ _ _ _ rfl rfl g 0 Z fl HW4.out RF4.out (by have := HSN.out; omega) (fun _ => rfl) (by have := HSN.out; have := HZL.out; omega) ?_)
    intro w5 hg5 k5
    obtain ⟨ob, hob⟩ : ∃ ob, ob = spl Z 0 fl := ⟨_, rfl⟩
    rw [← hob] at hg5
    have hobl : ob.length = 512 := by rw [hob, spl_len _ _ _ (by have := HSN.out; have := HZL.out; omega)]; exact HZL.out
    have hobi : IsB ob := by rw [hob]; rw [HZ.out]; exact spl_is (zeros_is 512) BF.out
    have OBL := Lib.hid hobl
    have OBI := Lib.hid hobi
    have G5 := hg5
    have z5 := k5.size
    have HB5 := Lib.hid (HB4.out.keep k5 (by omega) (by omega))
    have X5 := Lib.hid (X4.out.keep k5 (by omega))
    have B5 := Lib.hid (B4.out.trans (k5.below (by have := B4.out.size; omega) (fun i h1 h2 => by have := HGW.out; omega)))
    clear hob hobl hobi hg5 k5 HW4 HB4 X4 RF4
    go_wp2_with fail
    go_loopw [17] (fun i wr => ∃ k : Nat, k ≤ 64 ∧ i = .int .i64 (8 * k : Nat) ∧ Buf wr p c k (filled ob k) ∧ Keep (fun i => i = p ∨ i = c) w5 wr) (fun i _ => 512 - (intOf i).toNat)
    case atStart => exact ⟨0, by omega, rfl, HB5.out, Keep.refl _ _⟩
    case round =>
      obtain ⟨k, hk, rfl, hbf, hkp⟩ := hrel
      have HBF := Lib.hid hbf
      have HKP := Lib.hid hkp
      have zr := hkp.size
      have GR := Lib.hid (G5.out.keep hkp (by omega))
      clear hbf hkp
      by_cases hkl : k < 64
      · have hki : ((8 * k : Nat) : Int) < 512 := by omega
        have hki2 : 8 * (k : Int) < 512 := by omega
        have hki3 : 8 * (k : Int) + 8 ≤ 512 := by omega
        have hki4 : 8 * k + 8 ≤ 512 := by omega
        have W1 : IntKind.i64.wrap (8 * (k : Int) + 8) = 8 * (k : Int) + 8 := IntWalk.i64_in _ ⟨by omega, by omega⟩
        have q1 : (512 = 8 * k) = False := eq_false (by omega)
        have q2 : (8 * k = 512) = False := eq_false (by omega)
        have q3 : (512 - 8 * k = 0) = False := eq_false (by omega)
        have q4 : (512 ≤ 8 * k) = False := eq_false (by omega)
        go_wp2_with fail
        have hrd := rd_sub GR.out (a := 8 * k) (n := 8) (by rw [OBL.out]; omega) (by rw [OBL.out]; unfold maxLen; omega)
        rw [OBL.out] at hrd
        have e8 : ((8 * k : Nat) : Int) = 8 * (k : Int) := by omega
        have hdo := mDo_ok p c k (filled ob k) 6 (8 * k) 8 0 0 (some ⟨g, 8 * k, none⟩) 8 (512 - 8 * k) ((ob.drop (8 * k)).take 8) wr HBF.out (by omega) (by omega) (by decide) (by decide) (by decide) (by decide) hrd ((OBI.out.drop _).take _) (acE_wr8 (by rw [filled_len OBL.out (by omega)]; omega))
        rw [e8] at hdo
        clear e8 hrd
        refine hdo.mono ?_
        rintro e w6 ⟨sx, rfl, ox, hb6, k6⟩
        have e9 : doB (filled ob k) 6 (8 * k) 8 0 0 ((ob.drop (8 * k)).take 8) = filled ob (k + 1) := filled_next OBL.out hkl
        rw [e9] at hb6
        have HB6 := Lib.hid hb6
        have K6 := Lib.hid k6
        clear hb6 k6 e9 ox
        go_wp2
        exact ⟨⟨k + 1, by omega, by go_num, by have := HB6.out; rw [show ((k + 1 : Nat) : Int) = (k : Int) + 1 by omega]; exact this, HKP.out.trans K6.out⟩, by simp [intOf]; omega⟩
      · rename World => w6
        obtain rfl : k = 64 := by omega
        rw [filled_all OBL.out] at HBF
        have XR := Lib.hid (X5.out.keep HKP.out (by omega))
        have BR := Lib.hid (B5.out.trans (HKP.out.below (by have := B5.out.size; omega) (fun i h1 h2 => by have := HPW.out; omega)))
        have x0 := XR.out.cell 0
        have x1 := XR.out.cell 1
        have lxr := XR.out.lt
        simp only [List.getElem?_cons_zero, List.getElem?_cons_succ] at x0 x1
        have RB6 := Lib.hid (RBB.out.below BR.out)
        have lpr := HBF.out.hd.lt
        have lcr := Blk.lt HBF.out.wd
        have lgr := GR.out.lt
        clear HB5 X5 B5 G5 HKP hkl
        go_wp2_with fail
        refine (pNew_f b0 s typ ba bn bc bl _ RB6.out (by have := HBN.out; omega) BB.out (by omega) (by omega) (by omega) (by omega)).mono ?_
        rintro e w7 ⟨q, rfl, hq, hF, b7⟩
        have z7 := b7.size
        obtain ⟨C, hC⟩ : ∃ C : PutC, C = ⟨b0, s, typ, bl⟩ := ⟨_, rfl⟩
        rw [← hC] at hF
        have HC := Lib.hid hC
        have HF7 := Lib.hid hF
        have B7 := Lib.hid b7
        clear hF b7 x0 x1 hC
        go_wp2_with fail
        go_loopw [19, 79] (fun tv i wl => ∃ (n : Nat) (T : List AnsV) (F P : Nat → Prop) (bs : List Int) (cnt : Int), n ≤ Ws.length ∧ i = .int .i64 n ∧ AnO wl P tv T ∧ PutF wl F q ((PutC.init C).told T) ∧ Buf wl p c cnt bs ∧ Blk wl g (bs.map (Value.int .u8)) ∧ bs.length = 512 ∧ 0 ≤ cnt ∧ cnt ≤ 4 * (n : Int) + 64 ∧ T.length ≤ n ∧ (∀ i, F i ∨ P i → w6.heap.size ≤ i ∧ i < wl.heap.size) ∧ (∀ i, F i → ¬ P i) ∧ Keep (fun i => i = p ∨ i = c ∨ i = g) w6 wl) (fun _ i _ => Ws.length - (intOf i).toNat)
        case atStart => exact ⟨0, [], _, fun _ => False, ob, 64, by omega, rfl, AnO.none _ _, HF7.out, HBF.out.belows B7.out, GR.out.below B7.out lgr, OBL.out, by omega, by omega, Nat.le_refl _, fun i hi => hi.elim id False.elim, fun i _ => id, Below.keeps B7.out⟩
        case round =>
          obtain ⟨n, T, F, P, bs, cnt, hn, rfl, hT, hF, hb, hg, hbl, hc0, hc1, hTn, hdm, hdj, hkp⟩ := hrel
          obtain ⟨ta, tc, rfl⟩ := hT.sl
          have HT := Lib.hid hT
          have HF := Lib.hid hF
          have HB := Lib.hid hb
          have HG2 := Lib.hid hg
          have HL := Lib.hid hbl
          have HDM := Lib.hid hdm
          have HDJ := Lib.hid hdj
          have HKP2 := Lib.hid hkp
          have zl := hkp.size
          have HBL := Lib.hid (BR.out.trans (hkp.below (by have := BR.out.size; omega) (fun i h1 h2 => by have := HPW.out; have := HGW.out; omega)))
          clear hT hF hb hg hbl hdm hdj hkp
          by_cases hnl : n < Ws.length
          · -- R1
            have hni : (n : Int) < (Ws.length : Int) := by omega
            obtain ⟨x, hx⟩ : ∃ x, Ws[n]? = some x := ⟨_, List.getElem?_eq_getElem hnl⟩
            obtain ⟨⟨xa0, xa1⟩, ⟨xv0, xv1⟩⟩ := HW.out x (List.mem_of_getElem? hx)
            obtain ⟨bk, off, rfl, hc1', hc2', hc3, hc4⟩ := rowW_at HR.out hx
            have d1 := (HBL.out.cell (p := ⟨bk, off + n * 2, none⟩) (World.block_lt_of_cell? w _ hc1')).trans hc1'
            have d2 := (HBL.out.cell (p := ⟨bk, off + n * 2 + 1, none⟩) (World.block_lt_of_cell? w _ hc2')).trans hc2'
            have ld := World.block_lt_of_cell? _ _ d1
            obtain ⟨wa, hwa⟩ : ∃ wa, wa = wr.alloc (.cells #[.int .u16 x.a, .int .u64 x.v] 43) := ⟨_, rfl⟩
            have XA := Lib.hid (show Blk wa wr.heap.size [.int .u16 x.a, .int .u64 x.v] by rw [hwa]; exact Blk.made wr _ _)
            have BA := Lib.hid (show Below wr.heap.size wr wa by rw [hwa]; go_grown)
            have za : wa.heap.size = wr.heap.size + 1 := by rw [hwa]; simp
            clear hc1' hc2' hx
            go_upto_region 18 with fail
            rw [← hwa]
            clear hwa d1 d2
            obtain ⟨fq, fsz, O, bv, hO, hI⟩ := HF.out.below BA.out
            have HO := Lib.hid hO
            have HI := Lib.hid hI
            clear hO hI fsz
            go_wp2_with fail
            refine (pNext_own wa HI.out).mono ?_
            rintro e w2 ⟨n0, nl, nc, rfl, hrn, b2, hown⟩
            obtain ⟨wt, hwt⟩ : ∃ wt, wt = ((PutC.init C).told T).want := ⟨_, rfl⟩
            rw [← hwt] at hrn ⊢
            have HWT := Lib.hid hwt
            have HRN := Lib.hid hrn
            have HOWN := Lib.hid hown
            have zb := b2.size
            have BB2 := Lib.hid b2
            unfold AA.V
            obtain ⟨w3', hw3⟩ : ∃ w3', w3' = w2.alloc (Obj.cells #[.int .i64 wt.k, .int .i64 wt.a, .int .i64 wt.n, .int .u64 wt.v, .int .u64 wt.x, .slice n0 nl nc] 37) := ⟨_, rfl⟩
            have XB := Lib.hid (show Blk w3' w2.heap.size [.int .i64 wt.k, .int .i64 wt.a, .int .i64 wt.n, .int .u64 wt.v, .int .u64 wt.x, .slice n0 nl nc] by rw [hw3]; exact Blk.made w2 _ _)
            have B23 := Lib.hid (show Below w2.heap.size w2 w3' by rw [hw3]; go_grown)
            have z23 : w3'.heap.size = w2.heap.size + 1 := by rw [hw3]; simp
            have BR3 := Lib.hid ((BA.out.trans (BB2.out.mono (by omega))).trans (B23.out.mono (by omega)))
            clear hwt hrn hown b2
            go_upto_region 19 with fail
            rw [← hw3]
            clear hw3
            cases hl : ((PutC.init C).told T).live with
            | false =>
              clear hl
              have HBF3 := Lib.hid (HB.out.belows BR3.out)
              have HGF3 := Lib.hid (HG2.out.below BR3.out HG2.out.lt)
              have HBL3 := Lib.hid (HBL.out.trans (BR3.out.mono HBL.out.size))
              have hrdF : RdB w3' (.slice (some ⟨g, 0, none⟩) 512 512) bs := by
                have h1 := rd_sub HGF3.out (a := 0) (n := 512) (by rw [HL.out]; decide) (by rw [HL.out]; unfold maxLen; omega)
                rw [HL.out, List.drop_zero, List.take_of_length_le (by rw [HL.out]; exact Nat.le_refl _)] at h1
                exact h1
              have HRDF := Lib.hid (RdB.drewN 1 hrdF)
              have VF := conv_rd (w := w3'.drew) 22 9 Tryz.underlying22 Tryz.underlying9 HRDF.out
              clear hrdF
              go_wp2_with fail
              refine wp_region_held_drew (S := (fun w' => (convert 22 9 (.slice (some ⟨g, 0, none⟩) 512 512)).run Tryz.prog w' = .ok (.string (strOfNums bs)) w')) (by kernel_rfl) ?_ (fun hHeld => ?_)
              · try dsimp only
                exact VF
              refine wpAnyH_take (i := 0) (v := ?_) rfl (by kernel_rfl) (by kernel_rfl) (by kernel_rfl) (fun _ _ _ h => h) (Or.inl ⟨by rfl, ?_⟩) (by assumption) ?_
              rotate_left
              · intro w0 hSw
                (try dsimp only at hSw)
                go_simp
                try with_reducible rfl
              try simp only [Act.put, List.getElem_toArray, List.getElem_cons_zero, List.getElem_cons_succ, List.setIfInBounds_toArray, List.set_cons_zero, List.set_cons_succ]
              refine wpAnyH_take (i := 1) (v := ?_) rfl (by kernel_rfl) (by kernel_rfl) (by kernel_rfl) (fun _ _ _ h => h) (Or.inl ⟨by rfl, ?_⟩) (by assumption) ?_
              rotate_left
              · intro w0 hSw
                (try dsimp only at hSw)
                go_simp
                try with_reducible rfl
              try simp only [Act.put, List.getElem_toArray, List.getElem_cons_zero, List.getElem_cons_succ, List.setIfInBounds_toArray, List.set_cons_zero, List.set_cons_succ]
              refine wpAnyH_take (i := 2) (v := ?_) rfl (by kernel_rfl) (by kernel_rfl) (by kernel_rfl) (fun _ _ _ h => h) (Or.inl ⟨by rfl, ?_⟩) (by assumption) ?_
              rotate_left
              · intro w0 hSw
                (try dsimp only at hSw)
                go_simp
                try with_reducible rfl
              try simp only [Act.put, List.getElem_toArray, List.getElem_cons_zero, List.getElem_cons_succ, List.setIfInBounds_toArray, List.set_cons_zero, List.set_cons_succ]
              refine wpAnyH_take (i := 3) (v := ?_) rfl (by kernel_rfl) (by kernel_rfl) (by kernel_rfl) (fun _ _ _ h => h) (Or.inl ⟨by rfl, ?_⟩) (by assumption) ?_
              rotate_left
              · intro w0 hSw
                (try dsimp only at hSw)
                go_simp
                try with_reducible rfl
              try simp only [Act.put, List.getElem_toArray, List.getElem_cons_zero, List.getElem_cons_succ, List.setIfInBounds_toArray, List.set_cons_zero, List.set_cons_succ]
              refine wpAnyH_take (i := 6) (v := ?_) rfl (by kernel_rfl) (by kernel_rfl) (by kernel_rfl) (fun _ _ _ h => h) (Or.inl ⟨by rfl, ?_⟩) (by assumption) ?_
              rotate_left
              · intro w0 hSw
                (try dsimp only at hSw)
                go_simp
                try with_reducible rfl
              try simp only [Act.put, List.getElem_toArray, List.getElem_cons_zero, List.getElem_cons_succ, List.setIfInBounds_toArray, List.set_cons_zero, List.set_cons_succ]
              refine wpAnyH_take (i := 7) (v := ?_) rfl (by kernel_rfl) (by kernel_rfl) (by kernel_rfl) (fun _ _ _ h => h) (Or.inl ⟨by rfl, ?_⟩) (by assumption) ?_
              rotate_left
              · intro w0 hSw
                (try dsimp only at hSw)
                go_simp
                try with_reducible rfl
              try simp only [Act.put, List.getElem_toArray, List.getElem_cons_zero, List.getElem_cons_succ, List.setIfInBounds_toArray, List.set_cons_zero, List.set_cons_succ]
              refine wpAnyH_ready (rs := [4]) (by kernel_rfl) (by simp) ?_
              refine AllReadyH.cons rfl (fun K hK => ?_) AllReadyH.nil
              go_simp
              go_at_call 18
              refine (mBytes_any p c _ bs _ (HBF3.out.belows (bel_drewN 1 (Below.refl _ _)))).mono ?_
              rintro e w9 ⟨bv, rfl, o9, b9⟩
              obtain ⟨c0, cl, cc, rfl⟩ := o9.isSliceC
              have V9 := conv_rd (w := w9) 22 9 Tryz.underlying22 Tryz.underlying9 o9.rd
              have VF9 := conv_rd (w := w9) 22 9 Tryz.underlying22 Tryz.underlying9 (HRDF.out.below b9)
              have B9 := Lib.hid b9
              clear o9 b9
              go_wp2_with fail
              refine hK.out _ _ ?_ (fun hHeld => ?_)
              · try dsimp only
                exact VF9
              clear hK K
              try simp only [Act.put, List.getElem_toArray, List.getElem_cons_zero, List.getElem_cons_succ, List.setIfInBounds_toArray, List.set_cons_zero, List.set_cons_succ]
              refine wpAnyH_ready (rs := [5]) (by kernel_rfl) (by simp) ?_
              refine AllReadyH.cons rfl (fun K hK => ?_) AllReadyH.nil
              go_simp
              refine hK.out _ _ ?_ (fun hHeld => ?_)
              · try dsimp only
                exact VF9
              clear hK K
              try simp only [Act.put, List.getElem_toArray, List.getElem_cons_zero, List.getElem_cons_succ, List.setIfInBounds_toArray, List.set_cons_zero, List.set_cons_succ]
              refine wpAnyH_take (i := 8) (v := ?_) rfl (by kernel_rfl) (by kernel_rfl) (by kernel_rfl) (fun _ _ _ h => h) (Or.inl ⟨by rfl, ?_⟩) (by assumption) ?_
              rotate_left
              · intro w0 hSw
                (try dsimp only at hSw)
                go_simp
                try with_reducible rfl
              try simp only [Act.put, List.getElem_toArray, List.getElem_cons_zero, List.getElem_cons_succ, List.setIfInBounds_toArray, List.set_cons_zero, List.set_cons_succ]
              refine wpAnyH_take (i := 9) (v := ?_) rfl (by kernel_rfl) (by kernel_rfl) (by kernel_rfl) (fun _ _ _ h => h) (Or.inl ⟨by rfl, ?_⟩) (by assumption) ?_
              rotate_left
              · intro w0 hSw
                (try dsimp only at hSw)
                go_simp
                try with_reducible rfl
              try simp only [Act.put, List.getElem_toArray, List.getElem_cons_zero, List.getElem_cons_succ, List.setIfInBounds_toArray, List.set_cons_zero, List.set_cons_succ]
              refine wpAnyH_take (i := 10) (v := ?_) rfl (by kernel_rfl) (by kernel_rfl) (by kernel_rfl) (fun _ _ _ h => h) (Or.inl ⟨by rfl, ?_⟩) (by assumption) ?_
              rotate_left
              · intro w0 hSw
                (try dsimp only at hSw)
                go_simp
                try with_reducible rfl
              try simp only [Act.put, List.getElem_toArray, List.getElem_cons_zero, List.getElem_cons_succ, List.setIfInBounds_toArray, List.set_cons_zero, List.set_cons_succ]
              refine wpAnyH_done (by kernel_rfl) ?_ _
              clear hHeld
              go_wp2
              go_ret
              exact ⟨rfl, ((bel_drewN 1 HBL3.out).trans (B9.out.mono (by have := (HBL3.out).size; show w.heap.size ≤ w3'.heap.size; omega)))⟩
            | true =>
              have HLV := Lib.hid hl
              clear hl
              obtain ⟨y0, y1, y2, y3, y4, y5⟩ := XB.out.c6
              have lxb := XB.out.lt
              have HWF := Lib.hid (show wt.wf from HWT.out ▸ HI.out.fine.wf)
              have HBF3 := Lib.hid (HB.out.belows BR3.out)
              have lp3 := HBF3.out.hd.lt
              have lc3 := Blk.lt HBF3.out.wd
              have HGF3 := Lib.hid (HG2.out.below BR3.out HG2.out.lt)
              have lg3 := HGF3.out.lt
              obtain ⟨er, her⟩ : ∃ er, er = wt.err bs.length := ⟨_, rfl⟩
              obtain ⟨an, han⟩ : ∃ an, an = wt.ansE bs := ⟨_, rfl⟩
              have HER := Lib.hid her
              have HAN := Lib.hid han
              go_wp2_with fail
              refine (mDo_all p c cnt bs wt n0 nl nc w3' HBF3.out hc0 (by omega) HWF.out (HRN.out.below B23.out)).mono ?_
              rintro e w4' ⟨r0, rl, rc, cnt2, rfl, o4, hb4, cc0, cc1, k4⟩
              rw [← her, ← han]
              rw [← han] at o4
              have O4 := Lib.hid o4
              have HB4 := Lib.hid hb4
              have K4 := Lib.hid k4
              have z4' := k4.size
              obtain ⟨w5', hw5⟩ : ∃ w5', w5' = w4'.alloc (Obj.cells #[.int .u64 an.v, .bool an.d, .slice r0 rl rc] 33) := ⟨_, rfl⟩
              have XC := Lib.hid (show Blk w5' w4'.heap.size [.int .u64 an.v, .bool an.d, .slice r0 rl rc] by rw [hw5]; exact Blk.made w4' _ _)
              have B45 := Lib.hid (show Below w4'.heap.size w4' w5' by rw [hw5]; go_grown)
              have z45 : w5'.heap.size = w4'.heap.size + 1 := by rw [hw5]; simp
              clear her han o4 hb4 k4 y0 y1 y2 y3 y4 y5
              go_upto_region 21 with fail
              rw [← hw5]
              clear hw5
              have hgp' : ¬ (g = p ∨ g = c) := by omega
              have npc : ∀ i, w6.heap.size ≤ i → ¬ (i = p ∨ i = c) := fun i h1 h2 => by omega
              have ng : ∀ i, w6.heap.size ≤ i → ¬ i = g := fun i h1 h2 => by omega
              have NPC := Lib.hid npc
              have NG := Lib.hid ng
              clear npc ng
              have XB5 := Lib.hid ((XB.out.keep K4.out (NPC.out _ (by omega))).below B45.out (by omega))
              have G5 := Lib.hid ((HGF3.out.keep K4.out hgp').below B45.out (by omega))
              have HRO := Lib.hid (show ∀ i, (Value.slice n0 nl nc).ownBlock = some i → w6.heap.size ≤ i from fun i hi => (HDM.out i (.inl (HO.out i (HOWN.out i hi)).1)).1)
              have R5 := Lib.hid (((HRN.out.below B23.out).keepP K4.out (fun i hi => NPC.out i (HRO.out i hi))).below B45.out)
              obtain ⟨y0, y1, y2, y3, y4, y5⟩ := XB5.out.c6
              have lxb5 := XB5.out.lt
              obtain ⟨bs2, hbs2⟩ : ∃ bs2, bs2 = wt.outE bs := ⟨_, rfl⟩
              rw [← hbs2] at HB4
              have HBS2 := Lib.hid hbs2
              have HL2 := Lib.hid (show bs2.length = 512 by rw [hbs2, AA.outE_len]; exact HL.out)
              have hdo := rDo_all g bs wt n0 nl nc w5' G5.out HBF3.out.is (by rw [HL.out]; decide) HWF.out R5.out (fun _ i hi => NG.out i (HRO.out i hi))
              rw [← HER.out, ← HAN.out, ← hbs2, HL.out] at hdo
              clear hbs2
              go_wp2_with fail
              refine hdo.mono ?_
              clear hdo
              rintro e w6' ⟨q0, ql, qc, rfl, o6, hg6, k6⟩
              have O6 := Lib.hid o6
              have G6 := Lib.hid hg6
              have K6 := Lib.hid k6
              have z6' := k6.size
              obtain ⟨w7', hw7⟩ : ∃ w7', w7' = w6'.alloc (Obj.cells #[.int .u64 an.v, .bool an.d, .slice q0 ql qc] 33) := ⟨_, rfl⟩
              have XD := Lib.hid (show Blk w7' w6'.heap.size [.int .u64 an.v, .bool an.d, .slice q0 ql qc] by rw [hw7]; exact Blk.made w6' _ _)
              have B67 := Lib.hid (show Below w6'.heap.size w6' w7' by rw [hw7]; go_grown)
              have z67 : w7'.heap.size = w6'.heap.size + 1 := by rw [hw7]; simp
              clear o6 hg6 k6 y0 y1 y2 y3 y4 y5
              go_upto_region 22 with fail
              rw [← hw7]
              clear hw7
              have XC7 := Lib.hid ((XC.out.keep K6.out (by omega)).below B67.out (by omega))
              obtain ⟨v0, v1, v2⟩ := XC7.out.c3
              obtain ⟨u0, u1, u2⟩ := XD.out.c3
              have lxc := XC7.out.lt
              have lxd := XD.out.lt
              have RR7 := Lib.hid (((OwB.rd O4.out).below B45.out).keepP K6.out (fun i hi => by have := (World.ownsRow.lt O4.out i hi).1; exact NG.out i (by omega)) |>.below B67.out)
              have RQ7 := Lib.hid ((OwB.rd O6.out).below B67.out)
              have hee : (er != er) = false := by simp
              go_wp2_with fail
              refine (sameAns_ok an.v an.d r0 q0 rl rc ql qc an.b w7' RR7.out RQ7.out).mono ?_
              rintro e w8 ⟨rfl, b8⟩
              have z8 := b8.size
              have B8 := Lib.hid b8
              have XC8 := Lib.hid (XC7.out.below b8 lxc)
              have XD8 := Lib.hid (XD.out.below b8 lxd)
              have KA := Lib.hid (show Keep (fun i => i = p ∨ i = c ∨ i = g) wr w8 from ((((Below.keeps BR3.out).trans (K4.out.mono (fun i _ hi => hi.imp id .inl))).trans (Below.keeps B45.out)).trans (K6.out.mono (fun i _ hi => .inr (.inr hi)))).trans ((Below.keeps B67.out).trans (Below.keeps b8)))
              have K38 := Lib.hid (show Keep (fun i => i = p ∨ i = c ∨ i = g) w3' w8 from (((K4.out.mono (fun i _ hi => hi.imp id .inl)).trans (Below.keeps B45.out)).trans (K6.out.mono (fun i _ hi => .inr (.inr hi)))).trans ((Below.keeps B67.out).trans (Below.keeps b8)))
              have NPG := Lib.hid (show ∀ i, w6.heap.size ≤ i → ¬ (i = p ∨ i = c ∨ i = g) from fun i h1 h2 => by omega)
              have HF8 := Lib.hid (HF.out.keep KA.out (fun i hi => NPG.out i (HDM.out i (.inl hi)).1))
              have HT8 := Lib.hid (HT.out.keep KA.out (fun i hi => NPG.out i (HDM.out i (.inr hi)).1))
              have HU := Lib.hid (show inU an.v by rw [HAN.out]; exact AA.ansE_in HB.out.is)
              clear b8 v0 v1 v2 u0 u1 u2
              obtain ⟨v0, v1, v2⟩ := XC8.out.c3
              have lxc8 := XC8.out.lt
              go_wp2_with fail
              refine (pTake_f an r0 rl rc w8 HF8.out HU.out).mono ?_
              rintro e w9 ⟨rfl, F', hF9, hF9s, k9⟩
              have z9 := k9.size
              have HF9 := Lib.hid hF9
              have HFS := Lib.hid hF9s
              have K9 := Lib.hid k9
              have XD9 := Lib.hid (XD8.out.keep k9 (fun h => by have := (HDM.out _ (.inl h)).2; omega))
              have HT9 := Lib.hid (HT8.out.keep k9 (fun i hi h => HDJ.out i h hi))
              clear hF9 hF9s k9 v0 v1 v2
              obtain ⟨u0, u1, u2⟩ := XD9.out.c3
              have lxd9 := XD9.out.lt
              have b10 : Below w9.heap.size w9 (w9.alloc (Obj.cells #[.int .u64 an.v, .bool an.d, .slice q0 ql qc] 33)) := (Below.refl _ _).alloc (Nat.le_refl _) _
              have HT10 := Lib.hid (HT9.out.below b10)
              have NB := Lib.hid (show Blk (w9.alloc (Obj.cells #[.int .u64 an.v, .bool an.d, .slice q0 ql qc] 33)) w9.heap.size [.int .u64 an.v, .bool an.d, .slice q0 ql qc] from Blk.made w9 _ _)
              have B10 := Lib.hid b10
              have z10 : (w9.alloc (Obj.cells #[.int .u64 an.v, .bool an.d, .slice q0 ql qc] 33)).heap.size = w9.heap.size + 1 := by simp
              have Z10 := Lib.hid z10
              clear b10 z10
              go_wp2_with (refine list_app1 rfl (.tmp 114) (.tmp 116) 40 33 rfl Tryz.underlying40 ji jz0 jz1 jz2 rfl (by decide) (.slice ta T.length tc) T.length (T.flatMap AnsV.cs) rfl HT10.out.own w9.heap.size [.int .u64 an.v, .bool an.d, .slice q0 ql qc] rfl NB.out rfl (by simp [Value.oneCell']) (by omega) (by unfold maxLen; omega) ?_)
              intro v10 w10 o10 g10 e10
              have k10 : Keep (fun i => (Value.slice ta T.length tc).ownBlock = some i) w9 w10 := (Below.keeps B10.out).trans (grown_keep g10)
              have zz10 := (grown_keep g10).size
              rw [Z10.out] at zz10
              have hT11 : AnO w10 (fun i => P i ∨ (w5'.heap.size ≤ i ∧ i < w6'.heap.size) ∨ (w9.heap.size ≤ i ∧ i < w10.heap.size)) v10 (T ++ [⟨an.v, an.d, .slice q0 ql qc, an.b⟩]) := by
                have hPl : ∀ i, P i → i < wr.heap.size := fun i hi => (HDM.out i (.inr hi)).2
                refine (HT10.out.mono (fun i hi => .inl hi)).push ⟨an.v, an.d, .slice q0 ql qc, an.b⟩ ⟨⟨_, _, _, rfl⟩, ?_, HU.out⟩ (fun i hi => ?_) (fun y hy i hi => ?_) (grown_keep g10) o10 ?_
                · exact ((((OwB.rd O6.out).below B67.out).below B8.out).keepP K9.out (fun i hi h => by have h1 := (World.ownsRow.lt O6.out i hi).1; have h2 := (HDM.out _ (.inl h)).2; omega)).below B10.out
                · have h1 := World.ownsRow.lt O6.out i hi
                  refine ⟨.inr (.inl ⟨h1.1, h1.2⟩), fun h2 => ?_, ?_⟩
                  · have := hPl i (HT.out.blk i h2)
                    omega
                  · rw [Z10.out]
                    omega
                · have := hPl i ((HT.out.els y hy).2.2.1 i hi).1
                  rw [Z10.out]
                  omega
                · rcases e10 with e | e
                  · exact .inl e
                  · have h1 := (World.ownsRow.lt o10 _ e).2
                    exact .inr ⟨_, e, by rw [Z10.out]; exact Nat.le_refl _, .inr (.inr ⟨by omega, h1⟩)⟩
              obtain ⟨va, vc, rfl⟩ := hT11.sl
              have hF11 : PutF w10 F' q (((PutC.init C).told T).step an) := HF9.out.keep k10 (fun i hi h => by
                have h1 := HT.out.blk i h
                rcases HFS.out i hi with h2 | h2
                · exact HDJ.out i h2 h1
                · have := (HDM.out i (.inr h1)).2
                  omega)
              have etold : ((PutC.init C).told T).step an = (PutC.init C).told (T ++ [⟨an.v, an.d, .slice q0 ql qc, an.b⟩]) := (PutM.told_snoc ((PutC.init C)) T ⟨an.v, an.d, .slice q0 ql qc, an.b⟩).symm
              rw [etold] at hF11
              have HT11 := Lib.hid hT11
              have HF11 := Lib.hid hF11
              have K810 := Lib.hid (show Keep (fun i => F i ∨ P i) w8 w10 from (K9.out.mono (fun i _ hi => .inl hi)).trans (k10.mono (fun i _ hi => .inr (HT.out.blk i hi))))
              have KALL := Lib.hid (show Keep (fun i => i = p ∨ i = c ∨ i = g ∨ F i ∨ P i) wr w10 from (KA.out.mono (fun i _ hi => by rcases hi with h | h | h; exact .inl h; exact .inr (.inl h); exact .inr (.inr (.inl h)))).trans (K810.out.mono (fun i _ hi => .inr (.inr (.inr hi)))))
              have NFP := Lib.hid (show ∀ i, i < w6.heap.size ∨ wr.heap.size ≤ i → ¬ (F i ∨ P i) from fun i h1 h2 => by have := HDM.out i h2; omega)
              have HXR := Lib.hid ((XR.out.keep HKP2.out (by omega)).keep KALL.out (fun h => by rcases h with h | h | h | h; omega; omega; omega; exact NFP.out _ (.inl (by omega)) h))
              have HRB := Lib.hid (RBB.out.below (HBL.out.trans (KALL.out.below (B := w.heap.size) HBL.out.size (fun i h1 h2 => by have := HPW.out; have := HGW.out; have := BR.out.size; rcases h2 with h | h | h | h; omega; omega; omega; exact NFP.out _ (.inl (by omega)) h))))
              have XA10 := Lib.hid ((((XA.out.below (BB2.out) (by omega)).below B23.out (by omega)).keep K38.out (NPG.out _ (by omega))).keep K810.out (NFP.out _ (.inr (Nat.le_refl _))))
              have HB10 := Lib.hid (((((HB4.out.belows B45.out).keep K6.out (by omega) (by omega)).belows B67.out).belows B8.out).keep K810.out (NFP.out _ (.inl (by omega))) (NFP.out _ (.inl (by omega))))
              have HG10 := Lib.hid (((G6.out.below B67.out (by omega)).below B8.out (by omega)).keep K810.out (NFP.out _ (.inl (by omega))))
              clear hT11 hF11 o10 g10 e10 k10 etold u0 u1 u2
              have r0' := HXR.out.cell 0
              have r1' := HXR.out.cell 1
              have lrx := HXR.out.lt
              simp only [List.getElem?_cons_zero, List.getElem?_cons_succ] at r0' r1'
              have HF12 := HF11.out
              obtain ⟨fq2, fsz2, O2, bv2, hO2, hI2⟩ := HF12
              have HI2 := Lib.hid hI2
              have HTN := Lib.hid hTn
              clear hI2 hO2 fsz2 fq2
              go_wp2_with fail
              have hlen : (T ++ [(⟨an.v, an.d, .slice q0 ql qc, an.b⟩ : AnsV)]).length = T.length + 1 := by rw [List.length_append]; rfl
              have hsame := same07_any b0 s typ ba bn bc bl va vc (T ++ [⟨an.v, an.d, .slice q0 ql qc, an.b⟩]) O2 q bv2 ((PutC.init C).told (T ++ [⟨an.v, an.d, .slice q0 ql qc, an.b⟩])) w10 (by rw [PutM.eat_ans, HC.out]) HI2.out HT11.out.rdA HT11.out.sls HT11.out.rdAs (by rw [hlen]; have := HTN.out; omega) HT11.out.ins HRB.out (by omega) (by omega) (by omega) (by omega) htyp.2
              rw [hlen] at hsame
              refine hsame.mono ?_
              clear hsame
              have HLN := Lib.hid hlen
              clear hlen
              rintro e w11 ⟨rfl, b11⟩
              have z11 := b11.size
              have B11 := Lib.hid b11
              have XA11 := Lib.hid (XA10.out.below b11 XA10.out.lt)
              have HB11 := Lib.hid (HB10.out.belows b11)
              have HG11 := Lib.hid (HG10.out.below b11 HG10.out.lt)
              have hT12 := HT11.out.below b11
              rw [HLN.out] at hT12
              have HT12 := Lib.hid hT12
              clear hT12
              have HF13 := Lib.hid (HF11.out.below b11)
              have KALL2 := Lib.hid (KALL.out.trans (Below.keeps b11))
              have hFP : ∀ i, F' i ∨ (P i ∨ (w5'.heap.size ≤ i ∧ i < w6'.heap.size) ∨ (w9.heap.size ≤ i ∧ i < w10.heap.size)) → w6.heap.size ≤ i ∧ i < w11.heap.size := by
                rintro i (h | h | h | h)
                · have h1 := HF11.out.2.1 i h
                  rcases HFS.out i h with h2 | h2
                  · have := (HDM.out i (.inl h2)).1
                    omega
                  · omega
                · have := HDM.out i (.inr h)
                  omega
                · omega
                · omega
              have hDJ : ∀ i, F' i → ¬ (P i ∨ (w5'.heap.size ≤ i ∧ i < w6'.heap.size) ∨ (w9.heap.size ≤ i ∧ i < w10.heap.size)) := by
                rintro i h (h1 | h1 | h1)
                · rcases HFS.out i h with h2 | h2
                  · exact HDJ.out i h2 h1
                  · have := (HDM.out i (.inr h1)).2
                    omega
                · rcases HFS.out i h with h2 | h2
                  · have := (HDM.out i (.inl h2)).2
                    omega
                  · omega
                · have h3 := HF9.out.2.1 i h
                  omega
              have HFP := Lib.hid hFP
              have HDJ2 := Lib.hid hDJ
              clear b11 hFP hDJ r0' r1'
              have t0 := XA11.out.cell 0
              have t1 := XA11.out.cell 1
              have lt11 := XA11.out.lt
              simp only [List.getElem?_cons_zero, List.getElem?_cons_succ] at t0 t1
              obtain ⟨kk, hkk⟩ : ∃ kk : Nat, x.a % 200 = kk := ⟨(x.a % 200).toNat, by omega⟩
              have htm : x.a.tmod 200 = (kk : Int) := by rw [Int.tmod_eq_emod_of_nonneg xa0]; exact hkk
              have hk2 : kk < 200 := by omega
              have Wk : IntKind.i64.wrap (8 * (kk : Int)) = 8 * (kk : Int) := IntWalk.i64_in _ ⟨by omega, by omega⟩
              clear hkk
              obtain ⟨A2, hA2⟩ : ∃ A2 : AA, A2 = ⟨2, 8 * (kk : Int), 8, x.v, 0, []⟩ := ⟨_, rfl⟩
              have HA2 := Lib.hid hA2
              have hwf2 : A2.wf := by rw [hA2]; exact ⟨IsB.nil, Nat.zero_le _, xv0, xv1, Int.le_refl 0, by show (0 : Int) ≤ _; omega⟩
              have HWF2 := Lib.hid hwf2
              have eV : A2.V (.slice none 0 0) = .agg #[.int .i64 2, .int .i64 (8 * (kk : Int)), .int .i64 8, .int .u64 x.v, .int .u64 0, .slice none 0 0] := by rw [hA2]; rfl
              have eb : A2.b = [] := by rw [hA2]
              have EB := Lib.hid eb
              have EV := Lib.hid eV
              have hcn : 0 ≤ cnt2 := by omega
              clear hA2 hwf2 eV eb
              by_cases hin : 8 * (kk : Int) < 512
              · have hdo := mDo_all p c cnt2 bs2 A2 none 0 0 w11 HB11.out hcn (by omega) HWF2.out (by rw [EB.out]; exact .inl ⟨rfl, rfl⟩)
                rw [EV.out] at hdo
                go_wp2_with fail
                refine hdo.mono ?_
                clear hdo
                rintro e w12 ⟨_, _, _, cnt3, rfl, _, hb12, cd0, cd1, k12⟩
                have z12 := k12.size
                have HB12 := Lib.hid hb12
                have K12 := Lib.hid k12
                have HG12 := Lib.hid (HG11.out.keep k12 hgp')
                have XA12 := Lib.hid (XA11.out.keep k12 (NPC.out _ (by omega)))
                clear hb12 k12 t0 t1
                have t0 := XA12.out.cell 0
                have t1 := XA12.out.cell 1
                have lt12 := XA12.out.lt
                simp only [List.getElem?_cons_zero, List.getElem?_cons_succ] at t0 t1
                have hdo := rDo_all g bs2 A2 none 0 0 w12 HG12.out HB11.out.is (by rw [HL2.out]; decide) HWF2.out (by rw [EB.out]; exact .inl ⟨rfl, rfl⟩) (fun h => absurd (by rw [EB.out]; rfl) h)
                rw [EV.out, HL2.out] at hdo
                go_wp2_with fail
                refine hdo.mono ?_
                clear hdo
                rintro e w13 ⟨_, _, _, rfl, _, hg13, k13⟩
                have z13 := k13.size
                have HG13 := Lib.hid hg13
                have K13 := Lib.hid k13
                have K1113 := Lib.hid (show Keep (fun i => i = p ∨ i = c ∨ i = g) w11 w13 from (K12.out.mono (fun i _ hi => hi.imp id .inl)).trans (k13.mono (fun i _ hi => .inr (.inr hi))))
                have HB13 := Lib.hid (HB12.out.keep k13 (by omega) (by omega))
                clear hg13 k13
                go_wp2
                refine ⟨⟨n + 1, _, F', _, A2.outE bs2, cnt3, by omega, by go_num, HT12.out.keep K1113.out (fun i hi => NPG.out i (HFP.out i (.inr hi)).1), HF13.out.keep K1113.out (fun i hi => NPG.out i (HFP.out i (.inl hi)).1), HB13.out, HG13.out, by rw [AA.outE_len]; exact HL2.out, by omega, by omega, by have := HTN.out; simp; omega, fun i hi => ⟨(HFP.out i hi).1, by have := (HFP.out i hi).2; omega⟩, HDJ2.out, ?_⟩, by simp [intOf]; omega⟩
                refine HKP2.out.then (KALL2.out.trans (K1113.out.mono (fun i _ hi => by rcases hi with h | h | h; exact .inl h; exact .inr (.inl h); exact .inr (.inr (.inl h))))) (fun i hi h => ?_)
                rcases h with h | h | h | h
                · exact .inl h
                · exact .inr (.inl h)
                · exact .inr (.inr h)
                · exact absurd h (NFP.out i (.inl hi))
              · go_wp2
                refine ⟨⟨n + 1, _, F', _, bs2, cnt2, by omega, by go_num, HT12.out, HF13.out, HB11.out, HG11.out, HL2.out, by omega, by omega, by have := HTN.out; simp; omega, HFP.out, HDJ2.out, ?_⟩, by simp [intOf]; omega⟩
                refine HKP2.out.then KALL2.out (fun i hi h => ?_)
                rcases h with h | h | h | h
                · exact .inl h
                · exact .inr (.inl h)
                · exact .inr (.inr h)
                · exact absurd h (NFP.out i (.inl hi))
          · obtain rfl : n = Ws.length := by omega
            have hni : ¬ (Ws.length : Int) < (Ws.length : Int) := by omega
            have hrdF : RdB wr (.slice (some ⟨g, 0, none⟩) 512 512) bs := by
              have h1 := rd_sub HG2.out (a := 0) (n := 512) (by rw [HL.out]; decide) (by rw [HL.out]; unfold maxLen; omega)
              rw [HL.out, List.drop_zero, List.take_of_length_le (by rw [HL.out]; exact Nat.le_refl _)] at h1
              exact h1
            have HRDF := Lib.hid (RdB.drewN 1 hrdF)
            have VF := conv_rd (w := wr.drew) 22 9 Tryz.underlying22 Tryz.underlying9 HRDF.out
            clear hrdF
            go_wp2_with fail
            refine wp_region_held_drew (S := (fun w' => (convert 22 9 (.slice (some ⟨g, 0, none⟩) 512 512)).run Tryz.prog w' = .ok (.string (strOfNums bs)) w')) (by kernel_rfl) ?_ (fun hHeld => ?_)
            · try dsimp only
              exact VF
            refine wpAnyH_take (i := 0) (v := ?_) rfl (by kernel_rfl) (by kernel_rfl) (by kernel_rfl) (fun _ _ _ h => h) (Or.inl ⟨by rfl, ?_⟩) (by assumption) ?_
            rotate_left
            · intro w0 hSw
              (try dsimp only at hSw)
              go_simp
              try with_reducible rfl
            try simp only [Act.put, List.getElem_toArray, List.getElem_cons_zero, List.getElem_cons_succ, List.setIfInBounds_toArray, List.set_cons_zero, List.set_cons_succ]
            refine wpAnyH_take (i := 1) (v := ?_) rfl (by kernel_rfl) (by kernel_rfl) (by kernel_rfl) (fun _ _ _ h => h) (Or.inl ⟨by rfl, ?_⟩) (by assumption) ?_
            rotate_left
            · intro w0 hSw
              (try dsimp only at hSw)
              go_simp
              try with_reducible rfl
            try simp only [Act.put, List.getElem_toArray, List.getElem_cons_zero, List.getElem_cons_succ, List.setIfInBounds_toArray, List.set_cons_zero, List.set_cons_succ]
            refine wpAnyH_take (i := 2) (v := ?_) rfl (by kernel_rfl) (by kernel_rfl) (by kernel_rfl) (fun _ _ _ h => h) (Or.inl ⟨by rfl, ?_⟩) (by assumption) ?_
            rotate_left
            · intro w0 hSw
              (try dsimp only at hSw)
              go_simp
              try with_reducible rfl
            try simp only [Act.put, List.getElem_toArray, List.getElem_cons_zero, List.getElem_cons_succ, List.setIfInBounds_toArray, List.set_cons_zero, List.set_cons_succ]
            refine wpAnyH_take (i := 3) (v := ?_) rfl (by kernel_rfl) (by kernel_rfl) (by kernel_rfl) (fun _ _ _ h => h) (Or.inl ⟨by rfl, ?_⟩) (by assumption) ?_
            rotate_left
            · intro w0 hSw
              (try dsimp only at hSw)
              go_simp
              try with_reducible rfl
            try simp only [Act.put, List.getElem_toArray, List.getElem_cons_zero, List.getElem_cons_succ, List.setIfInBounds_toArray, List.set_cons_zero, List.set_cons_succ]
            refine wpAnyH_take (i := 6) (v := ?_) rfl (by kernel_rfl) (by kernel_rfl) (by kernel_rfl) (fun _ _ _ h => h) (Or.inl ⟨by rfl, ?_⟩) (by assumption) ?_
            rotate_left
            · intro w0 hSw
              (try dsimp only at hSw)
              go_simp
              try with_reducible rfl
            try simp only [Act.put, List.getElem_toArray, List.getElem_cons_zero, List.getElem_cons_succ, List.setIfInBounds_toArray, List.set_cons_zero, List.set_cons_succ]
            refine wpAnyH_take (i := 7) (v := ?_) rfl (by kernel_rfl) (by kernel_rfl) (by kernel_rfl) (fun _ _ _ h => h) (Or.inl ⟨by rfl, ?_⟩) (by assumption) ?_
            rotate_left
            · intro w0 hSw
              (try dsimp only at hSw)
              go_simp
              try with_reducible rfl
            try simp only [Act.put, List.getElem_toArray, List.getElem_cons_zero, List.getElem_cons_succ, List.setIfInBounds_toArray, List.set_cons_zero, List.set_cons_succ]
            refine wpAnyH_ready (rs := [4]) (by kernel_rfl) (by simp) ?_
            refine AllReadyH.cons rfl (fun K hK => ?_) AllReadyH.nil
            go_simp
            go_at_call 18
            refine (mBytes_any p c _ bs _ (HB.out.belows (bel_drewN 1 (Below.refl _ _)))).mono ?_
            rintro e w9 ⟨bv, rfl, o9, b9⟩
            obtain ⟨c0, cl, cc, rfl⟩ := o9.isSliceC
            have V9 := conv_rd (w := w9) 22 9 Tryz.underlying22 Tryz.underlying9 o9.rd
            have VF9 := conv_rd (w := w9) 22 9 Tryz.underlying22 Tryz.underlying9 (HRDF.out.below b9)
            have B9 := Lib.hid b9
            clear o9 b9
            go_wp2_with fail
            refine hK.out _ _ ?_ (fun hHeld => ?_)
            · try dsimp only
              exact VF9
            clear hK K
            try simp only [Act.put, List.getElem_toArray, List.getElem_cons_zero, List.getElem_cons_succ, List.setIfInBounds_toArray, List.set_cons_zero, List.set_cons_succ]
            refine wpAnyH_ready (rs := [5]) (by kernel_rfl) (by simp) ?_
            refine AllReadyH.cons rfl (fun K hK => ?_) AllReadyH.nil
            go_simp
            refine hK.out _ _ ?_ (fun hHeld => ?_)
            · try dsimp only
              exact VF9
            clear hK K
            try simp only [Act.put, List.getElem_toArray, List.getElem_cons_zero, List.getElem_cons_succ, List.setIfInBounds_toArray, List.set_cons_zero, List.set_cons_succ]
            refine wpAnyH_take (i := 8) (v := ?_) rfl (by kernel_rfl) (by kernel_rfl) (by kernel_rfl) (fun _ _ _ h => h) (Or.inl ⟨by rfl, ?_⟩) (by assumption) ?_
            rotate_left
            · intro w0 hSw
              (try dsimp only at hSw)
              go_simp
              try with_reducible rfl
            try simp only [Act.put, List.getElem_toArray, List.getElem_cons_zero, List.getElem_cons_succ, List.setIfInBounds_toArray, List.set_cons_zero, List.set_cons_succ]
            refine wpAnyH_take (i := 9) (v := ?_) rfl (by kernel_rfl) (by kernel_rfl) (by kernel_rfl) (fun _ _ _ h => h) (Or.inl ⟨by rfl, ?_⟩) (by assumption) ?_
            rotate_left
            · intro w0 hSw
              (try dsimp only at hSw)
              go_simp
              try with_reducible rfl
            try simp only [Act.put, List.getElem_toArray, List.getElem_cons_zero, List.getElem_cons_succ, List.setIfInBounds_toArray, List.set_cons_zero, List.set_cons_succ]
            refine wpAnyH_take (i := 10) (v := ?_) rfl (by kernel_rfl) (by kernel_rfl) (by kernel_rfl) (fun _ _ _ h => h) (Or.inl ⟨by rfl, ?_⟩) (by assumption) ?_
            rotate_left
            · intro w0 hSw
              (try dsimp only at hSw)
              go_simp
              try with_reducible rfl
            try simp only [Act.put, List.getElem_toArray, List.getElem_cons_zero, List.getElem_cons_succ, List.setIfInBounds_toArray, List.set_cons_zero, List.set_cons_succ]
            refine wpAnyH_done (by kernel_rfl) ?_ _
            clear hHeld
            go_wp2
            go_ret
            exact ⟨rfl, ((bel_drewN 1 HBL.out).trans (B9.out.mono (by have := (HBL.out).size; show w.heap.size ≤ wr.heap.size; omega)))⟩
set_option maxHeartbeats 1000000 in
theorem shares_early (base bits typ : Int) (sa : Option Addr) (sn sc : Nat) (ba : Option Addr) (bn bc : Nat) (la : Option Addr) (ln lc : Nat) (w : World) (h : 400 < sn ∨ 60 < bn ∨ 150 < ln) :
    Calls Tryz.prog 3 #[.slice sa sn sc, .int .u8 base, .int .u8 bits, .int .i32 typ, .slice ba bn bc, .slice la ln lc] w fun e w' => e = .returned (.bool true) ∧ Below w.heap.size w w' := by
  by_cases h1 : (400 : Int) < (sn : Int)
  · go_enter Tryz.func3, Tryz.ntmps3
    go_wp2_with fail
    refine (fixed07_any _).mono ?_
    rintro e w1 ⟨rfl, b1⟩
    go_wp2
    go_ret
    exact ⟨rfl, b1⟩
  by_cases h2 : (60 : Int) < (bn : Int)
  · clear h
    go_enter Tryz.func3, Tryz.ntmps3
    go_wp2_with fail
    refine (fixed07_any _).mono ?_
    rintro e w1 ⟨rfl, b1⟩
    go_wp2
    go_ret
    exact ⟨rfl, b1⟩
  have h3 : (150 : Int) < (ln : Int) := by omega
  clear h
  go_enter Tryz.func3, Tryz.ntmps3
  go_wp2_with fail
  refine (fixed07_any _).mono ?_
  rintro e w1 ⟨rfl, b1⟩
  go_wp2
  go_ret
  exact ⟨rfl, b1⟩
theorem u8_bdQ {a : Int} (h : (Lit.int .u8 a).wf = true) : 0 ≤ a ∧ a ≤ 255 := by
  simpa [Lit.wf, IntKind.min, IntKind.max, IntKind.signed, IntKind.bits] using h
theorem shares_said (v : Value) (fl : List Int) (base : Int) (wb : (Lit.int .u8 base).wf = true) (bits : Int) (wi : (Lit.int .u8 bits).wf = true) (typ : Int) (wt : (Lit.int .i32 typ).wf = true) (bv : Value) (bl : List Int) (lv : Value) (Ws : List WrV) (w : World) (rf : RdB w v fl) (bf : IsB fl) (rb : RdB w bv bl) (bb : IsB bl) (hr : RdR w lv 2 (Ws.map WrV.cs)) (hW : ∀ x ∈ Ws, WrV.Ok x) :
    Calls Tryz.prog 3 #[v, .int .u8 base, .int .u8 bits, .int .i32 typ, bv, lv] w fun e w' => e = .returned (.bool true) ∧ Below w.heap.size w w' := by
  obtain ⟨sa, sn, sc, rfl⟩ := rd_sliceS rf
  obtain ⟨ba, bn, bc, rfl⟩ := rd_sliceS rb
  obtain ⟨la, lc, rfl⟩ : ∃ t0 tc, lv = .slice t0 Ws.length tc := by
    rcases hr with ⟨rfl, h2⟩ | ⟨a, cap, rfl, h2, _⟩ | ⟨b, off, cap, rfl, _⟩
    · have : Ws.length = 0 := by have := congrArg List.length h2; simpa using this
      exact ⟨none, 0, by rw [this]⟩
    · have : Ws.length = 0 := by have := congrArg List.length h2; simpa using this
      exact ⟨some a, cap, by rw [this]⟩
    · exact ⟨_, _, by rw [List.length_map]⟩
  by_cases h1 : 400 < sn ∨ 60 < bn ∨ 150 < Ws.length
  · exact shares_early base bits typ sa sn sc ba bn bc la Ws.length lc w h1
  · exact shares_main base bits typ (u8_bdQ wb) (u8_bdQ wi) (i32_bdS wt) sa sn sc fl ba bn bc bl la lc Ws w rf bf rb bb hr hW (by omega) (by omega) (by omega)
end Go.Proofs.YtknahaaefmlcpaaGreat
