/- The walk of the law TopNear. Conditions: as each says. -/
import Derived.Test.YtggjhleomocojaaGreatUj
namespace Go.Proofs.YtggjhleomocojaaGreat
set_option maxRecDepth 100000
open Go.RowKit
set_option linter.unusedVariables false
set_option linter.unusedSimpArgs false
structure NearAt (w5 wr : World) (p c rb sb n s : Nat) (k : Nat) (T : Nat) (L : Nat) : Prop where
 buf : ∃ cnt bs, Buf wr p c cnt bs ∧ 0 ≤ cnt ∧ cnt ≤ k * 100000 ∧ bs.length = 1088 ∧ rdN bs (s + 8) 8 = (T : Int) ∧ rdN bs (s + 16) 8 = (L : Int)
 ring : Blk wr rb [.int .i64 0, .int .i64 s]
 ears : Blk wr sb ((List.replicate n (⟨(L : Int), (T : Int), 0⟩ : EarV)).flatMap earL)
 T8 : T % 8 = 0
 Tb : T ≤ k * 4096
 Lb : L ≤ T
 kp : Keep (fun i => i = p ∨ i = c ∨ i = sb) w5 wr
theorem rd_tail {w : World} {g off n cap : Nat} {l : List Int} (hm : cap ≤ maxLen) (hn : l.length = n) (hc : n ≤ cap) (h : ∀ i, i < n → w.cell? ⟨g, off + i, none⟩ = some (.int .u8 (gB l i))) (a : Nat) (ha : a ≤ n) : RdB w (.slice (some ⟨g, off + a, none⟩) (n - a) (cap - a)) (l.drop a) := by
 refine .inr (.inr ⟨g, off + a, cap - a, by simp [hn], by simp [hn]; omega, by omega, fun i hi => ?_⟩)
 simp [hn] at hi
 have := h (a + i) (by omega)
 rw [show off + a + i = off + (a + i) by omega, this]
 congr 1
 simp [gB, List.getD]
theorem made_ears (m : Nat) (h : m ≤ 2) : (madeCells #[Value.int .i64 0, Value.int .i64 0, Value.int .i64 0] ((m + 1) * 3)).toList = (List.replicate (m + 1) (⟨((0 : Nat) : Int), ((0 : Nat) : Int), 0⟩ : EarV)).flatMap earL := by
 match m, h with
 | 0, _ => simp [madeCells, earL, List.range, List.range.loop, List.replicate]
 | 1, _ => simp [madeCells, earL, List.range, List.range.loop, List.replicate]
 | 2, _ => simp [madeCells, earL, List.range, List.range.loop, List.replicate]
def earsJ (n j : Nat) (a b : EarV) : List EarV := List.replicate j a ++ List.replicate (n - j) b
theorem earsJ_set {n j : Nat} {a b : EarV} (h : j < n) : (earsJ n j a b).set j a = earsJ n (j + 1) a b := by
 unfold earsJ
 rw [List.set_append_right _ _ (by simp), List.length_replicate, Nat.sub_self]
 obtain ⟨d, hd⟩ : ∃ d, n - j = d + 1 := ⟨n - j - 1, by omega⟩
 rw [hd, show n - (j + 1) = d by omega, List.replicate_succ, List.set_cons_zero, List.replicate_succ', List.append_assoc]
 rfl
theorem earsJ_at {n j : Nat} {a b : EarV} (h : j < n) : (earsJ n j a b)[j]? = some b := by
 unfold earsJ
 rw [List.getElem?_append_right (by simp), List.length_replicate, Nat.sub_self, List.getElem?_replicate, if_pos (by omega)]
theorem earsJ_len (n j : Nat) (a b : EarV) (h : j ≤ n) : (earsJ n j a b).length = n := by
 unfold earsJ
 simp
 omega
theorem earsJ_0 (n : Nat) (a b : EarV) : earsJ n 0 a b = List.replicate n b := by unfold earsJ; simp
theorem earsJ_n (n : Nat) (a b : EarV) : earsJ n n a b = List.replicate n a := by unfold earsJ; simp
structure NearJ (w6 wl : World) (p c rb sb mb n s j : Nat) (bs : List Int) (c0 : Int) (a b : EarV) (x1 : Int) (sv : Value) (x2 : List Int) : Prop where
 buf : ∃ cnt, Buf wl p c cnt bs ∧ c0 ≤ cnt ∧ cnt ≤ c0 + j * 1000
 ring : Blk wl rb [.int .i64 0, .int .i64 s]
 msg : Blk wl mb [.int .i32 x1, sv]
 dat : RdB wl sv x2
 ears : Blk wl sb ((earsJ n j a b).flatMap earL)
 kp : Keep (fun i => i = p ∨ i = c ∨ i = sb) w6 wl
set_option maxHeartbeats 8000000 in
theorem near_main (bits many : Int) (hbits : 0 ≤ bits ∧ bits ≤ 255) (hmany : 0 ≤ many ∧ many ≤ 255) (a0 : Option Addr) (cap : Nat) (l : List (Int × List Int)) (L0 : Nat → Prop) (w : World) (hL0 : ∀ i, L0 i → i < w.heap.size) (hr : RdMs w L0 (.slice a0 l.length cap) l) (hlo : ∀ x ∈ l, (-2147483648 ≤ x.1 ∧ x.1 ≤ 2147483647) ∧ IsB x.2) :
  Calls Tryz.prog 3 #[.int .u8 bits, .slice a0 l.length cap, .int .u8 many] w fun e w' => e = .returned (.bool true) ∧ Below w.heap.size w w' := by
 have HR := Lib.hid hr
 have HLO := Lib.hid hlo
 obtain ⟨NL, hNL⟩ : ∃ NL, NL = l.length := ⟨_, rfl⟩
 rw [← hNL]
 have HNL := Lib.hid hNL
 obtain ⟨m, hm⟩ : ∃ m : Nat, many.tmod 3 = (m : Int) := ⟨(many % 3).toNat, by rw [Int.tmod_eq_emod_of_nonneg hmany.1]; omega⟩
 have hm2 : m ≤ 2 := by rw [Int.tmod_eq_emod_of_nonneg hmany.1] at hm; omega
 clear hr hlo hNL
 go_enter Tryz.func3, Tryz.ntmps3
 go_wp2_with fail
 refine (moves_any _).mono ?_
 rintro e w1 ⟨rfl, b1⟩
 have z1 := b1.size
 have B1 := Lib.hid b1
 clear b1
 go_upto_region 3 with fail
 go_cut [7] from 26 to 29 (fun rp wx => ∃ s : Nat, rp = .pointer (some ⟨w1.heap.size, 0, none⟩) ∧ (s = 64 ∨ s = 128 ∨ s = 256 ∨ s = 512 ∨ s = 1024) ∧ Blk wx w1.heap.size [.int .i64 0, .int .i64 s] ∧ Below w1.heap.size w1 wx ∧ w1.heap.size < wx.heap.size)
 case first =>
  have ht : bits.tmod 5 = bits % 5 := Int.tmod_eq_emod_of_nonneg hbits.1
  have hc : bits % 5 = 0 ∨ bits % 5 = 1 ∨ bits % 5 = 2 ∨ bits % 5 = 3 ∨ bits % 5 = 4 := by omega
  rcases hc with hc | hc | hc | hc | hc
  ·rw [hc] at ht
   go_wp2_with fail
   go_meet
   exact ⟨64, rfl, by omega, Blk.made w1 #[.int .i64 0, .int .i64 64] _, (Below.refl _ _).alloc (Nat.le_refl _) _, by simp⟩
  ·rw [hc] at ht
   go_wp2_with fail
   go_meet
   exact ⟨128, rfl, by omega, Blk.made w1 #[.int .i64 0, .int .i64 128] _, (Below.refl _ _).alloc (Nat.le_refl _) _, by simp⟩
  ·rw [hc] at ht
   go_wp2_with fail
   go_meet
   exact ⟨256, rfl, by omega, Blk.made w1 #[.int .i64 0, .int .i64 256] _, (Below.refl _ _).alloc (Nat.le_refl _) _, by simp⟩
  ·rw [hc] at ht
   go_wp2_with fail
   go_meet
   exact ⟨512, rfl, by omega, Blk.made w1 #[.int .i64 0, .int .i64 512] _, (Below.refl _ _).alloc (Nat.le_refl _) _, by simp⟩
  ·rw [hc] at ht
   go_wp2_with fail
   go_meet
   exact ⟨1024, rfl, by omega, Blk.made w1 #[.int .i64 0, .int .i64 1024] _, (Below.refl _ _).alloc (Nat.le_refl _) _, by simp⟩
 case rest =>
  obtain ⟨s, rfl, hs, hB, bb, lb⟩ := hcut
  have hrg : rgOk 0 (s : Int) = true := by rcases hs with rfl | rfl | rfl | rfl | rfl <;> decide +kernel
  have hs8 : s % 8 = 0 := by omega
  have hs64 : 64 ≤ s := by omega
  have hs1024 : s ≤ 1024 := by omega
  have HRG := Lib.hid hrg
  have X2 := Lib.hid hB
  have B2 := Lib.hid (B1.out.trans (bb.mono z1))
  have z2 := bb.size
  have x1 := X2.out.cell 1
  simp only [List.getElem?_cons_zero, List.getElem?_cons_succ] at x1
  clear hB bb hs hrg
  obtain ⟨rb, hrb⟩ : ∃ rb, rb = w1.heap.size := ⟨_, rfl⟩
  have HRB := Lib.hid (show w1.heap.size ≤ rb by omega)
  rw [← hrb] at X2 x1 lb ⊢
  clear hrb
  go_wp2_with fail
  rw [HNL.out]
  refine (fewT_any s (by omega) (by omega) (HR.out.keep (Below.keeps (M := fun _ => False) B2.out) (fun _ _ => id))).mono ?_
  rintro e w3 ⟨rfl, b3⟩
  rw [← HNL.out]
  cases hfw : fewT ((s : Int) / 8) l with
  | false =>
   have B3 := Lib.hid (B2.out.trans (b3.mono B2.out.size))
   clear b3
   go_wp2
   go_ret
   exact ⟨rfl, B3.out⟩
  | true =>
  have HFT := Lib.hid (fewT_true hfw)
  have z3 := b3.size
  have B3 := Lib.hid (B2.out.trans (b3.mono B2.out.size))
  have X3 := Lib.hid (X2.out.below b3 lb)
  clear b3 hfw x1
  go_wp2_with fail
  refine (mNew_at 1088 136 _ (by decide) (by decide) (by decide)).mono ?_
  rintro e w4 ⟨p, c, rfl, hb4, hp, hc, b4⟩
  have z4 := b4.size
  have HB4 := Lib.hid hb4
  have X4 := Lib.hid (X3.out.below b4 (by omega))
  have B4 := Lib.hid (B3.out.trans (b4.mono B3.out.size))
  have lpc := hb4.hd.lt
  have lcc := Blk.lt hb4.wd
  clear hb4 b4 X3
  have W1 : IntKind.i64.wrap (m : Int) = (m : Int) := IntWalk.i64_in _ ⟨by omega, by omega⟩
  have W2 : IntKind.i64.wrap (1 + (m : Int)) = ((m + 1 : Nat) : Int) := by rw [show 1 + (m : Int) = ((m + 1 : Nat) : Int) by omega]; exact IntWalk.i64_in _ ⟨by omega, by omega⟩
  obtain ⟨i0, hi, hz0, hz1, hz2⟩ := info_parts earinfo
  go_wp2_with (refine wpList_make_full _ rfl _ _ 31 rfl w4.heap.size 46 i0 (.agg #[.int .i64 0, .int .i64 0, .int .i64 0]) 3 Tryz.underlying31 hi hz0 hz1 _ _ _ _ (m + 1) rfl rfl rfl rfl (by rw [hz2]; omega) (by unfold maxLen; omega) (Nat.le_refl _) ?_)
  intro w5 o5 g5
  have k5 : Keep (fun i => (none : Option Nat) = some i) w4 w5 := grown_keep (show w4.grownBy w5 (Value.slice none 0 0).ownBlock from g5)
  have z5 := k5.size
  have E5 := own_full o5
  have e0 := made_ears m hm2
  rw [e0] at E5
  have hn5 : ∀ i, ¬ ((none : Option Nat) = some i) := nofun
  obtain ⟨sb, hsb⟩ : ∃ sb, sb = w4.heap.size := ⟨_, rfl⟩
  have NA := Lib.hid (show NearAt w5 w5 p c rb sb (m + 1) s 0 0 0 from ⟨⟨0, _, HB4.out.keep k5 (hn5 p) (hn5 c), by decide, by decide, by simp, rdN_zs0 (8 * 136) _ _, rdN_zs0 (8 * 136) _ _⟩, X4.out.keep k5 (hn5 rb), by rw [hsb]; exact E5, by decide, by decide, by decide, Keep.refl _ _⟩)
  have B5 := Lib.hid (B4.out.trans (k5.below (B := w.heap.size) B4.out.size (fun i hi h => hn5 i h)))
  have hsp : p < sb ∧ c < sb ∧ rb < sb ∧ w3.heap.size ≤ sb := by omega
  have hrp : rb < p ∧ rb < c := by omega
  have hs5 : sb < w5.heap.size := by rw [hsb]; exact E5.lt
  rw [← hsb]
  have HSB := Lib.hid hsb
  have hwsb : w.heap.size ≤ p ∧ w.heap.size ≤ c := by have := B3.out.size; omega
  clear hsb E5 e0 hn5 k5 g5 o5 HB4 X4 B4
  have hnl12 : NL ≤ 12 := by rw [HNL.out]; exact HFT.out.2
  go_wp2_with fail
  go_loopw [12, 47] (fun lv iv wr => ∃ (k T L : Nat), k ≤ NL ∧ iv = .int .i64 k ∧ lv = .int .i64 L ∧ NearAt w5 wr p c rb sb (m + 1) s k T L) (fun _ i _ => NL - (intOf i).toNat)
  case atStart => exact ⟨0, 0, 0, by omega, rfl, rfl, NA.out⟩
  case round =>
   obtain ⟨k, T, L, hk, rfl, rfl, hN⟩ := hrel
   have HN := Lib.hid hN
   have hzr := hN.kp.size
   have BW := Lib.hid (B5.out.trans (hN.kp.below (B := w.heap.size) B5.out.size (fun i hi h => by have := B3.out.size; omega)))
   clear hN
   by_cases hkl : k < NL
   ·obtain ⟨x, hx⟩ : ∃ x, l[k]? = some x := ⟨_, List.getElem?_eq_getElem (by rw [← HNL.out]; exact hkl)⟩
    obtain ⟨g, off, sa, sl, sc, rfl, hg, m0, m1, hrd, hown⟩ := (HR.out.keep (Below.keeps (M := fun _ => False) BW.out) (fun _ _ => id)).at2 hx
    obtain ⟨x1, x2⟩ := x
    dsimp only at m0 m1 hrd
    have hxm := List.mem_of_getElem? hx
    obtain ⟨hx1, hxB⟩ := HLO.out _ hxm
    obtain ⟨hxl, hx2⟩ := HFT.out.1 _ hxm
    dsimp only at hx1 hxB hxl hx2
    have hd128 : x2.length ≤ 128 := by omega
    have HXB := Lib.hid hxB
    have HOWN := Lib.hid (show x2.length ≠ 0 → ∀ i, (Value.slice sa sl sc).ownBlock = some i → i < w.heap.size from fun h i hi => hL0 i (hown h i hi))
    clear hown
    have hki : (k : Int) < (NL : Int) := by omega
    have hok : (⟨0, (s : Int), x1, x2⟩ : PutC).ok = true := by
     unfold PutC.ok
     dsimp only
     rw [HRG.out]
     simp
     omega
    have HOK := Lib.hid hok
    obtain ⟨cnt, bs, hbuf, hc0, hc1, hblen, htl, hlt⟩ := HN.out.buf
    have HBUF := Lib.hid hbuf
    have HTL := Lib.hid htl
    have hT8 := HN.out.T8
    have hTb := HN.out.Tb
    have hTb2 : T ≤ 900000 := by omega
    clear hbuf htl hlt hok hxB hxm
    have y0 := HN.out.ring.cell 0
    have y1 := HN.out.ring.cell 1
    have lrb := HN.out.ring.lt
    simp only [List.getElem?_cons_zero, List.getElem?_cons_succ] at y0 y1
    go_upto_region 13 with fail
    obtain ⟨w6, hw6⟩ : ∃ w6, w6 = wr.alloc (Obj.cells #[.int .i32 x1, .slice sa sl sc] 34) := ⟨_, rfl⟩
    have b6 : Below wr.heap.size wr w6 := by rw [hw6]; exact (Below.refl _ _).alloc (Nat.le_refl _) _
    have M6 := Lib.hid (show Blk w6 wr.heap.size [.int .i32 x1, .slice sa sl sc] by rw [hw6]; exact Blk.made wr _ _)
    have z6 := b6.size
    have R6 := Lib.hid (hrd.below b6)
    have X6 := Lib.hid (HN.out.ring.below b6 lrb)
    have S6 := Lib.hid (HN.out.ears.below b6 HN.out.ears.lt)
    have HB6 := Lib.hid (HBUF.out.belows b6)
    rw [← hw6]
    obtain ⟨mb, hmb⟩ : ∃ mb, mb = wr.heap.size := ⟨_, rfl⟩
    rw [← hmb] at M6
    rw [← hmb]
    have HMB := Lib.hid hmb
    have lm6 := M6.out.lt
    have v0 := M6.out.cell 0
    have v1 := M6.out.cell 1
    have y0 := X6.out.cell 0
    have y1 := X6.out.cell 1
    have lx6 := X6.out.lt
    simp only [List.getElem?_cons_zero, List.getElem?_cons_succ] at v0 v1 y0 y1
    have hmw : wr.heap.size ≤ mb ∧ mb < w6.heap.size := by omega
    have KR6 := Lib.hid b6
    clear hw6 hmb hrd b6 m0 m1
    go_wp2_with fail
    refine (sNew_f 0 s x1 sa sl sc x2 _ R6.out (by omega) HXB.out (by decide) (by decide) (by omega) (by omega)).mono ?_
    rintro e w7 ⟨q, rfl, hq, hF, b7⟩
    have HF7 := Lib.hid hF
    have z7 := b7.size
    have B7 := Lib.hid b7
    clear hF b7 v0 v1 y0 y1
    go_wp2_with fail
    obtain ⟨w8, hw8⟩ : ∃ w8, w8 = w7.alloc (Obj.cells #[.iface 35 (.pointer (some ⟨q, 0, none⟩))] 66) := ⟨_, rfl⟩
    have b8 : Below w7.heap.size w7 w8 := by rw [hw8]; exact (Below.refl _ _).alloc (Nat.le_refl _) _
    have G8 := Lib.hid (show Blk w8 w7.heap.size [.iface 35 (.pointer (some ⟨q, 0, none⟩))] by rw [hw8]; exact Blk.made w7 _ _)
    have HF8 := Lib.hid (HF7.out.below b8)
    have z8 := b8.size
    have B8 := Lib.hid (B7.out.trans (b8.mono z7))
    rw [← hw8]
    clear hw8 b8
    have lpc := HB6.out.hd.lt
    have lcc := Blk.lt HB6.out.wd
    refine (nearSend (s := s) (T := T) (HB6.out.belows B8.out) HF8.out (fun h => by omega) (fun h => by omega) G8.out hc0 (by omega) rfl rfl HOK.out HXB.out hs8 hs64 hs1024 hx1.2 hT8 hTb2 (by omega) HTL.out hd128).mono ?_
    rintro e wq ⟨W, rfl, hR⟩
    go_wp2_with fail
    refine hR.mono ?_
    rintro e w9 ⟨⟨k9, rfl⟩, cnt9, bs9, P, F9, hb9, hcl9, hcu9, hlen9, hsent, hF9, np9, nc9, hF92, kp9⟩
    have HB9 := Lib.hid hb9
    have HS9 := Lib.hid hsent
    obtain ⟨N, hNe⟩ : ∃ N, N = P + (⟨0, (s : Int), x1, x2⟩ : PutC).nd.toNat := ⟨_, rfl⟩
    have HNE := Lib.hid hNe
    clear hNe
    have HF9 := Lib.hid hF9
    have K69 := Lib.hid (show Keep (fun i => i = p ∨ i = c) w6 w9 from (Below.keeps B8.out).then kp9 (fun i hi h => by rcases h with h | h; omega; exact h))
    have z9 := kp9.size
    clear hR hb9 hsent hF9 hF92 kp9
    obtain ⟨sO, sbv, shO, shI⟩ := HF9.out.2.2
    go_wp2_with fail
    refine (sResult_any _ shI.at_).mono ?_
    rintro e w10 ⟨rfl, b10⟩
    have hPb : P ≤ 950000 := by have := HS9.out.whr; have := Nat.mod_lt T (show 0 < s by omega); omega
    rw [show (SenM.mk ⟨0, (s : Int), x1, x2⟩ .done ((P : Nat) : Int) 0).rv = ((P : Nat) : Int) from (if_pos rfl).trans (by show s64 ((P : Nat) : Int) = _; unfold s64; omega), show (SenM.mk ⟨0, (s : Int), x1, x2⟩ .done ((P : Nat) : Int) 0).e = 0 from rfl]
    have z10 := b10.size
    have B10 := Lib.hid b10
    clear b10 shO shI
    have hdat10 : RdB w10 (.slice sa sl sc) x2 := (R6.out.keep K69.out (fun h0 i hi h => by
     have := HOWN.out h0 i hi
     omega)).below B10.out
    have J0 := Lib.hid (show NearJ w6 w10 p c rb sb mb (m + 1) s 0 bs9 cnt9 ⟨(P : Int), ((N : Nat) : Int), 0⟩ ⟨(L : Int), (T : Int), 0⟩ x1 (.slice sa sl sc) x2 from
     ⟨⟨cnt9, HB9.out.belows B10.out, by omega, by omega⟩, (X6.out.keep K69.out (fun h => by omega)).below B10.out (by have := X6.out.lt; have := K69.out.size; omega), (M6.out.keep K69.out (fun h => by omega)).below B10.out (by have := M6.out.lt; have := K69.out.size; omega), hdat10, by
      rw [earsJ_0]
      exact (S6.out.keep K69.out (fun h => by omega)).below B10.out (by have := S6.out.lt; have := K69.out.size; omega), (K69.out.trans (Below.keeps B10.out)).mono (fun i _ h => h.elim .inl (fun h => .inr (.inl h)))⟩)
    have hwb : w6.heap.size ≤ w10.heap.size := by have := K69.out.size; omega
    clear hdat10 B10 HB9 K69 X6 M6 S6 R6 HB6
    go_wp2_with fail
    go_loopw [70] (fun iv wl => ∃ j : Nat, j ≤ m + 1 ∧ iv = .int .i64 j ∧ NearJ w6 wl p c rb sb mb (m + 1) s j bs9 cnt9 ⟨(P : Int), ((N : Nat) : Int), 0⟩ ⟨(L : Int), (T : Int), 0⟩ x1 (.slice sa sl sc) x2) (fun i _ => (m + 1) - (intOf i).toNat)
    case atStart => exact ⟨0, by omega, rfl, J0.out⟩
    case round =>
     obtain ⟨j, hj, rfl, hJ⟩ := hrel
     have HJ := Lib.hid hJ
     have zj := hJ.kp.size
     have lrj := hJ.ring.lt
     have lsj := hJ.ears.lt
     have lmj := hJ.msg.lt
     obtain ⟨cntj, hbj, hcj0, hcj1⟩ := hJ.buf
     have HBJ := Lib.hid hbj
     have lpj := hbj.hd.lt
     have lcj := Blk.lt hbj.wd
     clear hJ hbj
     by_cases hjn : j < m + 1
     ·have hji : (j : Int) < ((m : Int) + 1) := by omega
      have hji0 : (0 : Int) ≤ (j : Int) := by omega
      have y0 := HJ.out.ring.cell 0
      have y1 := HJ.out.ring.cell 1
      simp only [List.getElem?_cons_zero, List.getElem?_cons_succ] at y0 y1
      have g0 := HJ.out.ears.cell (j * 3)
      have g1 := HJ.out.ears.cell (j * 3 + 1)
      have g2 := HJ.out.ears.cell (j * 3 + 2)
      rw [show j * 3 = j * 3 + 0 from rfl, ear_at _ _ _ _ (earsJ_at hjn) (by decide)] at g0
      rw [ear_at _ _ _ _ (earsJ_at hjn) (by decide)] at g1 g2
      simp only [earL, Nat.add_zero, List.getElem?_cons_zero, List.getElem?_cons_succ] at g0 g1 g2
      have g2 : wr.cell? ⟨sb, j * 3 + 1 + 1, none⟩ = some (.int .i64 0) := g2
      go_wp2_with fail
      go_region_held3 (fun w' => w'.cell? ⟨rb, 0, none⟩ = some (.int .i64 0) ∧ w'.cell? ⟨rb, 1, none⟩ = some (.int .i64 s) ∧ w'.cell? ⟨sb, j * 3, none⟩ = some (.int .i64 L) ∧ w'.cell? ⟨sb, j * 3 + 1, none⟩ = some (.int .i64 T) ∧ w'.cell? ⟨sb, j * 3 + 1 + 1, none⟩ = some (.int .i64 0)) (first | go_keep | trivial)
       (first
        | (go_at_call 14; refine (relNew_any 0 s ⟨(L : Int), (T : Int), 0⟩ 2 _ (by decide) (by decide) (by omega) (by omega)).mono ?_; rintro e w11 ⟨qx, Fx, rfl, hqx, hFx, hFx2, b11⟩; unfold ptr; have hcg := fun o => b11.cell (p := ⟨rb, o, none⟩) (by simpa using lrj); have hcs := fun o => b11.cell (p := ⟨sb, o, none⟩) (by simpa using lsj)))
      all_goals
       clear hcg hcs g0 g1 g2 y0 y1
       have z11 := b11.size
       simp at z11 hqx
       have HX11 := Lib.hid (show RelF w11 Fx qx (relC.start (⟨0, s, ⟨(L : Int), (T : Int), 0⟩, 2, [], 0⟩ : RelT)) from hFx)
       have HFX := Lib.hid (show ∀ i, Fx i → wr.heap.size ≤ i from hFx2)
       have B11 := Lib.hid (show Below wr.heap.size wr w11 from (bel_drewN 1 (Below.refl _ wr)).trans b11)
       clear hFx hFx2 b11
       go_wp2_with fail
       obtain ⟨w12, hw12⟩ : ∃ w12, w12 = w11.alloc (Obj.cells #[.iface 43 (.pointer (some ⟨qx, 0, none⟩))] 66) := ⟨_, rfl⟩
       have b12 : Below w11.heap.size w11 w12 := by rw [hw12]; exact (Below.refl _ _).alloc (Nat.le_refl _) _
       have G12 := Lib.hid (show Blk w12 w11.heap.size [.iface 43 (.pointer (some ⟨qx, 0, none⟩))] by rw [hw12]; exact Blk.made w11 _ _)
       have HX12 := Lib.hid (HX11.out.below b12)
       have z12 := b12.size
       have B12 := Lib.hid (B11.out.trans (b12.mono z11))
       rw [← hw12]
       clear hw12 b12 HX11
       refine (nearHear (s := s) (T := T) (P := P) (HBJ.out.belows B12.out) HX12.out (fun h => by have := HFX.out _ h; omega) (fun h => by have := HFX.out _ h; omega) G12.out (by omega) (by omega) rfl rfl HOK.out hs8 hs64 hs1024 hx1.2 hT8 hTb2 (by omega) HS9.out hd128).mono ?_
       rintro e wq2 ⟨W2, rfl, hR2⟩
       go_wp2_with fail
       refine hR2.mono ?_
       rintro e w14 ⟨⟨k14, rfl⟩, cnt14, F14, hb14, hcl14, hcu14, hF14, np14, nc14, hF142, kp14⟩
       have HB14 := Lib.hid hb14
       have z14 := kp14.size
       have K14 := Lib.hid (show Keep (fun i => i = p ∨ i = c) wr w14 from (Below.keeps B12.out).then kp14 (fun i hi h => by rcases h with h | h; have := HFX.out _ h; omega; exact h))
       rw [← HNE.out] at hF14
       obtain ⟨f1, f2, f3, f4, fL, fF, fnv, fov, f5⟩ := hF14
       have RB14 := Lib.hid f5
       clear hR2 hb14 hF142 kp14 f1 f2 f3 f4 f5 HX12 G12 B11
       go_wp2_with fail
       refine (relHeard_at w14 RB14.out).mono ?_
       rintro e w15 ⟨hv, rfl, hhs, b15⟩
       have z15 := b15.size
       have RB15 := Lib.hid (RB14.out.below b15)
       have K15 := Lib.hid (K14.out.trans (Below.keeps b15))
       have HB15 := Lib.hid (HB14.out.belows b15)
       obtain ⟨gh, ch, s1, n1, d1, rfl, q3, q4, q5, r2⟩ := hhs.cell3 (k := 0) (a := (P : Int)) (t := x1) (d := x2) rfl
       simp only [Nat.zero_mul, Nat.zero_add, List.length_singleton] at q3 q4 q5
       have M15 := Lib.hid (HJ.out.msg.keep K15.out (fun h => by omega))
       have R15 := Lib.hid (HJ.out.dat.keep K15.out (fun h0 i hi h => by have := HOWN.out h0 i hi; omega))
       have X15 := Lib.hid (HJ.out.ring.keep K15.out (fun h => by omega))
       have S15 := Lib.hid (HJ.out.ears.keep K15.out (fun h => by omega))
       have v0 := M15.out.cell 0
       have v1 := M15.out.cell 1
       simp only [List.getElem?_cons_zero, List.getElem?_cons_succ] at v0 v1
       have lm15 := M15.out.lt
       have lgh := World.block_lt_of_cell? _ _ q5
       have R2 := Lib.hid r2
       have cv := fun n => conv_rd (w := w15.drewN n) 32 9 Tryz.underlying32 Tryz.underlying9 (RdB.drewN n R2.out)
       have cv2 := fun n => conv_rd (w := w15.drewN n) 32 9 Tryz.underlying32 Tryz.underlying9 (RdB.drewN n R15.out)
       clear hhs b15 r2 K14 HB14
       go_wp2_with fail
       go_quiet ((go_at_call 16; exact quietR (relLosses_any _ (RB15.out.below (bel_drewN _ (Below.refl _ _))))))
       have S16 := Lib.hid (S15.out.below (bel_drewN nq (Below.refl _ w15)) S15.out.lt)
       go_wp2_with fail
       refine (relState_any _ (RB15.out.below (bel_drewN nq (Below.refl _ _)))).mono ?_
       rintro e w17 ⟨rfl, b17⟩
       dsimp only
       have S17 := Lib.hid (S16.out.below b17 S16.out.lt)
       have K17 := Lib.hid (show Keep (fun i => i = p ∨ i = c) wr w17 from K15.out.trans (((Keep.refl _ w15).drewN nq).trans (Below.keeps b17)))
       have HB17 := Lib.hid (HB15.out.belows ((bel_drewN nq (Below.refl _ w15)).trans b17))
       have z17 := K17.out.size
       have g0 := S17.out.cell (j * 3)
       have g1 := S17.out.cell (j * 3 + 1)
       have g2 := S17.out.cell (j * 3 + 2)
       rw [show j * 3 = j * 3 + 0 from rfl, ear_at _ _ _ _ (earsJ_at hjn) (by decide)] at g0
       rw [ear_at _ _ _ _ (earsJ_at hjn) (by decide)] at g1 g2
       simp only [earL, Nat.add_zero, List.getElem?_cons_zero, List.getElem?_cons_succ] at g0 g1 g2
       have g2 : w17.cell? ⟨sb, j * 3 + 1 + 1, none⟩ = some (.int .i64 0) := g2
       have fz0 := S17.out.frozen (j * 3)
       have fz1 := S17.out.frozen (j * 3 + 1)
       have fz2 := S17.out.frozen (j * 3 + 1 + 1)
       have ls17 := S17.out.lt
       clear b17 cv cv2 v0 v1 q3 q4 q5 RB15 RB14 S16 S15 HB15
       go_wp2
       have KS := (((Keep.refl (· = sb) w17).setCell (p := ⟨sb, j * 3, none⟩) (.inl rfl) (.int .i64 P)).setCell (p := ⟨sb, j * 3 + 1, none⟩) (.inl rfl) (.int .i64 ((N : Nat) : Int))).setCell (p := ⟨sb, j * 3 + 2, none⟩) (.inl rfl) (.int .i64 0)
       have SF := ((S17.out.set (j * 3) (.int .i64 P)).set (j * 3 + 1) (.int .i64 ((N : Nat) : Int))).set (j * 3 + 2) (.int .i64 0)
       have he := ear_set (earsJ (m + 1) j (⟨(P : Int), ((N : Nat) : Int), 0⟩ : EarV) ⟨(L : Int), (T : Int), 0⟩) j ⟨(P : Int), ((N : Nat) : Int), 0⟩ (by rw [earsJ_len _ _ _ _ (by omega)]; exact hjn)
       rw [earsJ_set hjn] at he
       rw [he] at SF
       refine ⟨⟨j + 1, by omega, by go_num, ⟨⟨cnt14, HB17.out.keep KS (by omega) (by omega), by omega, by omega⟩, (HJ.out.ring.keep K17.out (fun h => by omega)).keep KS (fun h => by have h : rb = sb := h; omega), (HJ.out.msg.keep K17.out (fun h => by omega)).keep KS (fun h => by have h : mb = sb := h; omega), (HJ.out.dat.keep K17.out (fun h0 i hi h => by have := HOWN.out h0 i hi; omega)).keep KS (fun h0 i hi h => by have := HOWN.out h0 i hi; have h : i = sb := h; omega), SF, HJ.out.kp.trans ((K17.out.mono (fun i _ h => h.elim .inl (fun h => .inr (.inl h)))).trans (KS.mono (fun i _ h => Or.inr (Or.inr h))))⟩⟩, by simp [intOf]; omega⟩
     ·obtain rfl : j = m + 1 := by omega
      have hji : ¬ (((m + 1 : Nat) : Int) < ((m : Int) + 1)) := by omega
      have hnd8 : (⟨0, (s : Int), x1, x2⟩ : PutC).nd.toNat % 8 = 0 ∧ (⟨0, (s : Int), x1, x2⟩ : PutC).nd.toNat ≤ 200 := by
       unfold PutC.nd
       rw [if_pos HOK.out]
       dsimp only
       omega
      have hP8 : P % 8 = 0 ∧ P ≤ T + 1024 := by
       have hmT := Nat.mod_lt T (show 0 < s by omega)
       have hT8' : T % s % 8 = 0 := by
        rw [Nat.mod_mod_of_dvd T (Nat.dvd_of_mod_eq_zero hs8)]
        exact hT8
       rcases HS9.out.whr with e | ⟨e, _⟩ <;> omega
      have HJE := HJ.out.ears
      rw [earsJ_n] at HJE
      have HJE := Lib.hid HJE
      have HP8 := Lib.hid (And.intro hP8 hnd8)
      clear hP8 hnd8
      go_wp2
      refine ⟨⟨k + 1, N, P, by omega, by go_num, rfl, ⟨⟨cntj, bs9, HBJ.out, by omega, by omega, by rw [hlen9]; exact hblen, by rw [HNE.out]; exact HS9.out.tail, HS9.out.lat⟩, HJ.out.ring, HJE.out, by have := HP8.out; have := HNE.out; omega, by have := HP8.out; have := HNE.out; omega, by have := HNE.out; omega, HN.out.kp.trans ((Below.keeps KR6.out).trans HJ.out.kp)⟩⟩, by simp [intOf]; omega⟩
   ·obtain rfl : k = NL := by omega
    obtain ⟨cnt, bs, hbuf, hc0, hc1, hblen, htl, hlt⟩ := HN.out.buf
    have HBUF := Lib.hid hbuf
    have HTL := Lib.hid htl
    have HLT := Lib.hid hlt
    have HIB := Lib.hid hbuf.is
    have hTb := HN.out.Tb
    have hlb := HN.out.Lb
    clear hbuf htl hlt
    go_wp2_with fail
    refine (mBytes_any p c cnt bs _ HBUF.out).mono ?_
    rintro e w20 ⟨bv, rfl, o20, b20⟩
    obtain ⟨g6, cp6, rfl, hc6, hm6, hcell6⟩ := bytes_sl o20 (by omega)
    have HC6 := Lib.hid hcell6
    have z20 := b20.size
    have X20 := Lib.hid (HN.out.ring.below b20 HN.out.ring.lt)
    have S20 := Lib.hid (HN.out.ears.below b20 HN.out.ears.lt)
    have B20 := Lib.hid (BW.out.trans (b20.mono BW.out.size))
    rw [hblen] at hc6 hcell6 ⊢
    clear hcell6 o20 b20 HBUF HN BW
    go_wp2_with fail
    go_loopw [141] (fun iv wl => ∃ j : Nat, j ≤ m + 1 ∧ iv = .int .i64 j ∧ Below w20.heap.size w20 wl) (fun i _ => (m + 1) - (intOf i).toNat)
    case atStart => exact ⟨0, by omega, rfl, Below.refl _ _⟩
    case round =>
     obtain ⟨j, hj, rfl, hB⟩ := hrel
     have HB := Lib.hid hB
     have zj := hB.size
     have X21 := Lib.hid (X20.out.below hB X20.out.lt)
     have S21 := Lib.hid (S20.out.below hB S20.out.lt)
     have lrj := X21.out.lt
     have lsj := S21.out.lt
     have C21 := Lib.hid (show ∀ i, i < 1088 → wr.cell? ⟨g6, 0 + i, none⟩ = some (.int .u8 (gB bs i)) from fun i hi => (hB.cell (p := ⟨g6, 0 + i, none⟩) (World.block_lt_of_cell? _ _ (HC6.out i (by omega)))).trans (HC6.out i (by omega)))
     have l6 := World.block_lt_of_cell? _ _ (C21.out 0 (by decide))
     have y1 := X21.out.cell 1
     simp only [List.getElem?_cons_zero, List.getElem?_cons_succ] at y1
     clear hB
     have hw64 : IntKind.i64.wrap (T : Int) = (T : Int) := IntWalk.i64_in _ ⟨by omega, by omega⟩
     have W8 : IntKind.i64.wrap ((s : Int) + 8) = (s : Int) + 8 := IntWalk.i64_in _ ⟨by omega, by omega⟩
     have W16 : IntKind.i64.wrap ((s : Int) + 16) = (s : Int) + 16 := IntWalk.i64_in _ ⟨by omega, by omega⟩
     by_cases hjn : j < m + 1
     ·have hji : (j : Int) < ((m : Int) + 1) := by omega
      have hji0 : (0 : Int) ≤ (j : Int) := by omega
      have hra : (List.replicate (m + 1) (⟨(L : Int), (T : Int), 0⟩ : EarV))[j]? = some ⟨(L : Int), (T : Int), 0⟩ := by rw [List.getElem?_replicate, if_pos hjn]
      have g0 := S21.out.cell (j * 3)
      have g1 := S21.out.cell (j * 3 + 1)
      have g2 := S21.out.cell (j * 3 + 2)
      rw [show j * 3 = j * 3 + 0 from rfl, ear_at _ _ _ _ hra (by decide)] at g0
      rw [ear_at _ _ _ _ hra (by decide)] at g1 g2
      simp only [earL, Nat.add_zero, List.getElem?_cons_zero, List.getElem?_cons_succ] at g0 g1 g2
      have g2 : wr.cell? ⟨sb, j * 3 + 1 + 1, none⟩ = some (.int .i64 0) := g2
      go_upto_region 32 with fail
      obtain ⟨w21, hw21⟩ : ∃ w21, w21 = wr.alloc (Obj.cells #[.int .i64 L, .int .i64 T, .int .i64 0] 46) := ⟨_, rfl⟩
      have b21 : Below wr.heap.size wr w21 := by rw [hw21]; exact (Below.refl _ _).alloc (Nat.le_refl _) _
      have E21 := Lib.hid (show Blk w21 wr.heap.size [.int .i64 L, .int .i64 T, .int .i64 0] by rw [hw21]; exact Blk.made wr _ _)
      have y1 := (b21.cell (p := ⟨rb, 1, none⟩) lrj).trans y1
      have v0 := E21.out.cell 0
      have v1 := E21.out.cell 1
      have v2 := E21.out.cell 2
      simp only [List.getElem?_cons_zero, List.getElem?_cons_succ] at v0 v1 v2
      have le21 := E21.out.lt
      have lr21 : rb < w21.heap.size := by have := b21.size; omega
      have hrt := rd_tail (w := w21) (g := g6) (off := 0) (n := 1088) (l := bs) hm6 hblen hc6 (fun i hi => (b21.cell (p := ⟨g6, 0 + i, none⟩) l6).trans (C21.out i hi)) (s + 8) (by omega)
      rw [show 0 + (s + 8) = s + 8 by omega, show 1088 - (s + 8) = 1080 - s by omega] at hrt
      have HRT := Lib.hid hrt
      clear hrt
      have HBT := Lib.hid (HIB.out.drop (s + 8))
      have hle : leN ((bs.drop (s + 8)).take 8) = (T : Int) := HTL.out
      have BF := Lib.hid (HB.out.trans (b21.mono zj))
      have ht8 : ((s : Int) + 8).toNat = s + 8 := by omega
      have hq1 : (s : Int) + 8 ≤ 1088 := by omega
      have hq2 : (s : Int) + 8 ≤ (cp6 : Int) := by omega
      have hq3 : ¬ cp6 - (s + 8) = 0 := by omega
      have hq4 : ¬ cp6 = s + 8 := by omega
      rw [← hw21]
      clear hw21 b21 g0 g1 g2
      by_cases hz : k = 0
      ·have hd : decide ((0 : Int) < (k : Int)) = false := decide_eq_false (by omega)
       go_quiet (fail)
       go_wp2
       refine ⟨⟨j + 1, by omega, by go_num, ?_⟩, by simp [intOf]; omega⟩
       exact bel_drewN _ BF.out
      ·have hd : (0 : Int) < (k : Int) := by omega
       have hd1 : decide ((0 : Int) < (k : Int)) = true := decide_eq_true hd
       have hd2 : 0 < k := by omega
       have hd3 : decide (0 < k) = true := decide_eq_true hd2
       go_quiet ((go_at_call 19; exact quietR (refNumber_any _ (bs.drop (s + 8)) _ (RdB.drewN _ HRT.out) HBT.out)))
       go_wp2
       refine ⟨⟨j + 1, by omega, by go_num, ?_⟩, by simp [intOf]; omega⟩
       exact bel_drewN _ BF.out
     ·obtain rfl : j = m + 1 := by omega
      have hji : ¬ (((m + 1 : Nat) : Int) < ((m : Int) + 1)) := by omega
      have hrt := rd_tail (w := wr) (g := g6) (off := 0) (n := 1088) (l := bs) hm6 hblen hc6 C21.out (s + 16) (by omega)
      rw [show 0 + (s + 16) = s + 16 by omega, show 1088 - (s + 16) = 1072 - s by omega] at hrt
      have HRT := Lib.hid hrt
      clear hrt
      have HBT := Lib.hid (HIB.out.drop (s + 16))
      have hle : leN ((bs.drop (s + 16)).take 8) = (L : Int) := HLT.out
      have hwL : IntKind.i64.wrap (L : Int) = (L : Int) := IntWalk.i64_in _ ⟨by omega, by omega⟩
      have BF := Lib.hid (B20.out.trans (HB.out.mono B20.out.size))
      have ht8 : ((s : Int) + 16).toNat = s + 16 := by omega
      have hq1 : (s : Int) + 16 ≤ 1088 := by omega
      have hq2 : (s : Int) + 16 ≤ (cp6 : Int) := by omega
      have hq3 : ¬ cp6 - (s + 16) = 0 := by omega
      have hq4 : ¬ cp6 = s + 16 := by omega
      by_cases hz : k = 0
      ·have hd : ((k : Int) == 0) = true := by simp [hz]
       go_wp2
       go_ret
       exact ⟨rfl, BF.out⟩
      ·have hd : ((k : Int) == 0) = false := by simp [hz]
       go_wp2_with fail
       refine (refNumber_any _ (bs.drop (s + 16)) _ HRT.out HBT.out).mono ?_
       rintro e w22 ⟨rfl, rfl⟩
       rw [hle]
       go_wp2
       go_ret
       exact ⟨rfl, BF.out⟩
theorem u8_bdN {a : Int} (h : (Lit.int .u8 a).wf = true) : 0 ≤ a ∧ a ≤ 255 := by
 simpa [Lit.wf, IntKind.min, IntKind.max, IntKind.signed, IntKind.bits] using h
theorem near_said (bits : Int) (wa : (Lit.int .u8 bits).wf = true) (v : Value) (l : List (Int × List Int)) (many : Int) (wb : (Lit.int .u8 many).wf = true) (w : World) (hr : RdMs w (fun i => i < w.heap.size) v l) (hlo : ∀ x ∈ l, (-2147483648 ≤ x.1 ∧ x.1 ≤ 2147483647) ∧ IsB x.2) :
  Calls Tryz.prog 3 #[.int .u8 bits, v, .int .u8 many] w fun e w' => e = .returned (.bool true) ∧ Below w.heap.size w w' := by
 obtain ⟨a, c, rfl, _, _⟩ := hr.sl
 exact near_main bits many (u8_bdN wa) (u8_bdN wb) a c l _ w (fun i hi => hi) hr hlo
end Go.Proofs.YtggjhleomocojaaGreat
