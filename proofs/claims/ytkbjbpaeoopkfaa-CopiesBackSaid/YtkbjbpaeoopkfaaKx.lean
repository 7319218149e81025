/- The walk of the law CopiesBack. Conditions: the numbers are in their kinds' ranges. -/
import Derived.Test.YtkbjbpaeoopkfaaKv
import Derived.Test.YtkbjbpaeoopkfaaBi
namespace Go.Proofs.Ytkbjbpaeoopkfaa
set_option maxRecDepth 100000
open Go.RowKit
set_option linter.unusedVariables false
set_option linter.unusedSimpArgs false
theorem Blk.rd {w : World} {g n cap : Nat} {l : List Int} (h : Blk w g (l.map (Value.int .u8))) (hn : l.length = n) (hc : n ≤ cap) (hm : cap ≤ maxLen) : RdB w (.slice (some ⟨g, 0, none⟩) n cap) l := by
  refine RdB.cells hn hc hm fun i hi => ?_
  rw [Blk.cell h (0 + i)]
  simp [gB, hn, hi]
theorem Blk.byte {w : World} {g : Nat} {l : List Int} (h : Blk w g (l.map (Value.int .u8))) (i : Nat) (hi : i < l.length) : w.cell? ⟨g, i, none⟩ = some (.int .u8 (gB l i)) := by
  rw [Blk.cell h i]
  simp [gB, hi]
theorem RdB.keepN {w w' : World} {M : Nat → Prop} {v : Value} {l : List Int} {B : Nat} (h : RdB w v l) (k : Below B w w') (hB : ∀ b i, w.cell? ⟨b, i, none⟩ ≠ none → b < B) : RdB w' v l := by
  rcases h with h | h | ⟨b, off, cap, e1, e2, e3, e4⟩
  · exact .inl h
  · exact .inr (.inl h)
  · exact .inr <| .inr ⟨b, off, cap, e1, e2, e3, fun i hi => by rw [k.cell (p := ⟨b, off + i, none⟩) (hB b (off + i) (by rw [e4 i hi]; simp))]; exact e4 i hi⟩
theorem spl_back (bs ms : List Int) (a n : Nat) (hn : n = ms.length) (h : a + ms.length ≤ bs.length) : ((spl bs a ms).drop a).take n = ms := by
  subst hn
  have e : (bs.take a).length = a := by simp; omega
  unfold spl
  rw [List.drop_append_of_le_length (by omega), List.drop_of_length_le (by omega), List.nil_append, List.take_append_of_le_length (Nat.le_refl _), List.take_length]
theorem run_back (p c q : Nat) (cnt : Int) (bs l : List Int) (a : Nat) (O : Nat → Prop) (w : World) (h : Buf w p c cnt bs) (hst : WrSt w O q a l) (hb : IsB l) (hl : l.length ≤ 3100) (ha : a + l.length ≤ bs.length)
    (hc0 : 0 ≤ cnt) (hc1 : cnt ≤ 1000000000) (hq : q ≠ p ∧ q ≠ c) (hO : ∀ i, O i → i ≠ p ∧ i ≠ c ∧ i ≠ q ∧ i < w.heap.size) :
    Calls Try.prog 43 #[.pointer (some ⟨p, 0, none⟩), .pointer (some ⟨q, 0, none⟩)] w fun e w' => e = .returned (.bool true) ∧ (∃ cnt', 0 ≤ cnt' ∧ cnt' ≤ cnt + 400 ∧ Buf w' p c cnt' (spl bs a l)) ∧ Keep (fun k => k = p ∨ k = c ∨ k = q) w w' :=
  run_in p c q cnt bs l a [nilS] O w h hst hb hl ha hc0 hc1 hq hO
set_option maxHeartbeats 2000000 in
theorem back_early (a n : Int) (s0 : Option Addr) (sl sc : Nat) (w : World) (h : (200 : Int) < (sl : Int)) :
    Calls Try.prog 12 #[.int .u8 a, .slice s0 sl sc, .int .u8 n] w fun r w' => r = .returned (.bool true) ∧ Below w.heap.size w w' := by
  go_enter Try.func12, Try.ntmps12
  go_wp2_with fail
  refine (kFixed _).mono ?_
  rintro r w1 ⟨rfl, b1⟩
  go_wp2
  go_ret
  exact ⟨rfl, b1⟩
set_option maxHeartbeats 4000000 in
theorem back_walk (a n : Nat) (s0 : Option Addr) (sl sc : Nat) (l : List Int) (w : World) (h : RdB w (.slice s0 sl sc) l) (hl : IsB l) (ha : a ≤ 255) (hn : n ≤ 255) (hsl : sl ≤ 200) :
    Calls Try.prog 12 #[.int .u8 a, .slice s0 sl sc, .int .u8 n] w fun r w' => r = .returned (.bool true) ∧ Below w.heap.size w w' := by
  obtain ⟨i0, hi, hz0, hz1, hz2⟩ := info_parts u8info
  have hll := Lib.hid (rd_len h)
  have hlb : ¬ (200 : Int) < (sl : Int) := by omega
  have hll200 : l.length ≤ 200 := by have := hll.out; omega
  have HR := Lib.hid h
  clear h
  go_enter Try.func12, Try.ntmps12
  go_wp2_with fail
  refine (kFixed _).mono ?_
  rintro r w1 ⟨rfl, b1⟩
  have z1 := b1.size
  have B1 := Lib.hid b1
  clear b1
  go_wp2_with fail
  refine (mNew_lit 512 64 _ rfl (by decide) (by decide)).mono ?_
  rintro r w2 ⟨p, c, rfl, hbuf, hp, hc, b2⟩
  have z2 := b2.size
  have hpl := hbuf.hd.lt
  have hcl := hbuf.wd.lt
  have HB2 := Lib.hid hbuf
  have B2 := Lib.hid (B1.out.trans (b2.mono z1))
  clear hbuf b2
  go_wp2_with (refine wpList_make_full _ rfl _ _ 22 rfl w2.heap.size 5 i0 (.int .u8 0) 1 Try.underlying22 hi hz0 hz1 _ _ _ _ 512 rfl rfl rfl rfl (by rw [hz2]; omega) (by unfold maxLen; omega) (Nat.le_refl _) ?_)
  intro w3 own3 hg3
  obtain ⟨hblk, _⟩ := own_blkK own3
  have b3 : Below w2.heap.size w2 w3 := (Below.refl _ _).grown hg3 (Nat.le_refl _) (fun k hk => by cases hk)
  rw [← wS_start] at hblk
  obtain ⟨g, hg⟩ : ∃ g, g = w2.heap.size := ⟨_, rfl⟩
  rw [← hg] at hblk
  have hgl := hblk.lt
  have z3 := b3.size
  have HG3 := Lib.hid hblk
  have HB3 := Lib.hid (HB2.out.belows b3)
  have B3 := Lib.hid (B2.out.trans (b3.mono (by omega)))
  rw [← hg]
  have Hg := Lib.hid hg
  clear own3 hg3 hblk b3 hg
  have gw : w.heap.size ≤ g := by have := Hg.out; omega
  have gp : p ≠ g := by have := Hg.out; omega
  have gc : c ≠ g := by have := Hg.out; omega
  go_wp2_with fail
  go_loopw [10, 27] (fun x i wr => ∃ k : Nat, k ≤ 512 ∧ i = .int .i64 k ∧ Blk wr g ((wS k).map (Value.int .u8)) ∧ Keep (· = g) w3 wr) (fun _ i _ => 512 - (intOf i).toNat)
  case atStart => exact ⟨0, by omega, rfl, HG3.out, Keep.refl _ _⟩
  case round =>
    obtain ⟨k, hk, rfl, hgb, hkp⟩ := hrel
    by_cases hlt : k < 512
    · have hcell := hgb.byte k (by rw [wS_len]; exact hlt)
      have hfroz := Blk.frozen hgb k
      have hglr := hgb.lt
      have HGB := Lib.hid hgb
      clear hgb
      go_wp2
      have hs := HGB.out.set k (.int .u8 (((k : Int) * 7 + 1) % 256))
      rw [wS_set k hlt] at hs
      go_roundw
      case rel => exact ⟨k + 1, by omega, by go_num, hs, hkp.setCell (p := ⟨g, k, none⟩) (.inl rfl) _⟩
      case measure => simp [intOf]; omega
    · obtain rfl : k = 512 := by omega
      clear hlt
      have zr := hkp.size
      have HGr := Lib.hid hgb
      have HBr := Lib.hid (HB3.out.keep hkp gp gc)
      have Br := Lib.hid (B3.out.trans (hkp.below (by omega) (fun k h1 h2 => by omega)))
      have hw3p := HB3.out.hd.lt
      have hw3c := HB3.out.wd.lt
      clear hgb hkp hk
      go_wp2_with fail
      refine (cpOut_any a sl _ (by omega)).mono ?_
      rintro r w4 ⟨q1, O1, rfl, hq1, b4, s4, hO1⟩
      have z4 := b4.size
      have q1l := s4.lt
      have HG4 := Lib.hid (HGr.out.below b4 (by omega))
      have HB4 := Lib.hid (HBr.out.belows b4)
      have S1 := Lib.hid s4
      have B4 := Lib.hid (Br.out.trans (b4.mono (by omega)))
      have HO1 := Lib.hid hO1
      clear b4 s4 hO1 HGr HBr Br
      unfold ptr
      go_wp2_with fail
      refine (cpOut_any 0 512 _ (by omega)).mono ?_
      rintro r w5 ⟨q2, O2, rfl, hq2, b5, s5, hO2⟩
      have z5 := b5.size
      have q2l := s5.lt
      have HG5 := Lib.hid (HG4.out.below b5 (by omega))
      have HB5 := Lib.hid (HB4.out.belows b5)
      have S1' := Lib.hid (S1.out.keep (M := fun _ => False) (Below.keeps b5) (fun _ _ => id) (fun _ _ => id) id)
      have S2 := Lib.hid s5
      have B5 := Lib.hid (B4.out.trans (b5.mono (by omega)))
      have HO2 := Lib.hid hO2
      clear b5 s5 hO2 HG4 HB4 B4 S1
      unfold ptr
      go_wp2_with fail
      refine (cpIn_any 0 (some ⟨g, 0, none⟩) 512 512 (wS 512) _ (HG5.out.rd (wS_len _) (by omega) (by decide)) (by rw [wS_len]; omega)).mono ?_
      rintro r w6 ⟨q3, O3, rfl, hq3, b6, s6, hO3⟩
      have z6 := b6.size
      have q3l := s6.lt
      have HG6 := Lib.hid (HG5.out.below b6 (by omega))
      have HB6 := Lib.hid (HB5.out.belows b6)
      have S16 := Lib.hid (S1'.out.keep (M := fun _ => False) (Below.keeps b6) (fun _ _ => id) (fun _ _ => id) id)
      have S26 := Lib.hid (S2.out.keep (M := fun _ => False) (Below.keeps b6) (fun _ _ => id) (fun _ _ => id) id)
      have S3 := Lib.hid s6
      have B6 := Lib.hid (B5.out.trans (b6.mono (by omega)))
      have HO3 := Lib.hid hO3
      clear b6 s6 hO3 HG5 HB5 B5 S1' S2
      unfold ptr
      go_wp2_with fail
      refine (run_back p c q3 0 _ (wS 512) 0 O3 _ HB6.out S3.out (wS_is _) (by rw [wS_len]; omega) (by rw [wS_len]; simp) (by omega) (by omega) (by omega) (fun i hi => by have := HO3.out i hi; omega)).mono ?_
      rintro r w7 ⟨rfl, ⟨n7, m7, l7, hb7⟩, k7⟩
      rw [spl_whole _ _ (by rw [wS_len]; simp)] at hb7
      have z7 := k7.size
      have HG7 := Lib.hid (HG6.out.keep k7 (by omega))
      have HB7 := Lib.hid hb7
      have S17 := Lib.hid (S16.out.keep k7 (fun i hi => by have := HO1.out i hi; omega) (fun _ hi => hi.elim) (by omega))
      have S27 := Lib.hid (S26.out.keep k7 (fun i hi => by have := HO2.out i hi; omega) (fun _ hi => hi.elim) (by omega))
      have B7 := Lib.hid (B6.out.trans (k7.below (by omega) (fun k h1 h2 => by omega)))
      clear hb7 k7 HG6 HB6 B6 S16 S26 S3
      go_wp2_with fail
      refine (cpIn_any a s0 sl sc l _ (HR.out.below B7.out) (by omega)).mono ?_
      rintro r w8 ⟨q4, O4, rfl, hq4, b8, s8, hO4⟩
      have z8 := b8.size
      have q4l := s8.lt
      have HG8 := Lib.hid (HG7.out.below b8 (by omega))
      have HB8 := Lib.hid (HB7.out.belows b8)
      have S18 := Lib.hid (S17.out.keep (M := fun _ => False) (Below.keeps b8) (fun _ _ => id) (fun _ _ => id) id)
      have S28 := Lib.hid (S27.out.keep (M := fun _ => False) (Below.keeps b8) (fun _ _ => id) (fun _ _ => id) id)
      have S4 := Lib.hid s8
      have B8 := Lib.hid (B7.out.trans (b8.mono (by omega)))
      have HO4 := Lib.hid hO4
      clear b8 s8 hO4 HG7 HB7 B7 S17 S27
      unfold ptr
      go_wp2_with fail
      refine (run_back p c q4 n7 _ l a O4 _ HB8.out S4.out hl (by omega) (by rw [wS_len]; omega) m7 (by omega) (by omega) (fun i hi => by have := HO4.out i hi; omega)).mono ?_
      rintro r w9 ⟨rfl, ⟨n9, m9, l9, hb9⟩, k9⟩
      have z9 := k9.size
      have len9 := spl_len (wS 512) a l (by rw [wS_len]; omega)
      rw [wS_len] at len9
      have HL9 := Lib.hid len9
      have HG9 := Lib.hid (HG8.out.keep k9 (by omega))
      have HB9 := Lib.hid hb9
      have S19 := Lib.hid (S18.out.keep k9 (fun i hi => by have := HO1.out i hi; omega) (fun _ hi => hi.elim) (by omega))
      have S29 := Lib.hid (S28.out.keep k9 (fun i hi => by have := HO2.out i hi; omega) (fun _ hi => hi.elim) (by omega))
      have B9 := Lib.hid (B8.out.trans (k9.below (by omega) (fun k h1 h2 => by omega)))
      clear hb9 k9 HG8 HB8 B8 S18 S28 S4 len9
      go_wp2_with fail
      refine (run_out p c q1 n9 _ a sl O1 (fun _ => False) _ HB9.out S19.out (by omega) (by rw [HL9.out]; omega) m9 (by omega) (by omega) (fun i hi => by have := HO1.out i hi; exact ⟨by omega, by omega, by omega, id, by omega⟩) (fun i hi => hi.elim)).mono ?_
      rintro r w10 ⟨rfl, ⟨n10, m10, l10, hb10⟩, k10, O1', R1, s10, hR1⟩
      have z10 := k10.size
      have hR1' : ∀ i, R1 i → w9.heap.size ≤ i ∧ i < w10.heap.size := fun i hi => (hR1 i hi).elim (fun h => h.elim) id
      have HR1 := Lib.hid hR1'
      have HG10 := Lib.hid (HG9.out.keep k10 (by simp; omega))
      have HB10 := Lib.hid hb10
      have S110 := Lib.hid s10.done
      have S210 := Lib.hid (S29.out.keep k10 (fun i hi => by have := HO2.out i hi; simp; omega) (fun _ hi => hi.elim) (by simp; omega))
      have B10 := Lib.hid (B9.out.trans (k10.below (by omega) (fun k h1 h2 => by simp at h2; omega)))
      clear hb10 k10 HG9 HB9 B9 S19 S29 s10 hR1 hR1'
      go_wp2_with fail
      refine (cpZero_any a n _ (by omega)).mono ?_
      rintro r w11 ⟨q5, O5, rfl, hq5, b11, s11, hO5⟩
      have z11 := b11.size
      have q5l := s11.lt
      have HG11 := Lib.hid (HG10.out.below b11 (by omega))
      have HB11 := Lib.hid (HB10.out.belows b11)
      have S111 := Lib.hid (S110.out.keep (M := fun _ => False) (Below.keeps b11) (fun _ _ => id) (fun _ _ => id) id)
      have S211 := Lib.hid (S210.out.keep (M := fun _ => False) (Below.keeps b11) (fun _ _ => id) (fun _ _ => id) id)
      have S5 := Lib.hid s11
      have B11 := Lib.hid (B10.out.trans (b11.mono (by omega)))
      have HO5 := Lib.hid hO5
      clear b11 s11 hO5 HG10 HB10 B10 S110 S210
      unfold ptr
      go_wp2_with fail
      refine (run_back p c q5 n10 _ (List.replicate n 0) a O5 _ HB11.out S5.out (zeros_is _) (by simp; omega) (by rw [HL9.out]; simp; omega) m10 (by omega) (by omega) (fun i hi => by have := HO5.out i hi; omega)).mono ?_
      rintro r w12 ⟨rfl, ⟨n12, m12, l12, hb12⟩, k12⟩
      have z12 := k12.size
      have len12 := spl_len (spl (wS 512) a l) a (List.replicate n 0) (by rw [HL9.out]; simp; omega)
      rw [HL9.out] at len12
      have HL12 := Lib.hid len12
      have HG12 := Lib.hid (HG11.out.keep k12 (by omega))
      have HB12 := Lib.hid hb12
      have S112 := Lib.hid (S111.out.keep k12 (fun i hi => hi.elim) (fun i hi => by have := HR1.out i hi; omega) (by omega))
      have S212 := Lib.hid (S211.out.keep k12 (fun i hi => by have := HO2.out i hi; omega) (fun _ hi => hi.elim) (by omega))
      have B12 := Lib.hid (B11.out.trans (k12.below (by omega) (fun k h1 h2 => by omega)))
      clear hb12 k12 HG11 HB11 B11 S111 S211 S5 len12
      go_wp2_with fail
      refine (run_out p c q2 n12 _ 0 512 O2 (fun _ => False) _ HB12.out S212.out (by omega) (by rw [HL12.out]; omega) m12 (by omega) (by omega) (fun i hi => by have := HO2.out i hi; exact ⟨by omega, by omega, by omega, id, by omega⟩) (fun i hi => hi.elim)).mono ?_
      rintro r w13 ⟨rfl, ⟨n13, m13, l13, hb13⟩, k13, O2', R2, s13, hR2⟩
      have z13 := k13.size
      have hR2' : ∀ i, R2 i → w12.heap.size ≤ i ∧ i < w13.heap.size := fun i hi => (hR2 i hi).elim (fun h => h.elim) id
      have HR2 := Lib.hid hR2'
      have HG13 := Lib.hid (HG12.out.keep k13 (by simp; omega))
      have S113 := Lib.hid (S112.out.keep k13 (fun i hi => hi.elim) (fun i hi => by have := HR1.out i hi; simp; omega) (by simp; omega))
      rw [List.drop_zero, List.take_of_length_le (by rw [HL12.out]; omega)] at s13
      have S213 := Lib.hid s13.done
      have B13 := Lib.hid (B12.out.trans (k13.below (by omega) (fun k h1 h2 => by simp at h2; omega)))
      clear hb13 k13 HG12 HB12 B12 S112 S212 s13 hR2 hR2'
      go_wp2_with (refine list_copy rfl (.tmp 85) (.tmp 86) rfl _ _ _ _ _ _ rfl rfl g a (wS 512) l HG13.out (HR.out.below B13.out) (by omega) (fun _ => rfl) (by rw [wS_len]; omega) ?_)
      intro w14 hg14 k14
      have z14 := k14.size
      have HG14 := Lib.hid hg14.out
      have S114 := Lib.hid (S113.out.keep k14 (fun i hi => hi.elim) (fun i hi => by have := HR1.out i hi; omega) (by omega))
      have S214 := Lib.hid (S213.out.keep k14 (fun i hi => hi.elim) (fun i hi => by have := HR2.out i hi; omega) (by omega))
      have B14 := Lib.hid (B13.out.trans (k14.below (by omega) (fun k h1 h2 => by omega)))
      clear hg14 k14 HG13 S113 S213 B13
      go_wp2_with fail
      go_loopw [14, 90] (fun x i wr => ∃ k : Nat, k ≤ n ∧ i = .int .i64 k ∧ Blk wr g ((spl (spl (wS 512) a l) a (List.replicate k 0)).map (Value.int .u8)) ∧ Keep (· = g) w14 wr) (fun _ i _ => n - (intOf i).toNat)
      case atStart => exact ⟨0, by omega, rfl, by rw [List.replicate_zero, spl_nil]; exact HG14.out, Keep.refl _ _⟩
      case round =>
        obtain ⟨k, hk, rfl, hgb, hkp⟩ := hrel
        by_cases hlt : k < n
        · have hcell := hgb.byte (a + k) (by rw [spl_len _ _ _ (by rw [HL9.out]; simp; omega), HL9.out]; omega)
          have hfroz := Blk.frozen hgb (a + k)
          have hglr := hgb.lt
          have HGB := Lib.hid hgb
          clear hgb
          go_wp2
          have hs := HGB.out.set (a + k) (.int .u8 0)
          rw [zS_set _ _ _ (by rw [HL9.out]; omega)] at hs
          go_roundw
          case rel => exact ⟨k + 1, by omega, by go_num, hs, hkp.setCell (p := ⟨g, a + k, none⟩) (.inl rfl) _⟩
          case measure => simp [intOf]; omega
        · obtain rfl : k = n := by omega
          clear hlt
          have zk := hkp.size
          have r1 := S114.out.keep hkp (fun i hi => hi.elim) (fun i hi => by have := HR1.out i hi; omega) (by omega)
          rw [spl_back _ _ _ _ hll.out (by rw [wS_len]; omega)] at r1
          have T1 := Lib.hid r1
          have T2 := Lib.hid (S214.out.keep hkp (fun i hi => hi.elim) (fun i hi => by have := HR2.out i hi; omega) (by omega))
          have Bk := Lib.hid (B14.out.trans (hkp.below (by omega) (fun k h1 h2 => by omega)))
          have RB := Lib.hid (HR.out.below Bk.out)
          have RG := Lib.hid (hgb.rd HL12.out (Nat.le_refl _) (by decide))
          clear r1 hkp hgb S114 S214 B14 HG14
          have V := conv_rd (w := wr.drew) 22 9 Try.underlying22 Try.underlying9 (RdB.drewN 1 RB.out)
          have U := conv_rd (w := wr.drew) 22 9 Try.underlying22 Try.underlying9 (RdB.drewN 1 RG.out)
          go_wp2_with fail
          refine wp_region_held_drew (S := (fun w' => (convert 22 9 (.slice s0 sl sc)).run Try.prog w' = .ok (.string (strOfNums l)) w' ∧ (convert 22 9 (.slice (some ⟨g, 0, none⟩) 512 512)).run Try.prog w' = .ok (.string (strOfNums (spl (spl (wS 512) a l) a (List.replicate k 0)))) w')) (by kernel_rfl) ?_ (fun hHeld => ?_)
          · try dsimp only
            go_keep
          refine wpAnyH_take (i := 0) (v := ?_) rfl (by kernel_rfl) (by kernel_rfl) (by kernel_rfl) (fun _ _ _ h => h) (Or.inl ⟨by rfl, ?_⟩) (by assumption) ?_
          rotate_left
          · intro w0 hSw
            (try dsimp only at hSw)
            go_simp
            try with_reducible rfl
          simp only [Act.put, List.getElem_toArray, List.getElem_cons_zero, List.getElem_cons_succ, List.setIfInBounds_toArray, List.set_cons_zero, List.set_cons_succ]
          refine wpAnyH_take (i := 3) (v := ?_) rfl (by kernel_rfl) (by kernel_rfl) (by kernel_rfl) (fun _ _ _ h => h) (Or.inl ⟨by rfl, ?_⟩) (by assumption) ?_
          rotate_left
          · intro w0 hSw
            (try dsimp only at hSw)
            go_simp
            try with_reducible rfl
          simp only [Act.put, List.getElem_toArray, List.getElem_cons_zero, List.getElem_cons_succ, List.setIfInBounds_toArray, List.set_cons_zero, List.set_cons_succ]
          refine wpAnyH_take (i := 4) (v := ?_) rfl (by kernel_rfl) (by kernel_rfl) (by kernel_rfl) (fun _ _ _ h => h) (Or.inl ⟨by rfl, ?_⟩) (by assumption) ?_
          rotate_left
          · intro w0 hSw
            (try dsimp only at hSw)
            go_simp
            try with_reducible rfl
          simp only [Act.put, List.getElem_toArray, List.getElem_cons_zero, List.getElem_cons_succ, List.setIfInBounds_toArray, List.set_cons_zero, List.set_cons_succ]
          refine wpAnyH_ready (rs := [1]) (by kernel_rfl) (by simp) ?_
          refine AllReadyH.cons rfl (fun K hK => ?_) AllReadyH.nil
          go_simp
          go_at_call 28
          refine (cpBytes_out _ R1 q1 _ 0 l _ (T1.out.keep (M := fun _ => False) ((Keep.refl _ _).drew) (fun _ _ => id) (fun _ _ => id) id) (by omega)).mono ?_
          rintro r w15 ⟨s15, rfl, o15, b15⟩
          have z15 := b15.size
          have V15 := conv_rd (w := w15) 22 9 Try.underlying22 Try.underlying9 ((RdB.drewN 1 RB.out).below b15)
          have U15 := conv_rd (w := w15) 22 9 Try.underlying22 Try.underlying9 ((RdB.drewN 1 RG.out).below b15)
          have X15 := conv_rd (w := w15) 22 9 Try.underlying22 Try.underlying9 (o15.rd)
          go_wp2_with fail
          refine hK.out _ _ ?_ (fun hHeld => ?_)
          · try dsimp only
            go_keep
          clear hK K
          try simp only [Act.put, List.getElem_toArray, List.getElem_cons_zero, List.getElem_cons_succ, List.setIfInBounds_toArray, List.set_cons_zero, List.set_cons_succ]
          refine wpAnyH_ready (rs := [2]) (by kernel_rfl) (by simp) ?_
          refine AllReadyH.cons rfl (fun K hK => ?_) AllReadyH.nil
          go_simp
          refine hK.out _ _ ?_ (fun hHeld => ?_)
          · try dsimp only
            go_keep
          clear hK K
          try simp only [Act.put, List.getElem_toArray, List.getElem_cons_zero, List.getElem_cons_succ, List.setIfInBounds_toArray, List.set_cons_zero, List.set_cons_succ]
          refine wpAnyH_take (i := 5) (v := ?_) rfl (by kernel_rfl) (by kernel_rfl) (by kernel_rfl) (fun _ _ _ h => h) (Or.inl ⟨by rfl, ?_⟩) (by assumption) ?_
          rotate_left
          · intro w0 hSw
            (try dsimp only at hSw)
            go_simp
            try with_reducible rfl
          simp only [Act.put, List.getElem_toArray, List.getElem_cons_zero, List.getElem_cons_succ, List.setIfInBounds_toArray, List.set_cons_zero, List.set_cons_succ]
          refine wpAnyH_take (i := 6) (v := ?_) rfl (by kernel_rfl) (by kernel_rfl) (by kernel_rfl) (fun _ _ _ h => h) (Or.inl ⟨by rfl, ?_⟩) (by assumption) ?_
          rotate_left
          · intro w0 hSw
            (try dsimp only at hSw)
            go_simp
            try with_reducible rfl
          simp only [Act.put, List.getElem_toArray, List.getElem_cons_zero, List.getElem_cons_succ, List.setIfInBounds_toArray, List.set_cons_zero, List.set_cons_succ]
          refine wpAnyH_take (i := 7) (v := ?_) rfl (by kernel_rfl) (by kernel_rfl) (by kernel_rfl) (fun _ _ _ h => h) (Or.inl ⟨by rfl, ?_⟩) (by assumption) ?_
          rotate_left
          · intro w0 hSw
            (try dsimp only at hSw)
            go_simp
            try with_reducible rfl
          simp only [Act.put, List.getElem_toArray, List.getElem_cons_zero, List.getElem_cons_succ, List.setIfInBounds_toArray, List.set_cons_zero, List.set_cons_succ]
          refine wpAnyH_take (i := 10) (v := ?_) rfl (by kernel_rfl) (by kernel_rfl) (by kernel_rfl) (fun _ _ _ h => h) (Or.inl ⟨by rfl, ?_⟩) (by assumption) ?_
          rotate_left
          · intro w0 hSw
            (try dsimp only at hSw)
            go_simp
            try with_reducible rfl
          simp only [Act.put, List.getElem_toArray, List.getElem_cons_zero, List.getElem_cons_succ, List.setIfInBounds_toArray, List.set_cons_zero, List.set_cons_succ]
          refine wpAnyH_take (i := 11) (v := ?_) rfl (by kernel_rfl) (by kernel_rfl) (by kernel_rfl) (fun _ _ _ h => h) (Or.inl ⟨by rfl, ?_⟩) (by assumption) ?_
          rotate_left
          · intro w0 hSw
            (try dsimp only at hSw)
            go_simp
            try with_reducible rfl
          simp only [Act.put, List.getElem_toArray, List.getElem_cons_zero, List.getElem_cons_succ, List.setIfInBounds_toArray, List.set_cons_zero, List.set_cons_succ]
          refine wpAnyH_ready (rs := [8]) (by kernel_rfl) (by simp) ?_
          refine AllReadyH.cons rfl (fun K hK => ?_) AllReadyH.nil
          go_simp
          go_at_call 28
          refine (cpBytes_out _ R2 q2 _ 0 _ _ ((T2.out.keep (M := fun _ => False) ((Keep.refl _ _).drew) (fun _ _ => id) (fun _ _ => id) id).keep (M := fun _ => False) (Below.keeps b15) (fun _ _ => id) (fun _ _ => id) id) (by rw [HL12.out]; omega)).mono ?_
          rintro r w16 ⟨s16, rfl, o16, b16⟩
          have z16 := b16.size
          have V16 := conv_rd (w := w16) 22 9 Try.underlying22 Try.underlying9 (((RdB.drewN 1 RB.out).below b15).below b16)
          have U16 := conv_rd (w := w16) 22 9 Try.underlying22 Try.underlying9 (((RdB.drewN 1 RG.out).below b15).below b16)
          have X16 := conv_rd (w := w16) 22 9 Try.underlying22 Try.underlying9 (o16.rd)
          go_wp2_with fail
          refine hK.out _ _ ?_ (fun hHeld => ?_)
          · try dsimp only
            go_keep
          clear hK K
          try simp only [Act.put, List.getElem_toArray, List.getElem_cons_zero, List.getElem_cons_succ, List.setIfInBounds_toArray, List.set_cons_zero, List.set_cons_succ]
          refine wpAnyH_ready (rs := [9]) (by kernel_rfl) (by simp) ?_
          refine AllReadyH.cons rfl (fun K hK => ?_) AllReadyH.nil
          go_simp
          refine hK.out _ _ ?_ (fun hHeld => ?_)
          · try dsimp only
            go_keep
          clear hK K
          try simp only [Act.put, List.getElem_toArray, List.getElem_cons_zero, List.getElem_cons_succ, List.setIfInBounds_toArray, List.set_cons_zero, List.set_cons_succ]
          refine wpAnyH_take (i := 12) (v := ?_) rfl (by kernel_rfl) (by kernel_rfl) (by kernel_rfl) (fun _ _ _ h => h) (Or.inl ⟨by rfl, ?_⟩) (by assumption) ?_
          rotate_left
          · intro w0 hSw
            (try dsimp only at hSw)
            go_simp
            try with_reducible rfl
          simp only [Act.put, List.getElem_toArray, List.getElem_cons_zero, List.getElem_cons_succ, List.setIfInBounds_toArray, List.set_cons_zero, List.set_cons_succ]
          refine wpAnyH_take (i := 13) (v := ?_) rfl (by kernel_rfl) (by kernel_rfl) (by kernel_rfl) (fun _ _ _ h => h) (Or.inl ⟨by rfl, ?_⟩) (by assumption) ?_
          rotate_left
          · intro w0 hSw
            (try dsimp only at hSw)
            go_simp
            try with_reducible rfl
          simp only [Act.put, List.getElem_toArray, List.getElem_cons_zero, List.getElem_cons_succ, List.setIfInBounds_toArray, List.set_cons_zero, List.set_cons_succ]
          refine wpAnyH_take (i := 14) (v := ?_) rfl (by kernel_rfl) (by kernel_rfl) (by kernel_rfl) (fun _ _ _ h => h) (Or.inl ⟨by rfl, ?_⟩) (by assumption) ?_
          rotate_left
          · intro w0 hSw
            (try dsimp only at hSw)
            go_simp
            try with_reducible rfl
          simp only [Act.put, List.getElem_toArray, List.getElem_cons_zero, List.getElem_cons_succ, List.setIfInBounds_toArray, List.set_cons_zero, List.set_cons_succ]
          refine wpAnyH_done (by kernel_rfl) ?_ _
          clear hHeld
          go_wp2
          go_ret
          exact ⟨rfl, ((bel_drewN 1 Bk.out).trans (b15.mono (by simp; omega))).trans (b16.mono (by simp at z15; omega))⟩
theorem u8_bdx {a : Int} (h : (Lit.int .u8 a).wf = true) : 0 ≤ a ∧ a ≤ 255 := by
  simpa [Lit.wf, IntKind.min, IntKind.max, IntKind.signed, IntKind.bits] using h
theorem rd_sliceX {w : World} {v : Value} {l : List Int} (h : RdB w v l) : ∃ a n c, v = .slice a n c := by
  rcases h with ⟨rfl, rfl⟩ | ⟨a, cap, rfl, rfl, hm⟩ | ⟨b, off, cap, rfl, hc, hm, hcell⟩
  · exact ⟨_, _, _, rfl⟩
  · exact ⟨_, _, _, rfl⟩
  · exact ⟨_, _, _, rfl⟩
theorem back_said (a : Int) (wa : (Lit.int .u8 a).wf = true) (v : Value) (l : List Int) (n : Int) (wn : (Lit.int .u8 n).wf = true) (w : World) (h : RdB w v l) (hl : IsB l) :
    Calls Try.prog 12 #[.int .u8 a, v, .int .u8 n] w fun r w' => r = .returned (.bool true) ∧ Below w.heap.size w w' := by
  obtain ⟨s0, sl, sc, rfl⟩ := rd_sliceX h
  have ba := u8_bdx wa
  have bn := u8_bdx wn
  obtain ⟨A, rfl⟩ := Int.eq_ofNat_of_zero_le ba.1
  obtain ⟨N, rfl⟩ := Int.eq_ofNat_of_zero_le bn.1
  by_cases h1 : (200 : Int) < (sl : Int)
  · exact back_early A N s0 sl sc w h1
  · exact back_walk A N s0 sl sc l w h hl (by omega) (by omega) (by omega)
end Go.Proofs.Ytkbjbpaeoopkfaa
