/- Frames: the contract of the reference's Frame. Conditions: the words are in their kind's range. -/
import Derived.Test.YtabifjolocmonaaHh
import Derived.StillTailTactics
namespace Go.Proofs.Ytabifjolocmonaa
set_option maxRecDepth 100000
open Go.RowKit
set_option linter.unusedVariables false
set_option linter.unusedSimpArgs false
def wdB (a b c d : Int) : List Int := leB a 8 ++ (leB b 8 ++ (leB c 8 ++ leB d 8))
def wdP (a b c d : Int) (k : Nat) : List Int := ([a, b, c, d].take k).flatMap fun x => leB x 8
theorem wdP_four (a b c d : Int) : wdP a b c d 4 = wdB a b c d := by simp [wdP, wdB]
theorem wdP_len (a b c d : Int) (k : Nat) (h : k ≤ 4) : (wdP a b c d k).length ≤ 100 := by
  match k, h with
  | 0, _ | 1, _ | 2, _ | 3, _ | 4, _ => simp [wdP, leB_length]
theorem wdP_1 (a b c d : Int) : wdP a b c d (0 + 1) = wdP a b c d 0 ++ leB a 8 := by simp [wdP]
theorem wdP_2 (a b c d : Int) : wdP a b c d (1 + 1) = wdP a b c d 1 ++ leB b 8 := by simp [wdP]
theorem wdP_3 (a b c d : Int) : wdP a b c d (2 + 1) = wdP a b c d 2 ++ leB c 8 := by simp [wdP]
theorem wdP_4 (a b c d : Int) : wdP a b c d (3 + 1) = wdP a b c d 3 ++ leB d 8 := by simp [wdP]
theorem farD (w : World) (a : Addr) : w.drew.cell? a = w.cell? a := rfl
theorem farC (w : World) {q g i o : Nat} {v : Value} (h : q ≠ g) : (w.setCell ⟨q, i, none⟩ v).cell? ⟨g, o, none⟩ = w.cell? ⟨g, o, none⟩ := World.cell?_setCell_far _ _ _ _ h
theorem far9 {w : World} {q g : Nat} (o : Nat) (hne : q ≠ g) (v0 v1 v2 v3 v4 v5 v6 v7 v8 : Value) :
    (((((((((w.setCell ⟨q, 0, none⟩ v0).setCell ⟨q, 1, none⟩ v1).setCell ⟨q, 2, none⟩ v2).setCell ⟨q, 3, none⟩ v3).setCell ⟨q, 4, none⟩ v4).setCell ⟨q, 5, none⟩ v5).setCell ⟨q, 6, none⟩ v6).setCell ⟨q, 7, none⟩ v7).setCell ⟨q, 8, none⟩ v8).drew.cell? ⟨g, o, none⟩ = w.cell? ⟨g, o, none⟩ := by
  rw [farD, farC _ hne, farC _ hne, farC _ hne, farC _ hne, farC _ hne, farC _ hne, farC _ hne, farC _ hne, farC _ hne]
theorem wdB_len (a b c d : Int) : (wdB a b c d).length = 32 := by simp [wdB, leB_length]
theorem wdB_is (a b c d : Int) : IsB (wdB a b c d) := (leB_is _ _).append ((leB_is _ _).append ((leB_is _ _).append (leB_is _ _)))
theorem drop8 (A B : List Int) (h : A.length = 8) (k : Nat) : (A ++ B).drop (8 + k) = B.drop k := by
  rw [← List.drop_drop, show 8 = A.length by omega, List.drop_left]
theorem half0 (x : Int) (B : List Int) : sg4 ((leB x 8 ++ B).take 4) = loS x := by
  rw [List.take_append_of_le_length (by rw [leB_length]; omega), leB_take _ _ _ (by omega)]
  unfold sg4 loS
  rw [leN_leB]
  rfl
theorem half1 (x : Int) (B : List Int) (h0 : 0 ≤ x) (h1 : x ≤ 18446744073709551615) : sg4 (((leB x 8 ++ B).drop 4).take 4) = hiS x := by
  rw [List.drop_append_of_le_length (by rw [leB_length]; omega), leB_drop, List.take_append_of_le_length (by rw [leB_length]; omega), leB_take _ _ _ (by omega)]
  unfold sg4 hiS
  rw [leN_leB]
  unfold wrap32
  have e : (256 : Int) ^ 4 = 4294967296 := by decide
  rw [e]
  omega
theorem half_b (a b c d : Int) : sg4 (((wdB a b c d).drop 8).take 4) = loS b := by
  unfold wdB
  rw [show 8 = 8 + 0 by rfl, drop8 _ _ (leB_length _ _), List.drop_zero]
  exact half0 b _
theorem half_b1 (a b c d : Int) (h0 : 0 ≤ b) (h1 : b ≤ 18446744073709551615) : sg4 (((wdB a b c d).drop 12).take 4) = hiS b := by
  unfold wdB
  rw [show 12 = 8 + 4 by rfl, drop8 _ _ (leB_length _ _)]
  exact half1 b _ h0 h1
theorem half_c (a b c d : Int) : sg4 (((wdB a b c d).drop 16).take 4) = loS c := by
  unfold wdB
  rw [show 16 = 8 + 8 by rfl, drop8 _ _ (leB_length _ _), show 8 = 8 + 0 by rfl, drop8 _ _ (leB_length _ _), List.drop_zero]
  exact half0 c _
theorem half_c1 (a b c d : Int) (h0 : 0 ≤ c) (h1 : c ≤ 18446744073709551615) : sg4 (((wdB a b c d).drop 20).take 4) = hiS c := by
  unfold wdB
  rw [show 20 = 8 + 12 by rfl, drop8 _ _ (leB_length _ _), show 12 = 8 + 4 by rfl, drop8 _ _ (leB_length _ _)]
  exact half1 c _ h0 h1
theorem half_d (a b c d : Int) (h0 : 0 ≤ d) (h1 : d ≤ 18446744073709551615) : leN (((wdB a b c d).drop 24).take 8) = d := by
  unfold wdB
  rw [show 24 = 8 + 16 by rfl, drop8 _ _ (leB_length _ _), show 16 = 8 + 8 by rfl, drop8 _ _ (leB_length _ _), show 8 = 8 + 0 by rfl, drop8 _ _ (leB_length _ _), List.drop_zero, List.take_of_length_le (by rw [leB_length]; omega), leN_leB]
  have e : (256 : Int) ^ 8 = 18446744073709551616 := by decide
  rw [e]
  omega
theorem byte_a (a b c d : Int) (k : Nat) (h : k < 8) : gB (wdB a b c d) k = a / 256 ^ k % 256 := by
  have e : gB (wdB a b c d) k = gB (leB a 8) k := by
    unfold wdB gB
    rw [List.getD_eq_getElem?_getD, List.getD_eq_getElem?_getD, List.getElem?_append_left (by rw [leB_length]; exact h)]
  rw [e]
  match k, h with
  | 0, _ => simp [leB, gB]
  | 1, _ | 2, _ | 3, _ | 4, _ | 5, _ | 6, _ | 7, _ => simp [leB, gB]; try omega
theorem byte_4 (a b c d : Int) : gB (wdB a b c d) 4 = a / 4294967296 % 256 := byte_a a b c d 4 (by omega)
theorem byte_5 (a b c d : Int) : gB (wdB a b c d) 5 = a / 1099511627776 % 256 := byte_a a b c d 5 (by omega)
theorem byte_67 (a b c d : Int) : gB (wdB a b c d) 6 + 256 * gB (wdB a b c d) 7 = a / 281474976710656 % 65536 := by
  have h6 : gB (wdB a b c d) 6 = a / 281474976710656 % 256 := byte_a a b c d 6 (by omega)
  have h7 : gB (wdB a b c d) 7 = a / 72057594037927936 % 256 := byte_a a b c d 7 (by omega)
  rw [h6, h7]
  omega
theorem qIx0 (a b c d : Int) (w : World) : (Instr.index 36 (.agg #[.int .u64 a, .int .u64 b, .int .u64 c, .int .u64 d]) (.int .i64 0)).run Try.prog w = .ok (.int .u64 a) w := by kernel_rfl
theorem qIx1 (a b c d : Int) (w : World) : (Instr.index 36 (.agg #[.int .u64 a, .int .u64 b, .int .u64 c, .int .u64 d]) (.int .i64 1)).run Try.prog w = .ok (.int .u64 b) w := by kernel_rfl
theorem qIx2 (a b c d : Int) (w : World) : (Instr.index 36 (.agg #[.int .u64 a, .int .u64 b, .int .u64 c, .int .u64 d]) (.int .i64 2)).run Try.prog w = .ok (.int .u64 c) w := by kernel_rfl
theorem qIx3 (a b c d : Int) (w : World) : (Instr.index 36 (.agg #[.int .u64 a, .int .u64 b, .int .u64 c, .int .u64 d]) (.int .i64 3)).run Try.prog w = .ok (.int .u64 d) w := by kernel_rfl
theorem sgn_at (a k c g : Nat) (l : List Int) (w w0 : World) (hl : l.length = 32) (hb : IsB l) (hcl : ∀ i, i < 32 → w0.cell? ⟨g, i, none⟩ = some (.int .u8 (gB l i))) (hk : k = 4) (ha : a + 4 ≤ 32) (hc : 4 ≤ c) (hm : c ≤ maxLen) (hw : Below w0.heap.size w0 w) :
    Calls Try.prog 61 #[.slice (some ⟨g, a, none⟩) k c] w fun e w' => e = .returned (.int .i32 (sg4 ((l.drop a).take 4))) ∧ w = w' := by
  subst hk
  refine refSigned_any _ _ _ (RdB.cells (by simp; omega) hc hm fun i hi => ?_) ((hb.drop a).take 4) (by simp; omega)
  rw [hw.cell (p := ⟨g, a + i, none⟩) (World.block_lt_of_cell? w0 _ (hcl (a + i) (by omega))), hcl (a + i) (by omega), gB_take _ _ _ hi]
  simp [gB, List.getD]
theorem num_at (a k c g : Nat) (l : List Int) (w w0 : World) (hl : l.length = 32) (hb : IsB l) (hcl : ∀ i, i < 32 → w0.cell? ⟨g, i, none⟩ = some (.int .u8 (gB l i))) (hk : k = 8) (ha : a + 8 ≤ 32) (hc : 8 ≤ c) (hm : c ≤ maxLen) (hw : Below w0.heap.size w0 w) :
    Calls Try.prog 62 #[.slice (some ⟨g, a, none⟩) k c] w fun e w' => e = .returned (.int .u64 (leN ((l.drop a).take 8))) ∧ w = w' := by
  subst hk
  have h := refNumber_any (.slice (some ⟨g, a, none⟩) 8 c) ((l.drop a).take 8) w (RdB.cells (by simp; omega) hc hm fun i hi => by
    rw [hw.cell (p := ⟨g, a + i, none⟩) (World.block_lt_of_cell? w0 _ (hcl (a + i) (by omega))), hcl (a + i) (by omega), gB_take _ _ _ hi]
    simp [gB, List.getD]) ((hb.drop a).take 8)
  rw [List.take_take, Nat.min_self] at h
  exact h
theorem y_word (a b c d : Int) : IntKind.u16.wrap (IntKind.u16.wrap (gB (wdB a b c d) 6) + IntKind.u16.wrap (256 * IntKind.u16.wrap (gB (wdB a b c d) 7))) = a / 281474976710656 % 65536 := by
  have h := byte_67 a b c d
  have v6 := (wdB_is a b c d).getD 6
  have v7 := (wdB_is a b c d).getD 7
  change 0 ≤ gB (wdB a b c d) 6 ∧ gB (wdB a b c d) 6 < 256 at v6
  change 0 ≤ gB (wdB a b c d) 7 ∧ gB (wdB a b c d) 7 < 256 at v7
  simp only [IntKind.wrap_u16]
  omega
set_option maxHeartbeats 4000000 in
theorem refFFrame_any (a b c d : Int) (w : World) (ha : 0 ≤ a ∧ a ≤ 18446744073709551615) (hb : 0 ≤ b ∧ b ≤ 18446744073709551615) (hc : 0 ≤ c ∧ c ≤ 18446744073709551615) (hd : 0 ≤ d ∧ d ≤ 18446744073709551615) :
    Calls Try.prog 24 #[.agg #[.int .u64 a, .int .u64 b, .int .u64 c, .int .u64 d]] w fun e w' => e = .returned (.agg #[.int .i32 (frmW a b c d).l, .int .u8 (frmW a b c d).v, .int .u8 (frmW a b c d).g, .int .u16 (frmW a b c d).y, .int .i32 (frmW a b c d).o, .int .i32 (frmW a b c d).s, .int .i32 (frmW a b c d).t, .int .i32 (frmW a b c d).m, .int .u64 (frmW a b c d).r]) ∧ Below w.heap.size w w' := by
  obtain ⟨a0, a1⟩ := ha
  obtain ⟨b0, b1⟩ := hb
  obtain ⟨c0, c1⟩ := hc
  obtain ⟨d0, d1⟩ := hd
  go_enter Try.func24, Try.ntmps24
  go_wp2_with fail
  obtain ⟨w2, hw2⟩ : ∃ w2, w2 = (w.alloc (Obj.cells #[Value.int IntKind.u64 a, Value.int IntKind.u64 b, Value.int IntKind.u64 c, Value.int IntKind.u64 d] 36)).alloc (Obj.cells #[Value.int IntKind.i32 0, Value.int IntKind.u8 0, Value.int IntKind.u8 0, Value.int IntKind.u16 0, Value.int IntKind.i32 0, Value.int IntKind.i32 0, Value.int IntKind.i32 0, Value.int IntKind.i32 0, Value.int IntKind.u64 0] 35) := ⟨_, rfl⟩
  rw [← hw2]
  have B2 := Lib.hid (show Below w.heap.size w w2 by rw [hw2]; go_grown)
  have E2 := Lib.hid (show Blk w2 (w.heap.size + 1) [.int .i32 0, .int .u8 0, .int .u8 0, .int .u16 0, .int .i32 0, .int .i32 0, .int .i32 0, .int .i32 0, .int .u64 0] by
    rw [hw2]
    have e := Blk.made (w.alloc (Obj.cells #[Value.int IntKind.u64 a, Value.int IntKind.u64 b, Value.int IntKind.u64 c, Value.int IntKind.u64 d] 36)) #[Value.int IntKind.i32 0, Value.int IntKind.u8 0, Value.int IntKind.u8 0, Value.int IntKind.u16 0, Value.int IntKind.i32 0, Value.int IntKind.i32 0, Value.int IntKind.i32 0, Value.int IntKind.i32 0, Value.int IntKind.u64 0] 35
    rw [World.size_alloc] at e
    exact e)
  have z2 : w.heap.size + 2 ≤ w2.heap.size := by rw [hw2]; simp
  clear hw2
  go_loopw [3, 7] (fun ov i wr => ∃ k : Nat, k ≤ 4 ∧ i = .int .i64 k ∧ (∃ xs xl xp, ov = .slice xs xl xp ∧ OwB 5 w2.heap.size wr (.slice xs xl xp) (wdP a b c d k)) ∧ Below w2.heap.size w2 wr) (fun _ i _ => 4 - (intOf i).toNat)
  case atStart => exact ⟨0, by omega, rfl, ⟨_, _, _, rfl, OwB.nil _ _ _⟩, Below.refl _ _⟩
  case round =>
    obtain ⟨k, hk, rfl, ⟨xa, xn, xc, rfl, hO⟩, hB⟩ := hrel
    have zr := hB.size
    have HO := Lib.hid hO
    have HB := Lib.hid hB
    have hlen := wdP_len a b c d k hk
    clear hO hB
    by_cases hlt : k < 4
    · obtain rfl | rfl | rfl | rfl : k = 0 ∨ k = 1 ∨ k = 2 ∨ k = 3 := by omega
      · have q0 := qIx0
        go_wp2_with fail
        refine (refBytes_any a 8 _ (by omega) (by omega) (by omega)).mono ?_
        rintro e w8 ⟨v8, rfl, o8, b8⟩
        obtain ⟨x8, n8, c8', rfl⟩ := own_slcG o8
        have O8 := Lib.hid (HO.out.below b8)
        have B8 := Lib.hid (HB.out.trans (b8.mono zr))
        have z8 := b8.size
        have R8 := Lib.hid o8.rd
        clear o8 b8 HO HB
        go_wp2_with (refine list_app rfl (.tmp 10) (.tmp 12) rfl w2.heap.size _ _ _ _ rfl O8.out rfl R8.out (by rw [leB_length]; omega) (by omega) ?_)
        intro v9 w9 p9
        obtain ⟨x9, n9, c9', rfl⟩ := own_slcG p9.1
        have O9 := Lib.hid p9.1
        have B9 := Lib.hid (B8.out.grown p9.2.1 (by omega) (fun k hk => own_geG O8.out k hk))
        clear p9 O8 B8 R8
        go_wp2
        refine ⟨⟨0 + 1, by omega, by rfl, ⟨_, _, _, rfl, ?_⟩, B9.out⟩, by simp [intOf]⟩
        rw [wdP_1]
        exact O9.out
      · have q1 := qIx1
        go_wp2_with fail
        refine (refBytes_any b 8 _ (by omega) (by omega) (by omega)).mono ?_
        rintro e w8 ⟨v8, rfl, o8, b8⟩
        obtain ⟨x8, n8, c8', rfl⟩ := own_slcG o8
        have O8 := Lib.hid (HO.out.below b8)
        have B8 := Lib.hid (HB.out.trans (b8.mono zr))
        have z8 := b8.size
        have R8 := Lib.hid o8.rd
        clear o8 b8 HO HB
        go_wp2_with (refine list_app rfl (.tmp 10) (.tmp 12) rfl w2.heap.size _ _ _ _ rfl O8.out rfl R8.out (by rw [leB_length]; omega) (by omega) ?_)
        intro v9 w9 p9
        obtain ⟨x9, n9, c9', rfl⟩ := own_slcG p9.1
        have O9 := Lib.hid p9.1
        have B9 := Lib.hid (B8.out.grown p9.2.1 (by omega) (fun k hk => own_geG O8.out k hk))
        clear p9 O8 B8 R8
        go_wp2
        refine ⟨⟨1 + 1, by omega, by rfl, ⟨_, _, _, rfl, ?_⟩, B9.out⟩, by simp [intOf]⟩
        rw [wdP_2]
        exact O9.out
      · have q2 := qIx2
        go_wp2_with fail
        refine (refBytes_any c 8 _ (by omega) (by omega) (by omega)).mono ?_
        rintro e w8 ⟨v8, rfl, o8, b8⟩
        obtain ⟨x8, n8, c8', rfl⟩ := own_slcG o8
        have O8 := Lib.hid (HO.out.below b8)
        have B8 := Lib.hid (HB.out.trans (b8.mono zr))
        have z8 := b8.size
        have R8 := Lib.hid o8.rd
        clear o8 b8 HO HB
        go_wp2_with (refine list_app rfl (.tmp 10) (.tmp 12) rfl w2.heap.size _ _ _ _ rfl O8.out rfl R8.out (by rw [leB_length]; omega) (by omega) ?_)
        intro v9 w9 p9
        obtain ⟨x9, n9, c9', rfl⟩ := own_slcG p9.1
        have O9 := Lib.hid p9.1
        have B9 := Lib.hid (B8.out.grown p9.2.1 (by omega) (fun k hk => own_geG O8.out k hk))
        clear p9 O8 B8 R8
        go_wp2
        refine ⟨⟨2 + 1, by omega, by rfl, ⟨_, _, _, rfl, ?_⟩, B9.out⟩, by simp [intOf]⟩
        rw [wdP_3]
        exact O9.out
      · have q3 := qIx3
        go_wp2_with fail
        refine (refBytes_any d 8 _ (by omega) (by omega) (by omega)).mono ?_
        rintro e w8 ⟨v8, rfl, o8, b8⟩
        obtain ⟨x8, n8, c8', rfl⟩ := own_slcG o8
        have O8 := Lib.hid (HO.out.below b8)
        have B8 := Lib.hid (HB.out.trans (b8.mono zr))
        have z8 := b8.size
        have R8 := Lib.hid o8.rd
        clear o8 b8 HO HB
        go_wp2_with (refine list_app rfl (.tmp 10) (.tmp 12) rfl w2.heap.size _ _ _ _ rfl O8.out rfl R8.out (by rw [leB_length]; omega) (by omega) ?_)
        intro v9 w9 p9
        obtain ⟨x9, n9, c9', rfl⟩ := own_slcG p9.1
        have O9 := Lib.hid p9.1
        have B9 := Lib.hid (B8.out.grown p9.2.1 (by omega) (fun k hk => own_geG O8.out k hk))
        clear p9 O8 B8 R8
        go_wp2
        refine ⟨⟨3 + 1, by omega, by rfl, ⟨_, _, _, rfl, ?_⟩, B9.out⟩, by simp [intOf]⟩
        rw [wdP_4]
        exact O9.out
    · obtain rfl : k = 4 := by omega
      clear hlt hk hlen
      have hO := HO.out
      rw [wdP_four] at hO
      obtain ⟨g, cap, hv, hg, hgl, hcp, hm, hcell⟩ := hO.slice (by rw [wdB_len]; omega)
      rw [hv, wdB_len]
      clear hv
      rw [wdB_len] at hcp hcell
      have k4 := hcell 4 (by omega)
      have k5 := hcell 5 (by omega)
      have k6 := hcell 6 (by omega)
      have k7 := hcell 7 (by omega)
      have v6 := (wdB_is a b c d).getD 6
      have v7 := (wdB_is a b c d).getD 7
      have HC := Lib.hid hcell
      clear hcell hO
      go_wp2_with fail
      have i4 : (4 : Int) ≤ (cap : Int) := by omega
      have i8 : (8 : Int) ≤ (cap : Int) := by omega
      have i12 : (12 : Int) ≤ (cap : Int) := by omega
      have i16 : (16 : Int) ≤ (cap : Int) := by omega
      have i20 : (20 : Int) ≤ (cap : Int) := by omega
      have i24 : (24 : Int) ≤ (cap : Int) := by omega
      have i32 : (32 : Int) ≤ (cap : Int) := by omega
      have E3 := Lib.hid (E2.out.below HB.out (by omega))
      have f0 := Blk.frozen E3.out 0
      have f1 := Blk.frozen E3.out 1
      have f2 := Blk.frozen E3.out 2
      have f3 := Blk.frozen E3.out 3
      have f4 := Blk.frozen E3.out 4
      have f5 := Blk.frozen E3.out 5
      have f6 := Blk.frozen E3.out 6
      have f7 := Blk.frozen E3.out 7
      have f8 := Blk.frozen E3.out 8
      have e0 : wr.cell? ⟨w.heap.size + 1, 0, none⟩ = some (.int .i32 0) := Blk.cell E3.out 0
      have e1 : wr.cell? ⟨w.heap.size + 1, 1, none⟩ = some (.int .u8 0) := Blk.cell E3.out 1
      have e2 : wr.cell? ⟨w.heap.size + 1, 2, none⟩ = some (.int .u8 0) := Blk.cell E3.out 2
      have e3 : wr.cell? ⟨w.heap.size + 1, 3, none⟩ = some (.int .u16 0) := Blk.cell E3.out 3
      have e4 : wr.cell? ⟨w.heap.size + 1, 4, none⟩ = some (.int .i32 0) := Blk.cell E3.out 4
      have e5 : wr.cell? ⟨w.heap.size + 1, 5, none⟩ = some (.int .i32 0) := Blk.cell E3.out 5
      have e6 : wr.cell? ⟨w.heap.size + 1, 6, none⟩ = some (.int .i32 0) := Blk.cell E3.out 6
      have e7 : wr.cell? ⟨w.heap.size + 1, 7, none⟩ = some (.int .i32 0) := Blk.cell E3.out 7
      have e8 : wr.cell? ⟨w.heap.size + 1, 8, none⟩ = some (.int .u64 0) := Blk.cell E3.out 8
      have hm' := Lib.hid hm
      unfold maxLen at hm
      refine wp_region_held_drew (S := fun w' => w'.cell? ⟨g, 4, none⟩ = some (.int .u8 (gB (wdB a b c d) 4)) ∧ w'.cell? ⟨g, 5, none⟩ = some (.int .u8 (gB (wdB a b c d) 5)) ∧ w'.cell? ⟨g, 6, none⟩ = some (.int .u8 (gB (wdB a b c d) 6)) ∧ w'.cell? ⟨g, 7, none⟩ = some (.int .u8 (gB (wdB a b c d) 7))) (by kernel_rfl) ?_ (fun hHeld => ?_)
      · try dsimp only
        go_keep
      refine wpAnyH_take (i := 0) (v := ?_) rfl (by kernel_rfl) (by kernel_rfl) (by kernel_rfl) (fun _ _ _ h => h) (Or.inl ⟨by rfl, ?_⟩) (by assumption) ?_
      rotate_left
      · intro w0 hSw
        (try dsimp only at hSw)
        go_simp
        try with_reducible rfl
      simp only [Act.put, List.getElem_toArray, List.getElem_cons_zero, List.getElem_cons_succ, List.setIfInBounds_toArray, List.set_cons_zero, List.set_cons_succ]
      refine wpAnyH_take (i := 1) (v := ?_) rfl (by kernel_rfl) (by kernel_rfl) (by kernel_rfl) (fun _ _ _ h => h) (Or.inl ⟨by rfl, ?_⟩) (by assumption) ?_
      rotate_left
      · intro w0 hSw
        (try dsimp only at hSw)
        go_simp
        try with_reducible rfl
      simp only [Act.put, List.getElem_toArray, List.getElem_cons_zero, List.getElem_cons_succ, List.setIfInBounds_toArray, List.set_cons_zero, List.set_cons_succ]
      refine wpAnyH_take (i := 3) (v := ?_) rfl (by kernel_rfl) (by kernel_rfl) (by kernel_rfl) (fun _ _ _ h => h) (Or.inl ⟨by rfl, ?_⟩) (by assumption) ?_
      rotate_left
      · intro w0 hSw
        (try dsimp only at hSw)
        go_simp
        try with_reducible rfl
      simp only [Act.put, List.getElem_toArray, List.getElem_cons_zero, List.getElem_cons_succ, List.setIfInBounds_toArray, List.set_cons_zero, List.set_cons_succ]
      refine wpAnyH_take (i := 4) (v := ?_) rfl (by kernel_rfl) (by kernel_rfl) (by kernel_rfl) (fun _ _ _ h => h) (Or.inl ⟨by rfl, ?_⟩) (by assumption) ?_
      rotate_left
      · intro w0 hSw
        (try dsimp only at hSw)
        go_simp
        try with_reducible rfl
      simp only [Act.put, List.getElem_toArray, List.getElem_cons_zero, List.getElem_cons_succ, List.setIfInBounds_toArray, List.set_cons_zero, List.set_cons_succ]
      refine wpAnyH_take (i := 5) (v := ?_) rfl (by kernel_rfl) (by kernel_rfl) (by kernel_rfl) (fun _ _ _ h => h) (Or.inl ⟨by rfl, ?_⟩) (by assumption) ?_
      rotate_left
      · intro w0 hSw
        (try dsimp only at hSw)
        go_simp
        try with_reducible rfl
      simp only [Act.put, List.getElem_toArray, List.getElem_cons_zero, List.getElem_cons_succ, List.setIfInBounds_toArray, List.set_cons_zero, List.set_cons_succ]
      refine wpAnyH_take (i := 6) (v := ?_) rfl (by kernel_rfl) (by kernel_rfl) (by kernel_rfl) (fun _ _ _ h => h) (Or.inl ⟨by rfl, ?_⟩) (by assumption) ?_
      rotate_left
      · intro w0 hSw
        (try dsimp only at hSw)
        go_simp
        try with_reducible rfl
      simp only [Act.put, List.getElem_toArray, List.getElem_cons_zero, List.getElem_cons_succ, List.setIfInBounds_toArray, List.set_cons_zero, List.set_cons_succ]
      refine wpAnyH_take (i := 7) (v := ?_) rfl (by kernel_rfl) (by kernel_rfl) (by kernel_rfl) (fun _ _ _ h => h) (Or.inl ⟨by rfl, ?_⟩) (by assumption) ?_
      rotate_left
      · intro w0 hSw
        (try dsimp only at hSw)
        go_simp
        try with_reducible rfl
      simp only [Act.put, List.getElem_toArray, List.getElem_cons_zero, List.getElem_cons_succ, List.setIfInBounds_toArray, List.set_cons_zero, List.set_cons_succ]
      refine wpAnyH_take (i := 8) (v := ?_) rfl (by kernel_rfl) (by kernel_rfl) (by kernel_rfl) (fun _ _ _ h => h) (Or.inl ⟨by rfl, ?_⟩) (by assumption) ?_
      rotate_left
      · intro w0 hSw
        (try dsimp only at hSw)
        go_simp
        try with_reducible rfl
      simp only [Act.put, List.getElem_toArray, List.getElem_cons_zero, List.getElem_cons_succ, List.setIfInBounds_toArray, List.set_cons_zero, List.set_cons_succ]
      refine wpAnyH_take (i := 9) (v := ?_) rfl (by kernel_rfl) (by kernel_rfl) (by kernel_rfl) (fun _ _ _ h => h) (Or.inl ⟨by rfl, ?_⟩) (by assumption) ?_
      rotate_left
      · intro w0 hSw
        (try dsimp only at hSw)
        go_simp
        try with_reducible rfl
      simp only [Act.put, List.getElem_toArray, List.getElem_cons_zero, List.getElem_cons_succ, List.setIfInBounds_toArray, List.set_cons_zero, List.set_cons_succ]
      refine wpAnyH_take (i := 10) (v := ?_) rfl (by kernel_rfl) (by kernel_rfl) (by kernel_rfl) (fun _ _ _ h => h) (Or.inl ⟨by rfl, ?_⟩) (by assumption) ?_
      rotate_left
      · intro w0 hSw
        (try dsimp only at hSw)
        go_simp
        try with_reducible rfl
      simp only [Act.put, List.getElem_toArray, List.getElem_cons_zero, List.getElem_cons_succ, List.setIfInBounds_toArray, List.set_cons_zero, List.set_cons_succ]
      refine wpAnyH_take (i := 11) (v := ?_) rfl (by kernel_rfl) (by kernel_rfl) (by kernel_rfl) (fun _ _ _ h => h) (Or.inl ⟨by rfl, ?_⟩) (by assumption) ?_
      rotate_left
      · intro w0 hSw
        (try dsimp only at hSw)
        go_simp
        try with_reducible rfl
      simp only [Act.put, List.getElem_toArray, List.getElem_cons_zero, List.getElem_cons_succ, List.setIfInBounds_toArray, List.set_cons_zero, List.set_cons_succ]
      refine wpAnyH_take (i := 12) (v := ?_) rfl (by kernel_rfl) (by kernel_rfl) (by kernel_rfl) (fun _ _ _ h => h) (Or.inl ⟨by rfl, ?_⟩) (by assumption) ?_
      rotate_left
      · intro w0 hSw
        (try dsimp only at hSw)
        go_simp
        try with_reducible rfl
      simp only [Act.put, List.getElem_toArray, List.getElem_cons_zero, List.getElem_cons_succ, List.setIfInBounds_toArray, List.set_cons_zero, List.set_cons_succ]
      refine wpAnyH_take (i := 13) (v := ?_) rfl (by kernel_rfl) (by kernel_rfl) (by kernel_rfl) (fun _ _ _ h => h) (Or.inl ⟨by rfl, ?_⟩) (by assumption) ?_
      rotate_left
      · intro w0 hSw
        (try dsimp only at hSw)
        go_simp
        try with_reducible rfl
      simp only [Act.put, List.getElem_toArray, List.getElem_cons_zero, List.getElem_cons_succ, List.setIfInBounds_toArray, List.set_cons_zero, List.set_cons_succ]
      refine wpAnyH_take (i := 14) (v := ?_) rfl (by kernel_rfl) (by kernel_rfl) (by kernel_rfl) (fun _ _ _ h => h) (Or.inl ⟨by rfl, ?_⟩) (by assumption) ?_
      rotate_left
      · intro w0 hSw
        (try dsimp only at hSw)
        go_simp
        try with_reducible rfl
      simp only [Act.put, List.getElem_toArray, List.getElem_cons_zero, List.getElem_cons_succ, List.setIfInBounds_toArray, List.set_cons_zero, List.set_cons_succ]
      refine wpAnyH_take (i := 15) (v := ?_) rfl (by kernel_rfl) (by kernel_rfl) (by kernel_rfl) (fun _ _ _ h => h) (Or.inl ⟨by rfl, ?_⟩) (by assumption) ?_
      rotate_left
      · intro w0 hSw
        (try dsimp only at hSw)
        go_simp
        try with_reducible rfl
      simp only [Act.put, List.getElem_toArray, List.getElem_cons_zero, List.getElem_cons_succ, List.setIfInBounds_toArray, List.set_cons_zero, List.set_cons_succ]
      refine wpAnyH_take (i := 16) (v := ?_) rfl (by kernel_rfl) (by kernel_rfl) (by kernel_rfl) (fun _ _ _ h => h) (Or.inl ⟨by rfl, ?_⟩) (by assumption) ?_
      rotate_left
      · intro w0 hSw
        (try dsimp only at hSw)
        go_simp
        try with_reducible rfl
      simp only [Act.put, List.getElem_toArray, List.getElem_cons_zero, List.getElem_cons_succ, List.setIfInBounds_toArray, List.set_cons_zero, List.set_cons_succ]
      refine wpAnyH_take (i := 17) (v := ?_) rfl (by kernel_rfl) (by kernel_rfl) (by kernel_rfl) (fun _ _ _ h => h) (Or.inl ⟨by rfl, ?_⟩) (by assumption) ?_
      rotate_left
      · intro w0 hSw
        (try dsimp only at hSw)
        go_simp
        try with_reducible rfl
      simp only [Act.put, List.getElem_toArray, List.getElem_cons_zero, List.getElem_cons_succ, List.setIfInBounds_toArray, List.set_cons_zero, List.set_cons_succ]
      refine wpAnyH_take (i := 18) (v := ?_) rfl (by kernel_rfl) (by kernel_rfl) (by kernel_rfl) (fun _ _ _ h => h) (Or.inl ⟨by rfl, ?_⟩) (by assumption) ?_
      rotate_left
      · intro w0 hSw
        (try dsimp only at hSw)
        go_simp
        try with_reducible rfl
      simp only [Act.put, List.getElem_toArray, List.getElem_cons_zero, List.getElem_cons_succ, List.setIfInBounds_toArray, List.set_cons_zero, List.set_cons_succ]
      refine wpAnyH_take (i := 19) (v := ?_) rfl (by kernel_rfl) (by kernel_rfl) (by kernel_rfl) (fun _ _ _ h => h) (Or.inl ⟨by rfl, ?_⟩) (by assumption) ?_
      rotate_left
      · intro w0 hSw
        (try dsimp only at hSw)
        go_simp
        try with_reducible rfl
      simp only [Act.put, List.getElem_toArray, List.getElem_cons_zero, List.getElem_cons_succ, List.setIfInBounds_toArray, List.set_cons_zero, List.set_cons_succ]
      refine wpAnyH_take (i := 20) (v := ?_) rfl (by kernel_rfl) (by kernel_rfl) (by kernel_rfl) (fun _ _ _ h => h) (Or.inl ⟨by rfl, ?_⟩) (by assumption) ?_
      rotate_left
      · intro w0 hSw
        (try dsimp only at hSw)
        go_simp
        try with_reducible rfl
      simp only [Act.put, List.getElem_toArray, List.getElem_cons_zero, List.getElem_cons_succ, List.setIfInBounds_toArray, List.set_cons_zero, List.set_cons_succ]
      refine wpAnyH_take (i := 22) (v := ?_) rfl (by kernel_rfl) (by kernel_rfl) (by kernel_rfl) (fun _ _ _ h => h) (Or.inl ⟨by rfl, ?_⟩) (by assumption) ?_
      rotate_left
      · intro w0 hSw
        (try dsimp only at hSw)
        go_simp
        try with_reducible rfl
      simp only [Act.put, List.getElem_toArray, List.getElem_cons_zero, List.getElem_cons_succ, List.setIfInBounds_toArray, List.set_cons_zero, List.set_cons_succ]
      refine wpAnyH_take (i := 23) (v := ?_) rfl (by kernel_rfl) (by kernel_rfl) (by kernel_rfl) (fun _ _ _ h => h) (Or.inl ⟨by rfl, ?_⟩) (by assumption) ?_
      rotate_left
      · intro w0 hSw
        (try dsimp only at hSw)
        go_simp
        try with_reducible rfl
      simp only [Act.put, List.getElem_toArray, List.getElem_cons_zero, List.getElem_cons_succ, List.setIfInBounds_toArray, List.set_cons_zero, List.set_cons_succ]
      refine wpAnyH_take (i := 25) (v := ?_) rfl (by kernel_rfl) (by kernel_rfl) (by kernel_rfl) (fun _ _ _ h => h) (Or.inl ⟨by rfl, ?_⟩) (by assumption) ?_
      rotate_left
      · intro w0 hSw
        (try dsimp only at hSw)
        go_simp
        try with_reducible rfl
      simp only [Act.put, List.getElem_toArray, List.getElem_cons_zero, List.getElem_cons_succ, List.setIfInBounds_toArray, List.set_cons_zero, List.set_cons_succ]
      refine wpAnyH_take (i := 26) (v := ?_) rfl (by kernel_rfl) (by kernel_rfl) (by kernel_rfl) (fun _ _ _ h => h) (Or.inl ⟨by rfl, ?_⟩) (by assumption) ?_
      rotate_left
      · intro w0 hSw
        (try dsimp only at hSw)
        go_simp
        try with_reducible rfl
      simp only [Act.put, List.getElem_toArray, List.getElem_cons_zero, List.getElem_cons_succ, List.setIfInBounds_toArray, List.set_cons_zero, List.set_cons_succ]
      refine wpAnyH_take (i := 28) (v := ?_) rfl (by kernel_rfl) (by kernel_rfl) (by kernel_rfl) (fun _ _ _ h => h) (Or.inl ⟨by rfl, ?_⟩) (by assumption) ?_
      rotate_left
      · intro w0 hSw
        (try dsimp only at hSw)
        go_simp
        try with_reducible rfl
      simp only [Act.put, List.getElem_toArray, List.getElem_cons_zero, List.getElem_cons_succ, List.setIfInBounds_toArray, List.set_cons_zero, List.set_cons_succ]
      refine wpAnyH_take (i := 29) (v := ?_) rfl (by kernel_rfl) (by kernel_rfl) (by kernel_rfl) (fun _ _ _ h => h) (Or.inl ⟨by rfl, ?_⟩) (by assumption) ?_
      rotate_left
      · intro w0 hSw
        (try dsimp only at hSw)
        go_simp
        try with_reducible rfl
      simp only [Act.put, List.getElem_toArray, List.getElem_cons_zero, List.getElem_cons_succ, List.setIfInBounds_toArray, List.set_cons_zero, List.set_cons_succ]
      refine wpAnyH_take (i := 31) (v := ?_) rfl (by kernel_rfl) (by kernel_rfl) (by kernel_rfl) (fun _ _ _ h => h) (Or.inl ⟨by rfl, ?_⟩) (by assumption) ?_
      rotate_left
      · intro w0 hSw
        (try dsimp only at hSw)
        go_simp
        try with_reducible rfl
      simp only [Act.put, List.getElem_toArray, List.getElem_cons_zero, List.getElem_cons_succ, List.setIfInBounds_toArray, List.set_cons_zero, List.set_cons_succ]
      refine wpAnyH_take (i := 32) (v := ?_) rfl (by kernel_rfl) (by kernel_rfl) (by kernel_rfl) (fun _ _ _ h => h) (Or.inl ⟨by rfl, ?_⟩) (by assumption) ?_
      rotate_left
      · intro w0 hSw
        (try dsimp only at hSw)
        go_simp
        try with_reducible rfl
      simp only [Act.put, List.getElem_toArray, List.getElem_cons_zero, List.getElem_cons_succ, List.setIfInBounds_toArray, List.set_cons_zero, List.set_cons_succ]
      refine wpAnyH_ready (rs := [2]) (by kernel_rfl) (by simp) ?_
      refine AllReadyH.cons rfl (fun K hK => ?_) AllReadyH.nil
      go_simp
      with_reducible refine (sgn_at _ _ _ g (wdB a b c d) _ wr (wdB_len a b c d) (wdB_is a b c d) HC.out (by omega) (by omega) (by omega) hm'.out (by go_grown)).mono ?_
      rintro e w' ⟨rfl, rfl⟩
      go_wp2_with fail
      refine hK.out _ _ ?_ (fun hHeld => ?_)
      · try dsimp only
        go_keep
      clear hK K
      try simp only [Act.put, List.getElem_toArray, List.getElem_cons_zero, List.getElem_cons_succ, List.setIfInBounds_toArray, List.set_cons_zero, List.set_cons_succ]
      refine wpAnyH_ready (rs := [21]) (by kernel_rfl) (by simp) ?_
      refine AllReadyH.cons rfl (fun K hK => ?_) AllReadyH.nil
      go_simp
      with_reducible refine (sgn_at _ _ _ g (wdB a b c d) _ wr (wdB_len a b c d) (wdB_is a b c d) HC.out (by omega) (by omega) (by omega) (Nat.le_trans (Nat.sub_le _ _) hm'.out) (by go_grown)).mono ?_
      rintro e w' ⟨rfl, rfl⟩
      go_wp2_with fail
      refine hK.out _ _ ?_ (fun hHeld => ?_)
      · try dsimp only
        go_keep
      clear hK K
      try simp only [Act.put, List.getElem_toArray, List.getElem_cons_zero, List.getElem_cons_succ, List.setIfInBounds_toArray, List.set_cons_zero, List.set_cons_succ]
      refine wpAnyH_ready (rs := [24]) (by kernel_rfl) (by simp) ?_
      refine AllReadyH.cons rfl (fun K hK => ?_) AllReadyH.nil
      go_simp
      with_reducible refine (sgn_at _ _ _ g (wdB a b c d) _ wr (wdB_len a b c d) (wdB_is a b c d) HC.out (by omega) (by omega) (by omega) (Nat.le_trans (Nat.sub_le _ _) hm'.out) (by go_grown)).mono ?_
      rintro e w' ⟨rfl, rfl⟩
      go_wp2_with fail
      refine hK.out _ _ ?_ (fun hHeld => ?_)
      · try dsimp only
        go_keep
      clear hK K
      try simp only [Act.put, List.getElem_toArray, List.getElem_cons_zero, List.getElem_cons_succ, List.setIfInBounds_toArray, List.set_cons_zero, List.set_cons_succ]
      refine wpAnyH_ready (rs := [27]) (by kernel_rfl) (by simp) ?_
      refine AllReadyH.cons rfl (fun K hK => ?_) AllReadyH.nil
      go_simp
      with_reducible refine (sgn_at _ _ _ g (wdB a b c d) _ wr (wdB_len a b c d) (wdB_is a b c d) HC.out (by omega) (by omega) (by omega) (Nat.le_trans (Nat.sub_le _ _) hm'.out) (by go_grown)).mono ?_
      rintro e w' ⟨rfl, rfl⟩
      go_wp2_with fail
      refine hK.out _ _ ?_ (fun hHeld => ?_)
      · try dsimp only
        go_keep
      clear hK K
      try simp only [Act.put, List.getElem_toArray, List.getElem_cons_zero, List.getElem_cons_succ, List.setIfInBounds_toArray, List.set_cons_zero, List.set_cons_succ]
      refine wpAnyH_ready (rs := [30]) (by kernel_rfl) (by simp) ?_
      refine AllReadyH.cons rfl (fun K hK => ?_) AllReadyH.nil
      go_simp
      with_reducible refine (sgn_at _ _ _ g (wdB a b c d) _ wr (wdB_len a b c d) (wdB_is a b c d) HC.out (by omega) (by omega) (by omega) (Nat.le_trans (Nat.sub_le _ _) hm'.out) (by go_grown)).mono ?_
      rintro e w' ⟨rfl, rfl⟩
      go_wp2_with fail
      refine hK.out _ _ ?_ (fun hHeld => ?_)
      · try dsimp only
        go_keep
      clear hK K
      try simp only [Act.put, List.getElem_toArray, List.getElem_cons_zero, List.getElem_cons_succ, List.setIfInBounds_toArray, List.set_cons_zero, List.set_cons_succ]
      refine wpAnyH_ready (rs := [33]) (by kernel_rfl) (by simp) ?_
      refine AllReadyH.cons rfl (fun K hK => ?_) AllReadyH.nil
      go_simp
      with_reducible refine (num_at _ _ _ g (wdB a b c d) _ wr (wdB_len a b c d) (wdB_is a b c d) HC.out (by omega) (by omega) (by omega) (Nat.le_trans (Nat.sub_le _ _) hm'.out) (by go_grown)).mono ?_
      rintro e w' ⟨rfl, rfl⟩
      go_wp2_with fail
      refine hK.out _ _ ?_ (fun hHeld => ?_)
      · try dsimp only
        go_keep
      clear hK K
      try simp only [Act.put, List.getElem_toArray, List.getElem_cons_zero, List.getElem_cons_succ, List.setIfInBounds_toArray, List.set_cons_zero, List.set_cons_succ]
      refine wpAnyH_take (i := 34) (v := ?_) rfl (by kernel_rfl) (by kernel_rfl) (by kernel_rfl) (fun _ _ _ h => h) (Or.inl ⟨by rfl, ?_⟩) (by assumption) ?_
      rotate_left
      · intro w0 hSw
        (try dsimp only at hSw)
        go_simp
        try with_reducible rfl
      simp only [Act.put, List.getElem_toArray, List.getElem_cons_zero, List.getElem_cons_succ, List.setIfInBounds_toArray, List.set_cons_zero, List.set_cons_succ]
      refine wpAnyH_ready (rs := [35]) (by kernel_rfl) (by simp) ?_
      refine AllReadyH.cons rfl (fun K hK => ?_) AllReadyH.nil
      go_simp
      skip
      go_wp2_with fail
      refine hK.out _ _ ?_ (fun hHeld => ?_)
      · try dsimp only
        (have hne : w.heap.size + 1 ≠ g := (by omega); with_reducible exact ⟨(far9 4 hne _ _ _ _ _ _ _ _ _).trans k4, (far9 5 hne _ _ _ _ _ _ _ _ _).trans k5, (far9 6 hne _ _ _ _ _ _ _ _ _).trans k6, (far9 7 hne _ _ _ _ _ _ _ _ _).trans k7⟩)
      clear hK K
      try simp only [Act.put, List.getElem_toArray, List.getElem_cons_zero, List.getElem_cons_succ, List.setIfInBounds_toArray, List.set_cons_zero, List.set_cons_succ]
      refine wpAnyH_done (by kernel_rfl) ?_ _
      go_wp2_with fail
      have BW : Below w.heap.size w wr := B2.out.trans (HB.out.mono (by omega))
      have HE := ((((((((((E3.out.set 0 (.int .i32 (sg4 (List.take 4 (wdB a b c d))))).set 1 (.int .u8 (gB (wdB a b c d) 4))).set 2 (.int .u8 (gB (wdB a b c d) 5))).set 3 (.int .u16 (IntKind.u16.wrap (IntKind.u16.wrap (gB (wdB a b c d) 6) + IntKind.u16.wrap (256 * IntKind.u16.wrap (gB (wdB a b c d) 7)))))).set 4 (.int .i32 (sg4 (List.take 4 (List.drop 8 (wdB a b c d)))))).set 5 (.int .i32 (sg4 (List.take 4 (List.drop 12 (wdB a b c d)))))).set 6 (.int .i32 (sg4 (List.take 4 (List.drop 16 (wdB a b c d)))))).set 7 (.int .i32 (sg4 (List.take 4 (List.drop 20 (wdB a b c d)))))).set 8 (.int .u64 (leN (List.take 8 (List.drop 24 (wdB a b c d)))))).drew)
      refine bodyPost_ret (v := .agg #[.int .i32 (frmW a b c d).l, .int .u8 (frmW a b c d).v, .int .u8 (frmW a b c d).g, .int .u16 (frmW a b c d).y, .int .i32 (frmW a b c d).o, .int .i32 (frmW a b c d).s, .int .i32 (frmW a b c d).t, .int .i32 (frmW a b c d).m, .int .u64 (frmW a b c d).r]) (res_frm (q := w.heap.size + 1) rfl rfl ?_) rfl ⟨rfl, ?_⟩
      · have l0 : sg4 (List.take 4 (wdB a b c d)) = loS a := half0 a _
        have q : (frmW a b c d).cs = [.int .i32 (sg4 (List.take 4 (wdB a b c d))), .int .u8 (gB (wdB a b c d) 4), .int .u8 (gB (wdB a b c d) 5), .int .u16 (IntKind.u16.wrap (IntKind.u16.wrap (gB (wdB a b c d) 6) + IntKind.u16.wrap (256 * IntKind.u16.wrap (gB (wdB a b c d) 7)))), .int .i32 (sg4 (List.take 4 (List.drop 8 (wdB a b c d)))), .int .i32 (sg4 (List.take 4 (List.drop 12 (wdB a b c d)))), .int .i32 (sg4 (List.take 4 (List.drop 16 (wdB a b c d)))), .int .i32 (sg4 (List.take 4 (List.drop 20 (wdB a b c d)))), .int .u64 (leN (List.take 8 (List.drop 24 (wdB a b c d))))] := by
          rw [l0, byte_4, byte_5, y_word, half_b, half_b1 _ _ _ _ b0 b1, half_c, half_c1 _ _ _ _ c0 c1, half_d _ _ _ _ d0 d1]
          rfl
        rw [q]
        exact HE
      · clear HE
        go_grown
end Go.Proofs.Ytabifjolocmonaa
