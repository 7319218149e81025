/- The reference's Init: what the tape wants. Conditions: as each says. -/
import Derived.Test.YtabifjolocmonaaMj
import Derived.Test.YtabifjolocmonaaTc
namespace Go.Proofs.Ytabifjolocmonaa
set_option maxRecDepth 100000
open Go.RowKit
set_option linter.unusedVariables false
set_option linter.unusedSimpArgs false
/-- A tape of which the accesses L were wanted, one behind the other. -/
def TI (w : World) (tb : Nat) (tv : Value) (T : List AnsV) (L : List Sto) : Prop :=
  (L.length ≤ T.length ∧ Tp w tb tv L.length accZ false) ∨ (T.length < L.length ∧ ∃ x, L[T.length]? = some x ∧ Tp w tb tv T.length x.acc true)
theorem TI.keep {M : Nat → Prop} {w w' : World} {tb : Nat} {tv : Value} {T : List AnsV} {L : List Sto} (h : TI w tb tv T L) (k : Keep M w w') (hm : ¬ M tb) : TI w' tb tv T L := by
  rcases h with ⟨h1, h2⟩ | ⟨h1, x, hx, h2⟩
  · exact .inl ⟨h1, Blk.keep h2 k hm⟩
  · exact .inr ⟨h1, x, hx, Blk.keep h2 k hm⟩
theorem TI.lt {w : World} {tb : Nat} {tv : Value} {T : List AnsV} {L : List Sto} (h : TI w tb tv T L) : tb < w.heap.size := by
  rcases h with ⟨h1, h2⟩ | ⟨h1, x, hx, h2⟩
  · exact Blk.lt h2
  · exact Blk.lt h2
set_option maxHeartbeats 1000000 in
theorem tSto_any (tb : Nat) (tv : Value) (T : List AnsV) (L : List Sto) (x : Sto) (w : World) (h : TI w tb tv T L) (hT : TOk w tb tv T) :
    Calls Try.prog 85 #[.pointer (some ⟨tb, 0, none⟩), .int .i64 x.a, .int .i64 x.n, .int .u64 x.v] w fun e w' => ∃ bb, e = .returned (.bool bb) ∧ TI w' tb tv T (L ++ [x]) ∧ Keep (· = tb) w w' := by
  have hlt := h.lt
  have HT := Lib.hid hT
  rcases h with ⟨h1, h2⟩ | ⟨h1, y, hy, h2⟩
  · by_cases h3 : L.length < T.length
    · have H := Lib.hid h2
      obtain ⟨sa, sn, sc, hsv⟩ := hT.sl _ h3
      have hTl := hT.len
      have hap := hT.apart (by omega)
      have HS := Lib.hid hsv
      clear h2 hT hsv
      go_enter Try.func85, Try.ntmps85
      go_wp2_with fail
      refine (tDo_told tb L.length tv T accZ _ H.out HT.out.rd h3 hTl hap (HT.out.sl _ h3) 2 x.a x.n x.v 0 none 0 0).mono ?_
      rintro e w1 ⟨rfl, t1, k1⟩
      unfold AnsV.V
      rw [HS.out]
      have T1 := Lib.hid t1
      have K1 := Lib.hid k1
      clear t1 k1
      go_wp2
      go_ret
      refine ⟨true, rfl, .inl ⟨by simp; omega, ?_⟩, K1.out.alloc _⟩
      rw [List.length_append]
      exact Blk.alloc T1.out _
    · have h4 : L.length = T.length := by omega
      rw [h4] at h2
      have H := Lib.hid h2
      have H4 := Lib.hid h4
      clear h2 hT h4 h3 h1
      go_enter Try.func85, Try.ntmps85
      go_wp2_with fail
      refine (tDo_end tb tv T accZ _ H.out HT.out.rd 2 x.a x.n x.v 0 none 0 0).mono ?_
      rintro e w1 ⟨rfl, t1, k1⟩
      unfold ansZ AnsV.V
      dsimp only
      have T1 := Lib.hid t1
      have K1 := Lib.hid k1
      clear t1 k1
      go_wp2
      go_ret
      refine ⟨false, rfl, .inr ⟨by have := H4.out; simp; omega, x, ?_, ?_⟩, K1.out.alloc _⟩
      · rw [← H4.out]
        simp
      · exact Blk.alloc T1.out _
  · have H := Lib.hid h2
    have HY := Lib.hid hy
    clear h2 hT hy
    go_enter Try.func85, Try.ntmps85
    go_wp2_with fail
    refine (tDo_ended tb T.length tv y.acc (.nilFunc) _ H.out 2 x.a x.n x.v 0 none 0 0).mono ?_
    rintro e w1 ⟨rfl, b1⟩
    unfold ansZ AnsV.V
    dsimp only
    have B1 := Lib.hid b1
    clear b1
    go_wp2
    go_ret
    refine ⟨false, rfl, .inr ⟨by simp; omega, y, ?_, Blk.alloc (Blk.below H.out B1.out hlt) _⟩, (Below.keeps B1.out).alloc _⟩
    rw [List.getElem?_append_left (by omega)]
    exact HY.out
theorem refM_b (b t m s i ss st : Int) (w : World) (hk : lgOk b t m s = true) :
    Calls Try.prog 41 #[.agg #[.int .i64 b, .int .i64 t, .int .i64 m, .int .i64 s, .int .i32 i, .int .i32 ss, .int .i32 st]] w fun e w' => e = .returned (.int .i64 (b + 3 * t)) ∧ Below w.heap.size w w' := by
  refine (refM_any b t m s i ss st w).mono ?_
  rintro e w' ⟨rfl, rfl⟩
  rw [nbS_ok hk]
  exact ⟨rfl, (Below.refl _ _).alloc (Nat.le_refl _) _⟩
theorem refTailM_any (b t m s i ss st j : Int) (w : World) (hk : lgOk b t m s = true) (j0 : 0 ≤ j) (j1 : j < 3) :
    Calls Try.prog 42 #[.agg #[.int .i64 b, .int .i64 t, .int .i64 m, .int .i64 s, .int .i32 i, .int .i32 ss, .int .i32 st], .int .i64 j] w fun e w' => e = .returned (.int .i64 (b + 3 * t + 8 * j)) ∧ Below w.heap.size w w' := by
  have hn := Lib.hid (nbS_ok hk)
  obtain ⟨t0, t1, m0, m1, mm, s0, s1, b0, b8, b1, ht⟩ := lgOk_bd hk
  clear hk
  go_enter Try.func42, Try.ntmps42
  go_wp2_with fail
  refine (refM_any b t m s i ss st _).mono ?_
  rintro e w1 ⟨rfl, rfl⟩
  rw [hn.out]
  go_wp2
  go_ret
  exact ⟨ret_int (by omega), by go_grown⟩
theorem refPackM_any (t : Int) (w : World) (t0 : -2147483648 ≤ t) (t1 : t ≤ 2147483647) :
    Calls Try.prog 86 #[.int .i32 t, .int .u32 0] w fun e w' => e = .returned (.int .u64 (t % 4294967296 * 4294967296)) ∧ w = w' := by
  by_cases h : t < 0
  all_goals
    go_enter Try.func86, Try.ntmps86
    go_wp2
    go_ret
    exact ⟨ret_int (by omega), rfl⟩
set_option maxHeartbeats 2000000 in
theorem refInit_no (tb : Nat) (tv : Value) (T : List AnsV) (b t m s i ss st : Int) (w : World) (h : Tp w tb tv 0 accZ false) (hk : lgOk b t m s = false) (hb0 : -9223372036854775808 ≤ b) (hb1 : b ≤ 9223372036854775807) (hm0 : -9223372036854775808 ≤ m) :
    Calls Try.prog 52 #[.pointer (some ⟨tb, 0, none⟩), .agg #[.int .i64 b, .int .i64 t, .int .i64 m, .int .i64 s, .int .i32 i, .int .i32 ss, .int .i32 st]] w fun e w' => e = .returned (.tuple #[]) ∧ TI w' tb tv T [] ∧ Keep (· = tb) w w' := by
  have hlt := h.lt
  have H := Lib.hid h
  have HK := Lib.hid hk
  clear h hk
  go_enter Try.func52, Try.ntmps52
  go_wp2_with fail
  refine (right_any b t m s i ss st _ hb0 hb1 hm0).mono ?_
  rintro e w1 ⟨rfl, b1⟩
  rw [HK.out]
  have B1 := Lib.hid (Below.trans (show Below w.heap.size w (w.alloc (Obj.cells #[Value.int IntKind.i64 b, Value.int IntKind.i64 t, Value.int IntKind.i64 m, Value.int IntKind.i64 s, Value.int IntKind.i32 i, Value.int IntKind.i32 ss, Value.int IntKind.i32 st] 41)) by go_grown) (b1.mono (by simp)))
  clear b1
  go_wp2
  exact bodyPost_ret (v := .tuple #[]) (results_none rfl _ _ _) rfl ⟨rfl, .inl ⟨by simp, Blk.below H.out B1.out hlt⟩, Below.keeps B1.out⟩
theorem wrap_bd (x : Int) : -2147483648 ≤ IntKind.i32.wrap x ∧ IntKind.i32.wrap x ≤ 2147483647 := by
  rw [IntWalk.i32_left]
  unfold wrap32
  omega
theorem iniR_1 (b t s i : Int) : (iniL b t s i).take (0 + 1) = (iniL b t s i).take 0 ++ [⟨b + 3 * t, 8, IntKind.i32.wrap i % 4294967296 * 4294967296⟩] := by simp [iniL, pkI]
theorem iniR_2 (b t s i : Int) : (iniL b t s i).take (1 + 1) = (iniL b t s i).take 1 ++ [⟨b + 3 * t + 8 * 1, 8, IntKind.i32.wrap (i - 2) % 4294967296 * 4294967296⟩] := by simp [iniL, pkI]
theorem iniR_3 (b t s i : Int) : (iniL b t s i).take (2 + 1) = (iniL b t s i).take 2 ++ [⟨b + 3 * t + 8 * 2, 8, IntKind.i32.wrap (i - 1) % 4294967296 * 4294967296⟩] := by simp [iniL, pkI]
set_option maxHeartbeats 4000000 in
theorem refInit_ok (tb : Nat) (tv : Value) (T : List AnsV) (b t m s i ss st : Int) (w : World) (h : Tp w tb tv 0 accZ false) (hT : TOk w tb tv T) (hk : lgOk b t m s = true) (hi0 : -2147483648 ≤ i) (hi1 : i ≤ 2147483647) :
    Calls Try.prog 52 #[.pointer (some ⟨tb, 0, none⟩), .agg #[.int .i64 b, .int .i64 t, .int .i64 m, .int .i64 s, .int .i32 i, .int .i32 ss, .int .i32 st]] w fun e w' => e = .returned (.tuple #[]) ∧ TI w' tb tv T (iniL b t s i) ∧ Keep (· = tb) w w' := by
  have hlt := h.lt
  have HN := Lib.hid (nbS_ok hk)
  obtain ⟨t0, t1, m0, m1, mm, s0, s1, b0, b8, b1, ht⟩ := lgOk_bd hk
  have H := Lib.hid (show TI w tb tv T [] from .inl ⟨by simp, h⟩)
  have HT := Lib.hid hT
  have HK := Lib.hid hk
  clear h hk hT ht
  go_enter Try.func52, Try.ntmps52
  go_wp2_with fail
  refine (right_any b t m s i ss st _ (by omega) (by omega) (by omega)).mono ?_
  rintro e w1 ⟨rfl, b1'⟩
  rw [HK.out]
  have z1 := b1'.size
  simp only [World.size_alloc] at z1
  have L1 := Lib.hid (show Blk w1 w.heap.size (lgV b t m s i ss st) from Blk.below (Blk.made w #[Value.int IntKind.i64 b, Value.int IntKind.i64 t, Value.int IntKind.i64 m, Value.int IntKind.i64 s, Value.int IntKind.i32 i, Value.int IntKind.i32 ss, Value.int IntKind.i32 st] 41) b1' (by simp))
  have B1 := Lib.hid (Below.trans (show Below w.heap.size w (w.alloc (Obj.cells #[Value.int IntKind.i64 b, Value.int IntKind.i64 t, Value.int IntKind.i64 m, Value.int IntKind.i64 s, Value.int IntKind.i32 i, Value.int IntKind.i32 ss, Value.int IntKind.i32 st] 41)) by go_grown) (b1'.mono (by simp)))
  clear b1'
  go_wp2_with fail
  obtain ⟨w2, hw2⟩ : ∃ w2, w2 = w1.alloc (Obj.cells #[Value.int IntKind.i32 0, Value.int IntKind.i32 2, Value.int IntKind.i32 1] 21) := ⟨_, rfl⟩
  rw [← hw2]
  have b2 : Below w1.heap.size w1 w2 := by rw [hw2]; exact (Below.refl _ _).alloc (Nat.le_refl _) _
  have A2 := Lib.hid (show Blk w2 w1.heap.size [.int .i32 0, .int .i32 2, .int .i32 1] by rw [hw2]; exact Blk.made w1 _ _)
  have z2 : w1.heap.size < w2.heap.size := by rw [hw2, World.size_alloc]; omega
  have L2 := Lib.hid (L1.out.below b2 (by omega))
  have B2 := Lib.hid (B1.out.trans (b2.mono (by omega)))
  have H2 := Lib.hid (H.out.keep (M := fun _ => False) (Below.keeps B2.out) id)
  have HT2 := Lib.hid (HT.out.below B2.out)
  clear hw2 b2 L1 B1 H HT
  go_loopw [12] (fun x wr => ∃ k : Nat, k ≤ 3 ∧ x = .int .i64 k ∧ TI wr tb tv T ((iniL b t s i).take k) ∧ Keep (· = tb) w2 wr) (fun x _ => 3 - (intOf x).toNat)
  case atStart => exact ⟨0, by omega, rfl, H2.out, Keep.refl _ _⟩
  case round =>
    obtain ⟨k, hk3, rfl, hti, hkp⟩ := hrel
    have zr := hkp.size
    have HTr := Lib.hid (HT2.out.keep hkp)
    have HLr := Lib.hid (L2.out.keep hkp (by show ¬ w.heap.size = tb; omega))
    have HAr := Lib.hid (A2.out.keep hkp (by show ¬ w1.heap.size = tb; omega))
    have HTI := Lib.hid hti
    have HKP := Lib.hid hkp
    obtain ⟨c0, c1, c2, c3, c4, c5, c6⟩ := lgV_cells HLr.out
    clear hti hkp
    by_cases hlt : k < 3
    · have d0 := HAr.out.cell 0
      have d1 := HAr.out.cell 1
      have d2 := HAr.out.cell 2
      simp only [List.getElem?_cons_zero, List.getElem?_cons_succ] at d0 d1 d2
      obtain rfl | rfl | rfl : k = 0 ∨ k = 1 ∨ k = 2 := by omega
      · go_wp2_with fail
        go_region_held3 (fun w' => w'.cell? ⟨w.heap.size, 0, none⟩ = some (.int .i64 b) ∧ w'.cell? ⟨w.heap.size, 1, none⟩ = some (.int .i64 t) ∧ w'.cell? ⟨w.heap.size, 2, none⟩ = some (.int .i64 m) ∧ w'.cell? ⟨w.heap.size, 3, none⟩ = some (.int .i64 s) ∧ w'.cell? ⟨w.heap.size, 4, none⟩ = some (.int .i32 i) ∧ w'.cell? ⟨w.heap.size, 5, none⟩ = some (.int .i32 ss) ∧ w'.cell? ⟨w.heap.size, 6, none⟩ = some (.int .i32 st)) (first | go_keep | trivial)
          (first
            | (go_at_call 42; refine (refTailM_any b t m s i ss st 0 _ HK.out (by omega) (by omega)).mono ?_; rintro e w3 ⟨rfl, b3⟩; have hc3 := fun o => b3.cell (p := ⟨w.heap.size, o, none⟩) (by simp; omega))
            | (go_at_call 86; refine (refPackM_any _ _ (by first | exact (wrap_bd _).1 | omega) (by first | exact (wrap_bd _).2 | omega)).mono ?_; rintro e w' ⟨rfl, rfl⟩)
            | (go_at_call 85; refine (tSto_any tb tv T _ ⟨_, _, _⟩ _ ((HTI.out.keep (M := fun _ => False) (Keep.drew (Keep.refl _ _)) id).keep (M := fun _ => False) (Below.keeps b3) id) ((HTr.out.below (bel_drewN 1 (Below.refl _ _))).below b3)).mono ?_; rintro e w4 ⟨bb, rfl, ti4, k4⟩; have hc4 := fun o => k4.cell (b := w.heap.size) o (by have := b3.size; simp at this; omega) (by show ¬ w.heap.size = tb; omega)))
        have z3 := b3.size
        simp at z3
        have TI4 := Lib.hid ti4
        have K4 := Lib.hid ((HKP.out.drew.trans (Below.keeps b3)).trans k4)
        clear ti4 k4 hc4 hc3 b3 c0 c1 c2 c3 c4 c5 c6
        go_wp2
        refine ⟨⟨0 + 1, by omega, by rfl, ?_, K4.out⟩, by simp [intOf]⟩
        have e := TI4.out
        rw [iniR_1]
        exact e
      · go_wp2_with fail
        go_region_held3 (fun w' => w'.cell? ⟨w.heap.size, 0, none⟩ = some (.int .i64 b) ∧ w'.cell? ⟨w.heap.size, 1, none⟩ = some (.int .i64 t) ∧ w'.cell? ⟨w.heap.size, 2, none⟩ = some (.int .i64 m) ∧ w'.cell? ⟨w.heap.size, 3, none⟩ = some (.int .i64 s) ∧ w'.cell? ⟨w.heap.size, 4, none⟩ = some (.int .i32 i) ∧ w'.cell? ⟨w.heap.size, 5, none⟩ = some (.int .i32 ss) ∧ w'.cell? ⟨w.heap.size, 6, none⟩ = some (.int .i32 st)) (first | go_keep | trivial)
          (first
            | (go_at_call 42; refine (refTailM_any b t m s i ss st 1 _ HK.out (by omega) (by omega)).mono ?_; rintro e w3 ⟨rfl, b3⟩; have hc3 := fun o => b3.cell (p := ⟨w.heap.size, o, none⟩) (by simp; omega))
            | (go_at_call 86; refine (refPackM_any _ _ (by first | exact (wrap_bd _).1 | omega) (by first | exact (wrap_bd _).2 | omega)).mono ?_; rintro e w' ⟨rfl, rfl⟩)
            | (go_at_call 85; refine (tSto_any tb tv T _ ⟨_, _, _⟩ _ ((HTI.out.keep (M := fun _ => False) (Keep.drew (Keep.refl _ _)) id).keep (M := fun _ => False) (Below.keeps b3) id) ((HTr.out.below (bel_drewN 1 (Below.refl _ _))).below b3)).mono ?_; rintro e w4 ⟨bb, rfl, ti4, k4⟩; have hc4 := fun o => k4.cell (b := w.heap.size) o (by have := b3.size; simp at this; omega) (by show ¬ w.heap.size = tb; omega)))
        have z3 := b3.size
        simp at z3
        have TI4 := Lib.hid ti4
        have K4 := Lib.hid ((HKP.out.drew.trans (Below.keeps b3)).trans k4)
        clear ti4 k4 hc4 hc3 b3 c0 c1 c2 c3 c4 c5 c6
        go_wp2
        refine ⟨⟨1 + 1, by omega, by rfl, ?_, K4.out⟩, by simp [intOf]⟩
        have e := TI4.out
        rw [iniR_2]
        exact e
      · go_wp2_with fail
        go_region_held3 (fun w' => w'.cell? ⟨w.heap.size, 0, none⟩ = some (.int .i64 b) ∧ w'.cell? ⟨w.heap.size, 1, none⟩ = some (.int .i64 t) ∧ w'.cell? ⟨w.heap.size, 2, none⟩ = some (.int .i64 m) ∧ w'.cell? ⟨w.heap.size, 3, none⟩ = some (.int .i64 s) ∧ w'.cell? ⟨w.heap.size, 4, none⟩ = some (.int .i32 i) ∧ w'.cell? ⟨w.heap.size, 5, none⟩ = some (.int .i32 ss) ∧ w'.cell? ⟨w.heap.size, 6, none⟩ = some (.int .i32 st)) (first | go_keep | trivial)
          (first
            | (go_at_call 42; refine (refTailM_any b t m s i ss st 2 _ HK.out (by omega) (by omega)).mono ?_; rintro e w3 ⟨rfl, b3⟩; have hc3 := fun o => b3.cell (p := ⟨w.heap.size, o, none⟩) (by simp; omega))
            | (go_at_call 86; refine (refPackM_any _ _ (by first | exact (wrap_bd _).1 | omega) (by first | exact (wrap_bd _).2 | omega)).mono ?_; rintro e w' ⟨rfl, rfl⟩)
            | (go_at_call 85; refine (tSto_any tb tv T _ ⟨_, _, _⟩ _ ((HTI.out.keep (M := fun _ => False) (Keep.drew (Keep.refl _ _)) id).keep (M := fun _ => False) (Below.keeps b3) id) ((HTr.out.below (bel_drewN 1 (Below.refl _ _))).below b3)).mono ?_; rintro e w4 ⟨bb, rfl, ti4, k4⟩; have hc4 := fun o => k4.cell (b := w.heap.size) o (by have := b3.size; simp at this; omega) (by show ¬ w.heap.size = tb; omega)))
        have z3 := b3.size
        simp at z3
        have TI4 := Lib.hid ti4
        have K4 := Lib.hid ((HKP.out.drew.trans (Below.keeps b3)).trans k4)
        clear ti4 k4 hc4 hc3 b3 c0 c1 c2 c3 c4 c5 c6
        go_wp2
        refine ⟨⟨2 + 1, by omega, by rfl, ?_, K4.out⟩, by simp [intOf]⟩
        have e := TI4.out
        rw [iniR_3]
        exact e
    · obtain rfl : k = 3 := by omega
      clear hlt hk3
      clear HAr
      go_wp2_with fail
      refine (refM_b b t m s i ss st _ HK.out).mono ?_
      rintro e wa3 ⟨rfl, ba3⟩
      have za3 := ba3.size
      go_wp2_with fail
      refine (tSto_any tb tv T _ ⟨b + 3 * t + 24, 4, 0⟩ _ (HTI.out.keep (M := fun _ => False) (Below.keeps ba3) id) (HTr.out.below ba3)).mono ?_
      rintro e wb3 ⟨bb3, rfl, ti3, k3⟩
      have zb3 := k3.size
      rw [← ini_4] at ti3
      have HTI3 := Lib.hid ti3
      have HTr3 := Lib.hid ((HTr.out.below ba3).keep k3)
      have HKP3 := Lib.hid ((HKP.out.trans (Below.keeps ba3)).trans k3)
      have HLr3 := Lib.hid ((HLr.out.below ba3 (by omega)).keep k3 (by show ¬ w.heap.size = tb; omega))
      clear ti3 k3 ba3 HTI HTr HKP HLr c0 c1 c2 c3 c4 c5 c6
      obtain ⟨c0, c1, c2, c3, c4, c5, c6⟩ := lgV_cells HLr3.out
      have W2 : IntKind.u64.wrap (t / 2) = t / 2 := by unfold IntKind.wrap; simp [IntKind.signed, IntKind.bits]; omega
      have W4 : t.tdiv 2 = t / 2 := Int.tdiv_eq_ediv_of_nonneg (by omega)
      have W3 : IntKind.i64.wrap (b + 3 * t + 32) = b + 3 * t + 32 := IntWalk.i64_in _ ⟨by omega, by omega⟩
      go_wp2_with fail
      go_region_held3 (fun w' => w'.cell? ⟨w.heap.size, 0, none⟩ = some (.int .i64 b) ∧ w'.cell? ⟨w.heap.size, 1, none⟩ = some (.int .i64 t) ∧ w'.cell? ⟨w.heap.size, 2, none⟩ = some (.int .i64 m) ∧ w'.cell? ⟨w.heap.size, 3, none⟩ = some (.int .i64 s) ∧ w'.cell? ⟨w.heap.size, 4, none⟩ = some (.int .i32 i) ∧ w'.cell? ⟨w.heap.size, 5, none⟩ = some (.int .i32 ss) ∧ w'.cell? ⟨w.heap.size, 6, none⟩ = some (.int .i32 st)) (first | go_keep | trivial)
        (first
          | (go_at_call 41; refine (refM_b b t m s i ss st _ HK.out).mono ?_; rintro e w5 ⟨rfl, b5⟩; have hc5 := fun o => b5.cell (p := ⟨w.heap.size, o, none⟩) (by simp; omega))
          | (go_at_call 85; refine (tSto_any tb tv T _ ⟨_, _, _⟩ _ ((HTI3.out.keep (M := fun _ => False) (Keep.drew (Keep.refl _ _)) id).keep (M := fun _ => False) (Below.keeps b5) id) ((HTr3.out.below (bel_drewN 1 (Below.refl _ _))).below b5)).mono ?_; rintro e w6 ⟨bb6, rfl, ti6, k6⟩; have hc6 := fun o => k6.cell (b := w.heap.size) o (by have hz := b5.size; simp at hz; omega) (by show ¬ w.heap.size = tb; omega)))
      have z5 := b5.size
      simp at z5
      have z6 := k6.size
      have e5 : IntKind.i64.wrap (t / 2) % 2 ^ IntKind.u64.bits = t / 2 := by
        rw [IntWalk.i64_in _ ⟨by omega, by omega⟩, show (2 : Int) ^ IntKind.u64.bits = 18446744073709551616 from rfl]
        omega
      rw [e5, ← ini_5] at ti6
      have HTI6 := Lib.hid ti6
      have HTr6 := Lib.hid (((HTr3.out.below (bel_drewN 1 (Below.refl _ _))).below b5).keep k6)
      have HKP6 := Lib.hid ((HKP3.out.drew.trans (Below.keeps b5)).trans k6)
      have HLr6 := Lib.hid (((Blk.drew HLr3.out).below b5 (by simp; omega)).keep k6 (by show ¬ w.heap.size = tb; omega))
      clear ti6 k6 b5 hc5 hc6 HTI3 HTr3 HKP3 HLr3 c0 c1 c2 c3 c4 c5 c6 W2 W3
      obtain ⟨c0, c1, c2, c3, c4, c5, c6⟩ := lgV_cells HLr6.out
      go_wp2_with fail
      refine (refM_b b t m s i ss st _ HK.out).mono ?_
      rintro e wa7 ⟨rfl, ba7⟩
      have za7 := ba7.size
      go_wp2_with fail
      refine (tSto_any tb tv T _ ⟨b + 3 * t + 40, 8, 0⟩ _ (HTI6.out.keep (M := fun _ => False) (Below.keeps ba7) id) (HTr6.out.below ba7)).mono ?_
      rintro e wb7 ⟨bb7, rfl, ti7, k7⟩
      have zb7 := k7.size
      rw [← ini_6] at ti7
      have HTI7 := Lib.hid ti7
      have HTr7 := Lib.hid ((HTr6.out.below ba7).keep k7)
      have HKP7 := Lib.hid ((HKP6.out.trans (Below.keeps ba7)).trans k7)
      have HLr7 := Lib.hid ((HLr6.out.below ba7 (by omega)).keep k7 (by show ¬ w.heap.size = tb; omega))
      clear ti7 k7 ba7 HTI6 HTr6 HKP6 HLr6 c0 c1 c2 c3 c4 c5 c6
      obtain ⟨c0, c1, c2, c3, c4, c5, c6⟩ := lgV_cells HLr7.out
      obtain ⟨sn, rfl⟩ := Int.eq_ofNat_of_zero_le (show 0 ≤ s by omega)
      go_wp2_with fail
      clear c0 c1 c2 c3 c4 c5 c6
      go_loopw [6] (fun x wr => ∃ j : Nat, j ≤ sn ∧ x = .int .i64 j ∧ TI wr tb tv T ((iniL b t sn i).take (6 + j)) ∧ Keep (· = tb) wb7 wr) (fun x _ => sn - (intOf x).toNat)
      case atStart => exact ⟨0, by omega, rfl, HTI7.out, Keep.refl _ _⟩
      case round =>
        obtain ⟨j, hj, rfl, hst, hkp⟩ := hrel
        have zx := hkp.size
        have HLx := Lib.hid (HLr7.out.keep hkp (by show ¬ w.heap.size = tb; omega))
        have HTx := Lib.hid (HTr7.out.keep hkp)
        obtain ⟨c0, c1, c2, c3, c4, c5, c6⟩ := lgV_cells HLx.out
        have HST := Lib.hid hst
        have HKP := Lib.hid hkp
        clear hst hkp
        by_cases hlt : j < sn
        · go_wp2_with fail
          refine (refM_b b t m sn i ss st _ HK.out).mono ?_
          rintro e w10 ⟨rfl, b10⟩
          have z10 := b10.size
          go_wp2_with fail
          refine (tSto_any tb tv T _ ⟨b + 3 * t + 48 + 8 * (j : Int), 8, 0⟩ _ (HST.out.keep (M := fun _ => False) (Below.keeps b10) id) (HTx.out.below b10)).mono ?_
          rintro e w11 ⟨bb11, rfl, st11, k11⟩
          rw [← ini_sub b t sn i j (by omega)] at st11
          have ST11 := Lib.hid st11
          have K11 := Lib.hid ((HKP.out.trans (Below.keeps b10)).trans k11)
          clear st11 k11 b10 c0 c1 c2 c3 c4 c5 c6
          go_wp2
          exact ⟨⟨j + 1, by omega, by go_num, ST11.out, K11.out⟩, by simp [intOf]; omega⟩
        · obtain rfl : j = sn := by omega
          clear hlt hj
          go_wp2
          go_end0
          have e := HST.out
          rw [List.take_of_length_le (by rw [ini_len]; omega)] at e
          exact ⟨rfl, e, ((Below.keeps B2.out).trans HKP7.out).trans HKP.out⟩
end Go.Proofs.Ytabifjolocmonaa
