/- The reference's Need, the fixed facts, and the law MetaCuts walked: true, and nothing that was there has turned. Conditions: the arguments are in their kinds' ranges. -/
import Derived.Test.YtabifjolocmonaaMv
namespace Go.Proofs.Ytabifjolocmonaa
set_option maxRecDepth 100000
open Go.RowKit
set_option linter.unusedVariables false
/-- The sum of a list. -/
def smL : List Int → Int
  | [] => 0
  | x :: r => x + smL r
theorem smL_append (a b : List Int) : smL (a ++ b) = smL a + smL b := by induction a <;> simp_all [smL]; omega
theorem smL_rep (k : Nat) (x : Int) : smL (List.replicate k x) = k * x := by
  induction k with
  | zero => simp [smL]
  | succ k ih => rw [List.replicate_succ, smL, ih]; simp [Int.add_mul]; omega
theorem smL_snoc (l : List Int) (k : Nat) (h : k < l.length) : smL (l.take (k + 1)) = smL (l.take k) + gB l k := by
  rw [List.take_succ_eq_append_getElem h, smL_append]
  simp [smL, gB, h]
/-- The sum of what the frames take. -/
def smF (l : List Int) : Int := smL (l.map frS)
theorem smF_snoc (l : List Int) (k : Nat) (h : k < l.length) : smF (l.take (k + 1)) = smF (l.take k) + frS (gB l k) := by
  unfold smF
  rw [List.take_succ_eq_append_getElem h, List.map_append, smL_append]
  simp [smL, gB, h]
theorem cutsL_len (m n : Int) : (cutsL m n).length = cutK m n + 1 := by simp [cutsL]
theorem cutsL_at (m n : Int) (k : Nat) (h : k < cutK m n) : gB (cutsL m n) k = m := by simp [gB, cutsL, List.getElem?_append, h]
theorem cutsL_last (m n : Int) : gB (cutsL m n) (cutK m n) = n - cutK m n * m := by simp [gB, cutsL]
theorem cutsL_bd (m n : Int) (hm : 1 ≤ m) (hn : 0 ≤ n) (k : Nat) (h : k < (cutsL m n).length) : 0 ≤ gB (cutsL m n) k ∧ gB (cutsL m n) k ≤ m := by
  obtain ⟨q0, -, q1, q2, q3⟩ := cutK_bd m n hm hn
  rw [cutsL_len] at h
  by_cases hk : k < cutK m n
  · rw [cutsL_at m n k hk]; omega
  · obtain rfl : k = cutK m n := by omega
    rw [cutsL_last]; omega
theorem cutsL_sum (m n : Int) : smL (cutsL m n) = n := by
  unfold cutsL
  rw [smL_append, smL_rep]; simp [smL]; omega
theorem smL_part (l : List Int) (c : Int) (hc : 0 ≤ c) (hb : ∀ k, k < l.length → 0 ≤ gB l k ∧ gB l k ≤ c) (k : Nat) (hk : k ≤ l.length) : 0 ≤ smL (l.take k) ∧ smL (l.take k) ≤ k * c := by
  induction k with
  | zero => simp [smL]
  | succ k ih =>
    rw [smL_snoc l k (by omega)]
    have h1 := ih (by omega)
    have h2 := hb k (by omega)
    have : ((k + 1 : Nat) : Int) * c = k * c + c := by rw [Int.natCast_add, Int.add_mul]; simp
    omega
theorem smF_part (l : List Int) (hb : ∀ k, k < l.length → 0 ≤ gB l k ∧ gB l k ≤ 2000) (k : Nat) (hk : k ≤ l.length) : 0 ≤ smF (l.take k) ∧ smF (l.take k) ≤ k * 3000 := by
  induction k with
  | zero => simp [smF, smL]
  | succ k ih =>
    rw [smF_snoc l k (by omega)]
    have h1 := ih (by omega)
    have h2 := hb k (by omega)
    have h3 := frS_eq (gB l k) h2.1 (by omega)
    omega
theorem cutK_le (m n : Int) (hm : 1 ≤ m) (hn : 0 ≤ n) (h : n ≤ 1024) : cutK m n ≤ 1024 := by
  obtain ⟨q0, -, q1, q2, q3⟩ := cutK_bd m n hm hn
  omega
theorem neV_sum {b t m s n : Int} (h : cuE b t m s n = 0) : smF (cuL b t m s n) = neV b t m s n := by
  obtain ⟨hk, c0, c1⟩ := cuE_zero h
  obtain ⟨t0, t1, m0, m1, mm, -, -, -, -, -, -⟩ := lgOk_bd hk
  have e := frS_eq m (by omega) (by omega)
  rw [cuL_yes h]
  unfold neV smF cutsL
  rw [if_pos h, List.map_append, List.map_replicate, smL_append, smL_rep]
  simp [smL]
  rw [show frS m = m + 32 from by omega]
theorem neV_bd {b t m s n : Int} (h : cuE b t m s n = 0) : neV b t m s n % 32 = 0 ∧ neV b t m s n ≤ t / 4 + 32 ∧ 0 ≤ neV b t m s n := by
  obtain ⟨hk, c0, c1⟩ := cuE_zero h
  obtain ⟨t0, t1, m0, m1, mm, -, -, -, -, -, hT⟩ := lgOk_bd hk
  obtain ⟨q0, -, q1, q2, q3⟩ := cutK_bd m n (by omega) c0
  have e := frS_eq (n - cutK m n * m) q1 (by omega)
  have hd : (cutK m n : Int) * (m + 32) = cutK m n * m + 32 * cutK m n := by rw [Int.mul_add, Int.mul_comm _ 32]
  have hpm : (cutK m n : Int) * m % 32 = 0 := by rw [Int.mul_emod, mm]; simp
  have hge : (cutK m n : Int) * 32 ≤ cutK m n * m := Int.mul_le_mul_of_nonneg_left m0 (by omega)
  have ht8 : t / 8 % 32 = 0 := by
    obtain ⟨k, hk, rfl⟩ := isT_pow hT
    rw [show (256 : Int) * 2 ^ k / 8 = 32 * 2 ^ k from by omega]
    exact Int.mul_emod_right _ _
  unfold neV
  rw [if_pos h, e, hd]
  generalize (cutK m n : Int) * m = A at *
  omega
theorem cuL_form (b t m s n : Int) (h : cuE b t m s n = 0) : 0 < (cuL b t m s n).length := by rw [cuL_yes h, cutsL_len]; omega
/-- The list of the cuts, made or not. -/
theorem OwI.none {E B : Nat} {w : World} {v : Value} (h : OwI E B w v []) : v = .slice none 0 0 ∨ ∃ g cap, v = .slice (some ⟨g, 0, Option.none⟩) 0 cap := by
  rcases h.2 with ⟨rfl, -⟩ | ⟨g, cap, cur, rfl, -⟩
  · exact .inl rfl
  · exact .inr ⟨g, cap, rfl⟩
set_option maxHeartbeats 4000000 in
theorem refNeed_any (b t m s i ss st n : Int) (w : World) (hb0 : -9223372036854775808 ≤ b) (hb1 : b ≤ 9223372036854775807) (ht : t ≤ 9223372036854775807) (ht0 : -9223372036854775808 ≤ t) (hm0 : -9223372036854775808 ≤ m) (n1 : n ≤ 9223372036854775807) :
    Calls Try.prog 29 #[.agg #[.int .i64 b, .int .i64 t, .int .i64 m, .int .i64 s, .int .i32 i, .int .i32 ss, .int .i32 st], .int .i64 n] w fun e w' => e = .returned (.tuple #[.int .i64 (neV b t m s n), .int .i64 (cuE b t m s n)]) ∧ Below w.heap.size w w' := by
  by_cases hz : cuE b t m s n = 0
  · obtain ⟨hk, c0, c1⟩ := cuE_zero hz
    obtain ⟨t0, t1, m0, m1, mm, -, -, -, -, -, -⟩ := lgOk_bd hk
    have HN := Lib.hid (neV_sum hz)
    have HLs := Lib.hid (cuL_yes hz)
    have hlen : (cuL b t m s n).length ≤ 1025 := by rw [cuL_yes hz, cutsL_len]; have := cutK_le m n (by omega) c0 (by omega); omega
    have hbd : ∀ k, k < (cuL b t m s n).length → 0 ≤ gB (cuL b t m s n) k ∧ gB (cuL b t m s n) k ≤ 2000 := by
      rw [cuL_yes hz]; intro k hk2; have := cutsL_bd m n (by omega) c0 k hk2; omega
    have HP := Lib.hid (smF_part _ hbd)
    have HS := Lib.hid (smF_snoc (cuL b t m s n))
    have HF := Lib.hid (cuL_form b t m s n hz)
    have HB := Lib.hid hbd
    clear hbd
    generalize hcl : cuL b t m s n = l at *
    have HCL := Lib.hid hcl
    clear hcl
    have hpos := HF.out
    go_enter Try.func29, Try.ntmps29
    go_wp2_with (go_at_call 27; refine (refCuts_any _ _ _ _ _ _ _ _ _ hb0 hb1 ht ht0 hm0 n1).mono ?_; rintro e w1 ⟨v1, rfl, own1, bl1⟩; rw [HCL.out] at own1; obtain ⟨g, cap, rfl, hg, hg', hc, hm, hcell⟩ := own1.slice HF.out)
    have HC := Lib.hid hcell
    clear hcell own1
    go_loop [8, 21] (fun sum i => ∃ k : Nat, k ≤ l.length ∧ i = .int .i64 k ∧ sum = .int .i64 (smF (l.take k))) (fun _ i => l.length - (intOf i).toNat)
    case atStart => exact ⟨0, by omega, rfl, by simp [smF, smL]⟩
    case round =>
      obtain ⟨k, hk, rfl, rfl⟩ := hrel
      by_cases hlt : k < l.length
      · have hck := HC.out k hlt
        obtain ⟨p0, p1⟩ := HP.out k hk
        obtain ⟨p2, p3⟩ := HP.out (k + 1) (by omega)
        have HSk := Lib.hid (HS.out k hlt)
        rw [HSk.out] at p2 p3
        have hx := HB.out k hlt
        have F := Lib.hid (show szV (gB l k) 32 32 = frS (gB l k) from rfl)
        rw [← F.out] at p2 p3
        go_wp2_with (go_at_call 19; refine (refFrameSize_any _ _).mono ?_; rintro e w' ⟨rfl, rfl⟩)
        go_round
        case rel => exact ⟨k + 1, by omega, by go_num, int_eq (by rw [HSk.out, F.out])⟩
        case measure => simp [intOf]; omega
      · obtain rfl : k = l.length := by omega
        rw [List.take_length, HN.out]
        go_wp2
        go_ret2
        exact ⟨by first | rfl | (rw [hz]; rfl), below_two (by go_grown) bl1 (by simp)⟩
  · have HV := Lib.hid (show neV b t m s n = 0 by unfold neV; rw [if_neg hz])
    have HL := Lib.hid (cuL_no hz)
    go_enter Try.func29, Try.ntmps29
    go_wp2_with (go_at_call 27; refine (refCuts_any _ _ _ _ _ _ _ _ _ hb0 hb1 ht ht0 hm0 n1).mono ?_; rintro e w1 ⟨v1, rfl, own1, bl1⟩; rw [HL.out] at own1; rcases own1.none with rfl | ⟨g, cap, rfl⟩)
    all_goals
      refine wp_loop_rounds 1 ?_; rw [rounds_succ]
      go_wp2
      go_ret2
      exact ⟨by rw [HV.out]; rfl, below_two (by go_grown) bl1 (by simp)⟩
set_option maxHeartbeats 4000000 in
/-- law14.fixed -/
theorem fixed14_any (w : World) : Calls Try.prog 25 #[] w fun e w' => e = .returned (.bool true) ∧ Below w.heap.size w w' := by
  have e1 : neV 0 256 32 1 32 = 64 := by decide +kernel
  have e2 : cuE 0 256 32 1 32 = 0 := by decide +kernel
  have e3 : cuE 0 256 32 1 33 = 4 := by decide +kernel
  have e4 : neV 0 512 32 1 33 = 128 := by decide +kernel
  have e5 : cuE 0 512 32 1 33 = 0 := by decide +kernel
  have e6 : lgE 0 0 0 0 = 1 := by decide +kernel
  go_enter Try.func25, Try.ntmps25
  go_wp2_with fail
  refine (need_any _ _ _ _ _ _ _ _ _ (by omega) (by omega) (by omega) (by omega) (by omega) (by omega) (by omega)).mono ?_
  rintro e w1 ⟨rfl, bl1⟩
  have z1 := bl1.size
  simp only [World.size_alloc] at z1
  obtain ⟨k0, k1, k2, k3, k4, k5, k6⟩ := (LgAt.new w 0 256 32 1 0 0 0).keep bl1 (by simp)
  have f1 : ∀ o, w1.frozen? ⟨w.heap.size, o, none⟩ = false := fun o => by rw [bl1.frozen (p := ⟨w.heap.size, o, none⟩) (by simp)]; simp [go_sem]
  go_wp2_with fail
  refine (need_any _ _ _ _ _ _ _ _ _ (by omega) (by omega) (by omega) (by omega) (by omega) (by omega) (by omega)).mono ?_
  rintro e w2 ⟨rfl, bl2⟩
  have z2 := bl2.size
  clear k0 k1 k2 k3 k4 k5 k6
  obtain ⟨k0, k1, k2, k3, k4, k5, k6⟩ := ((LgAt.new w 0 256 32 1 0 0 0).keep bl1 (by simp)).keep bl2 (by omega)
  have f2 : ∀ o, w2.frozen? ⟨w.heap.size, o, none⟩ = false := fun o => by rw [bl2.frozen (p := ⟨w.heap.size, o, none⟩) (by show w.heap.size < w1.heap.size; omega)]; exact f1 o
  clear f1
  go_wp2_with fail
  refine (need_any _ _ _ _ _ _ _ _ _ (by omega) (by omega) (by omega) (by omega) (by omega) (by omega) (by omega)).mono ?_
  rintro e w3 ⟨rfl, bl3⟩
  clear k0 k1 k2 k3 k4 k5 k6 f2
  go_wp2_with fail
  refine (metaCheck_any _ _ _ _ _ _ _ _ (by omega) (by omega) (by omega) (by omega)).mono ?_
  rintro e w4 ⟨rfl, bl4⟩
  go_wp2_with fail
  go_ret
  have h2 : Below w.heap.size w w2 := below_two (below_two (by go_grown) bl1 (by simp)) bl2 (by omega)
  have h3 := h2.setCell (p := ⟨w.heap.size, 1, none⟩) (Nat.le_refl _) (.int .i64 512)
  have h4 := below_two h3 bl3 h3.size
  exact ⟨rfl, below_two h4 bl4 h4.size⟩
set_option maxHeartbeats 4000000 in
theorem metaCuts_no (b t m s i ss st n : Int) (w : World) (hb0 : -9223372036854775808 ≤ b) (hb1 : b ≤ 9223372036854775807) (ht : t ≤ 9223372036854775807) (ht0 : -9223372036854775808 ≤ t) (hm0 : -9223372036854775808 ≤ m) (n0 : -9223372036854775808 ≤ n) (n1 : n ≤ 9223372036854775807) (hz : cuE b t m s n ≠ 0) :
    Calls Try.prog 6 #[.agg #[.int .i64 b, .int .i64 t, .int .i64 m, .int .i64 s, .int .i32 i, .int .i32 ss, .int .i32 st], .int .i64 n] w fun e w' => e = .returned (.bool true) ∧ Below w.heap.size w w' := by
  have HL := Lib.hid (cuL_no hz)
  have hne : (cuE b t m s n != 0) = true := by simpa using hz
  clear hz
  go_enter Try.func6, Try.ntmps6
  go_wp2_with (first | (go_at_call 25; refine (fixed14_any _).mono ?_; rintro e wf ⟨rfl, blf⟩; have hF : Below w.heap.size w wf := below_two (by go_grown) blf (by simp); obtain ⟨k0, k1, k2, k3, k4, k5, k6⟩ := (LgAt.new w b t m s i ss st).keep blf (by simp); have HLf := Lib.hid ((LgAt.new w b t m s i ss st).keep blf (by simp)); have zf := blf.size; simp only [World.size_alloc] at zf) | (go_at_call 26; refine (cuts_any _ _ _ _ _ _ _ _ _ hb0 hb1 ht ht0 hm0 n1).mono ?_; rintro e wa ⟨va, rfl, own1, blwa⟩; have Hwa := Lib.hid (below_two hF blwa (by have := (hF).size; omega)); have HLwa := Lib.hid ((HLf.out).keep blwa (by omega)); have zwa := blwa.size; clear k0 k1 k2 k3 k4 k5 k6; obtain ⟨k0, k1, k2, k3, k4, k5, k6⟩ := HLwa.out; rw [HL.out] at own1; rcases own1.none with rfl | ⟨g1, cap1, rfl⟩) | (go_at_call 27; refine (refCuts_any _ _ _ _ _ _ _ _ _ hb0 hb1 ht ht0 hm0 n1).mono ?_; rintro e wb ⟨vb, rfl, own2, blwb⟩; have Hwb := Lib.hid (below_two Hwa.out blwb (by have := (Hwa.out).size; omega)); have HLwb := Lib.hid ((HLwa.out).keep blwb (by omega)); have zwb := blwb.size; clear k0 k1 k2 k3 k4 k5 k6; obtain ⟨k0, k1, k2, k3, k4, k5, k6⟩ := HLwb.out; rw [HL.out] at own2; rcases own2.none with rfl | ⟨g2, cap2, rfl⟩) | (go_at_call 28; refine (need_any _ _ _ _ _ _ _ _ _ hb0 hb1 ht ht0 hm0 n0 n1).mono ?_; rintro e wc ⟨rfl, blwc⟩; have Hwc := Lib.hid (below_two Hwb.out blwc (by have := (Hwb.out).size; omega)); have HLwc := Lib.hid ((HLwb.out).keep blwc (by omega)); have zwc := blwc.size; clear k0 k1 k2 k3 k4 k5 k6; obtain ⟨k0, k1, k2, k3, k4, k5, k6⟩ := HLwc.out) | (go_at_call 29; refine (refNeed_any _ _ _ _ _ _ _ _ _ hb0 hb1 ht ht0 hm0 n1).mono ?_; rintro e wd ⟨rfl, blwd⟩; have Hwd := Lib.hid (below_two Hwc.out blwd (by have := (Hwc.out).size; omega)); have HLwd := Lib.hid ((HLwc.out).keep blwd (by omega)); have zwd := blwd.size; clear k0 k1 k2 k3 k4 k5 k6; obtain ⟨k0, k1, k2, k3, k4, k5, k6⟩ := HLwd.out))
  all_goals
    refine wp_loop_rounds 1 ?_; rw [rounds_succ]
    go_wp2
    go_ret
    exact ⟨rfl, Hwd.out⟩
set_option maxHeartbeats 8000000 in
theorem metaCuts_yes (b t m s i ss st n : Int) (w : World) (hb0 : -9223372036854775808 ≤ b) (hb1 : b ≤ 9223372036854775807) (ht : t ≤ 9223372036854775807) (ht0 : -9223372036854775808 ≤ t) (hm0 : -9223372036854775808 ≤ m) (n0 : -9223372036854775808 ≤ n) (n1 : n ≤ 9223372036854775807) (hz : cuE b t m s n = 0) :
    Calls Try.prog 6 #[.agg #[.int .i64 b, .int .i64 t, .int .i64 m, .int .i64 s, .int .i32 i, .int .i32 ss, .int .i32 st], .int .i64 n] w fun e w' => e = .returned (.bool true) ∧ Below w.heap.size w w' := by
  obtain ⟨hk, c0, c1⟩ := cuE_zero hz
  obtain ⟨t0, t1, m0, m1, mm, -, -, -, -, -, -⟩ := lgOk_bd hk
  obtain ⟨x1, x2, x3⟩ := neV_bd hz
  have x1' : (neV b t m s n % 32 == 0) = true := by simpa using x1
  have HSUM := Lib.hid (show smL (cuL b t m s n) = n by rw [cuL_yes hz, cutsL_sum])
  have hlen : (cuL b t m s n).length ≤ 1025 := by rw [cuL_yes hz, cutsL_len]; have := cutK_le m n (by omega) c0 (by omega); omega
  have HB := Lib.hid (show ∀ k, k < (cuL b t m s n).length → 0 ≤ gB (cuL b t m s n) k ∧ gB (cuL b t m s n) k ≤ m by rw [cuL_yes hz]; intro k hk2; exact cutsL_bd m n (by omega) c0 k hk2)
  have HE := Lib.hid (show ∀ k, k + 1 < (cuL b t m s n).length → gB (cuL b t m s n) k = m by rw [cuL_yes hz, cutsL_len]; intro k hk2; exact cutsL_at m n k (by omega))
  have HP := Lib.hid (smL_part _ 2000 (by omega) (fun k hk => by have := HB.out k hk; omega))
  have HS := Lib.hid (smL_snoc (cuL b t m s n))
  have HF := Lib.hid (cuL_form b t m s n hz)
  clear x1
  generalize hcl : cuL b t m s n = l at *
  have HCL := Lib.hid hcl
  clear hcl
  have hpos := HF.out
  go_enter Try.func6, Try.ntmps6
  go_wp2_with (first | (go_at_call 25; refine (fixed14_any _).mono ?_; rintro e wf ⟨rfl, blf⟩; have hF : Below w.heap.size w wf := below_two (by go_grown) blf (by simp); obtain ⟨k0, k1, k2, k3, k4, k5, k6⟩ := (LgAt.new w b t m s i ss st).keep blf (by simp); have HLf := Lib.hid ((LgAt.new w b t m s i ss st).keep blf (by simp)); have zf := blf.size; simp only [World.size_alloc] at zf) | (go_at_call 26; refine (cuts_any _ _ _ _ _ _ _ _ _ hb0 hb1 ht ht0 hm0 n1).mono ?_; rintro e wa ⟨va, rfl, own1, blwa⟩; have Hwa := Lib.hid (below_two hF blwa (by have := (hF).size; omega)); have HLwa := Lib.hid ((HLf.out).keep blwa (by omega)); have zwa := blwa.size; clear k0 k1 k2 k3 k4 k5 k6; obtain ⟨k0, k1, k2, k3, k4, k5, k6⟩ := HLwa.out; rw [HCL.out] at own1; obtain ⟨g1, cap1, rfl, -, lt1, le1, cm1, cl1⟩ := own1.slice HF.out; have C1 := Lib.hid cl1; clear cl1 own1) | (go_at_call 27; refine (refCuts_any _ _ _ _ _ _ _ _ _ hb0 hb1 ht ht0 hm0 n1).mono ?_; rintro e wb ⟨vb, rfl, own2, blwb⟩; have Hwb := Lib.hid (below_two Hwa.out blwb (by have := (Hwa.out).size; omega)); have HLwb := Lib.hid ((HLwa.out).keep blwb (by omega)); have zwb := blwb.size; clear k0 k1 k2 k3 k4 k5 k6; obtain ⟨k0, k1, k2, k3, k4, k5, k6⟩ := HLwb.out; rw [HCL.out] at own2; obtain ⟨g2, cap2, rfl, -, lt2, le2, cm2, cl2⟩ := own2.slice HF.out; have C2 := Lib.hid cl2; clear cl2 own2) | (go_at_call 28; refine (need_any _ _ _ _ _ _ _ _ _ hb0 hb1 ht ht0 hm0 n0 n1).mono ?_; rintro e wc ⟨rfl, blwc⟩; have Hwc := Lib.hid (below_two Hwb.out blwc (by have := (Hwb.out).size; omega)); have HLwc := Lib.hid ((HLwb.out).keep blwc (by omega)); have zwc := blwc.size; clear k0 k1 k2 k3 k4 k5 k6; obtain ⟨k0, k1, k2, k3, k4, k5, k6⟩ := HLwc.out) | (go_at_call 29; refine (refNeed_any _ _ _ _ _ _ _ _ _ hb0 hb1 ht ht0 hm0 n1).mono ?_; rintro e wd ⟨rfl, blwd⟩; have Hwd := Lib.hid (below_two Hwc.out blwd (by have := (Hwc.out).size; omega)); have HLwd := Lib.hid ((HLwc.out).keep blwd (by omega)); have zwd := blwd.size; clear k0 k1 k2 k3 k4 k5 k6; obtain ⟨k0, k1, k2, k3, k4, k5, k6⟩ := HLwd.out))
  have D1 : Hid (∀ j, j < l.length → wd.cell? ⟨g1, j, none⟩ = some (.int .i64 (gB l j))) := fun j hj => by
    rw [blwd.cell (p := ⟨g1, j, none⟩) (by show g1 < wc.heap.size; omega), blwc.cell (p := ⟨g1, j, none⟩) (by show g1 < wb.heap.size; omega), blwb.cell (p := ⟨g1, j, none⟩) lt1]; exact C1.out j hj
  have D2 : Hid (∀ j, j < l.length → wd.cell? ⟨g2, j, none⟩ = some (.int .i64 (gB l j))) := fun j hj => by
    rw [blwd.cell (p := ⟨g2, j, none⟩) (by show g2 < wc.heap.size; omega), blwc.cell (p := ⟨g2, j, none⟩) lt2]; exact C2.out j hj
  clear C1 C2 blwb blwc blwd blwa blf k0 k1 k2 k3 k4 k5 k6 hF
  go_loopw [13, 63] (fun sum i wr => ∃ k : Nat, k ≤ l.length ∧ i = .int .i64 k ∧ sum = .int .i64 (smL (l.take k)) ∧ Hid (wr.heap = wd.heap ∧ Below wd.heap.size wd wr)) (fun _ i _ => l.length - (intOf i).toNat)
  case atStart => exact ⟨0, by omega, rfl, by simp [smL], rfl, Below.refl _ _⟩
  case round =>
    obtain ⟨k, hk3, rfl, rfl, hw⟩ := hrel
    have ec : ∀ a, wr.cell? a = wd.cell? a := fun a => by simp [World.cell?, hw.out.1]
    have e1 : wr.cell? ⟨w.heap.size, 1, none⟩ = some (.int .i64 t) := by rw [ec]; exact HLwd.out.2.1
    have e2 : wr.cell? ⟨w.heap.size, 2, none⟩ = some (.int .i64 m) := by rw [ec]; exact HLwd.out.2.2.1
    by_cases hlt : k < l.length
    · obtain ⟨p0, p1⟩ := HP.out k hk3
      obtain ⟨p2, p3⟩ := HP.out (k + 1) (by omega)
      have HSk := Lib.hid (HS.out k hlt)
      rw [HSk.out] at p2 p3
      have q2 : wr.cell? ⟨g1, k, none⟩ = some (.int .i64 (gB l k)) := by rw [ec]; exact D1.out k hlt
      have q3 : wr.cell? ⟨g2, k, none⟩ = some (.int .i64 (gB l k)) := by rw [ec]; exact D2.out k hlt
      obtain ⟨b0, b1⟩ := HB.out k hlt
      have i1 : (k : Int) < (l.length : Int) := by omega
      have i2 : (0 : Int) ≤ (k : Int) := by omega
      have i3 : (k : Int) < (cap1 : Int) := by omega
      have gw : IntKind.i64.wrap ((l.length : Int) - 1) = (l.length : Int) - 1 := IntWalk.i64_in _ ⟨by omega, by omega⟩
      clear ec
      by_cases hl : k + 1 < l.length
      · have he := HE.out k hl
        rw [he] at q2 q3 p2 p3 HSk
        have d2 : decide (m < m) = false := by simp
        have d3 : decide ((k : Int) < (l.length : Int) - 1) = true := by simp; omega
        clear he b0 b1
        go_wp2_with fail
        go_quiet (fail)
        go_wp2
        refine ⟨⟨k + 1, by omega, by go_num, int_eq HSk.out.symm, ?_⟩, by simp [intOf]; omega⟩
        exact ⟨hw.out.1, bel_drewN _ hw.out.2⟩
      · have d2 : decide (m < gB l k) = false := by simp; omega
        have d3 : decide ((k : Int) < (l.length : Int) - 1) = false := by simp; omega
        go_wp2_with fail
        go_quiet (fail)
        go_wp2
        refine ⟨⟨k + 1, by omega, by go_num, int_eq HSk.out.symm, ?_⟩, by simp [intOf]; omega⟩
        exact ⟨hw.out.1, bel_drewN _ hw.out.2⟩
    · obtain rfl : k = l.length := by omega
      rw [List.take_length, HSUM.out]
      clear ec
      go_wp2
      go_ret
      exact ⟨rfl, Hwd.out.trans (hw.out.2.mono Hwd.out.size)⟩
theorem metaCuts_walk (b t m s i ss st n : Int) (w : World) (hb0 : -9223372036854775808 ≤ b) (hb1 : b ≤ 9223372036854775807) (ht : t ≤ 9223372036854775807) (ht0 : -9223372036854775808 ≤ t) (hm0 : -9223372036854775808 ≤ m) (n0 : -9223372036854775808 ≤ n) (n1 : n ≤ 9223372036854775807) :
    Calls Try.prog 6 #[.agg #[.int .i64 b, .int .i64 t, .int .i64 m, .int .i64 s, .int .i32 i, .int .i32 ss, .int .i32 st], .int .i64 n] w fun e w' => e = .returned (.bool true) ∧ Below w.heap.size w w' := by
  by_cases hz : cuE b t m s n = 0
  · exact metaCuts_yes b t m s i ss st n w hb0 hb1 ht ht0 hm0 n0 n1 hz
  · exact metaCuts_no b t m s i ss st n w hb0 hb1 ht ht0 hm0 n0 n1 hz
theorem metaCuts_walk2 (b t m s i ss st : Int) (wb : (Lit.int .i64 b).wf = true) (wt : (Lit.int .i64 t).wf = true) (wm : (Lit.int .i64 m).wf = true) (ws : (Lit.int .i64 s).wf = true) (wi : (Lit.int .i32 i).wf = true) (wss : (Lit.int .i32 ss).wf = true) (wst : (Lit.int .i32 st).wf = true) (n : Int) (wn : (Lit.int .i64 n).wf = true) (w : World) :
    Calls Try.prog 6 #[.agg #[.int .i64 b, .int .i64 t, .int .i64 m, .int .i64 s, .int .i32 i, .int .i32 ss, .int .i32 st], .int .i64 n] w fun e w' => e = .returned (.bool true) ∧ Below w.heap.size w w' :=
  metaCuts_walk b t m s i ss st n w (i64_bd wb).1 (i64_bd wb).2 (i64_bd wt).2 (i64_bd wt).1 (i64_bd wm).1 (i64_bd wn).1 (i64_bd wn).2
end Go.Proofs.Ytabifjolocmonaa
