/- Contracts of meta.Cuts and Need, and of the reference's. Conditions: the arguments are in their kinds' ranges. -/
import Derived.Test.YtabifjolocmonaaMu
namespace Go.Proofs.Ytabifjolocmonaa
set_option maxRecDepth 100000
open Go.RowKit
set_option linter.unusedVariables false
theorem intinfo : (Try.prog.info? 3).map (fun i => (i.zero, i.size, i.bytes)) = some (some (.int .i64 0), 1, 8) := by kernel_rfl
/-- A log lies in block B. -/
def LgAt (w : World) (B : Nat) (b t m s i ss st : Int) : Prop :=
  w.cell? ⟨B, 0, none⟩ = some (.int .i64 b) ∧ w.cell? ⟨B, 1, none⟩ = some (.int .i64 t) ∧ w.cell? ⟨B, 2, none⟩ = some (.int .i64 m) ∧ w.cell? ⟨B, 3, none⟩ = some (.int .i64 s) ∧
    w.cell? ⟨B, 4, none⟩ = some (.int .i32 i) ∧ w.cell? ⟨B, 5, none⟩ = some (.int .i32 ss) ∧ w.cell? ⟨B, 6, none⟩ = some (.int .i32 st)
theorem LgAt.keep {w w' : World} {B C : Nat} {b t m s i ss st : Int} (h : LgAt w B b t m s i ss st) (hb : Below C w w') (hB : B < C) : LgAt w' B b t m s i ss st := by
  have e : ∀ o, w'.cell? ⟨B, o, none⟩ = w.cell? ⟨B, o, none⟩ := fun o => hb.cell (p := ⟨B, o, none⟩) hB
  unfold LgAt
  simp only [e]
  exact h
theorem LgAt.past {w w0 w' : World} {B C : Nat} {b t m s i ss st : Int} (h : LgAt w B b t m s i ss st) (hb : Below C w0 w') (he : w0.heap = w.heap) (hB : B < C) : LgAt w' B b t m s i ss st := by
  have e : ∀ o, w'.cell? ⟨B, o, none⟩ = w.cell? ⟨B, o, none⟩ := fun o => by rw [hb.cell (p := ⟨B, o, none⟩) hB]; simp [World.cell?, he]
  unfold LgAt
  simp only [e]
  exact h
theorem LgAt.drew {w : World} {B : Nat} {b t m s i ss st : Int} (n : Nat) (h : LgAt w B b t m s i ss st) : LgAt (w.drewN n) B b t m s i ss st := h
theorem LgAt.new (w : World) (b t m s i ss st : Int) : LgAt (w.alloc (.cells #[.int .i64 b, .int .i64 t, .int .i64 m, .int .i64 s, .int .i32 i, .int .i32 ss, .int .i32 st] 41)) w.heap.size b t m s i ss st := by
  refine ⟨?_, ?_, ?_, ?_, ?_, ?_, ?_⟩ <;> simp [World.cell?_alloc_new]
/-- How many whole parts come ahead of a message's last one. -/
def cutK (m n : Int) : Nat := (max (n - 1) 0 / m).toNat
def cutsL (m n : Int) : List Int := List.replicate (cutK m n) m ++ [n - cutK m n * m]
theorem cutK_of (m n : Int) (k : Nat) (y : Int) (hm : 1 ≤ m) (hn : 0 ≤ n) (hy : y = n - k * m) (h0 : 0 ≤ y) (h1 : y ≤ m) (h2 : k = 0 ∨ 1 ≤ y) : k = cutK m n := by
  have hkm : 0 ≤ (k : Int) * m := Int.mul_nonneg (by omega) (by omega)
  unfold cutK
  rcases h2 with rfl | h2
  · have : max (n - 1) 0 / m = 0 := Int.ediv_eq_zero_of_lt (by omega) (by simp at hy; omega)
    rw [this]; rfl
  · rw [show max (n - 1) 0 = (y - 1) + k * m from by omega, Int.add_mul_ediv_right _ _ (by omega), Int.ediv_eq_zero_of_lt (by omega) (by omega)]
    omega
theorem cuts_end (m n : Int) (k : Nat) (y : Int) (hm : 1 ≤ m) (hn : 0 ≤ n) (hy : y = n - k * m) (h0 : 0 ≤ y) (h1 : y ≤ m) (h2 : k = 0 ∨ 1 ≤ y) : List.replicate k m ++ [y] = cutsL m n := by
  obtain rfl := cutK_of m n k y hm hn hy h0 h1 h2
  rw [hy]; rfl
def cuE (b t m s n : Int) : Int := if lgOk b t m s = true ∧ 0 ≤ n then (if t / 8 < n then 4 else 0) else 1
def cuL (b t m s n : Int) : List Int := if cuE b t m s n = 0 then cutsL m n else []
theorem cuE_bad {b t m s n : Int} (h : lgOk b t m s = false ∨ n < 0) : cuE b t m s n = 1 := by
  unfold cuE; rw [if_neg (by rintro ⟨h1, h2⟩; rcases h with h | h; exact absurd h1 (by simp [h]); omega)]
theorem cuE_long {b t m s n : Int} (h : lgOk b t m s = true) (h0 : 0 ≤ n) (h1 : t / 8 < n) : cuE b t m s n = 4 := by unfold cuE; rw [if_pos ⟨h, h0⟩, if_pos h1]
theorem cuE_good {b t m s n : Int} (h : lgOk b t m s = true) (h0 : 0 ≤ n) (h1 : n ≤ t / 8) : cuE b t m s n = 0 := by unfold cuE; rw [if_pos ⟨h, h0⟩, if_neg (by omega)]
theorem cuL_no {b t m s n : Int} (h : cuE b t m s n ≠ 0) : cuL b t m s n = [] := by unfold cuL; rw [if_neg h]
theorem cuL_yes {b t m s n : Int} (h : cuE b t m s n = 0) : cuL b t m s n = cutsL m n := by unfold cuL; rw [if_pos h]
set_option maxHeartbeats 4000000 in
theorem cuts_any (b t m s i ss st n : Int) (w : World) (hb0 : -9223372036854775808 ≤ b) (hb1 : b ≤ 9223372036854775807) (ht : t ≤ 9223372036854775807) (ht0 : -9223372036854775808 ≤ t) (hm0 : -9223372036854775808 ≤ m) (n1 : n ≤ 9223372036854775807) :
    Calls Try.prog 26 #[.agg #[.int .i64 b, .int .i64 t, .int .i64 m, .int .i64 s, .int .i32 i, .int .i32 ss, .int .i32 st], .int .i64 n] w fun e w' => ∃ v, e = .returned (.tuple #[v, .int .i64 (cuE b t m s n)]) ∧ OwI 3 w.heap.size w' v (cuL b t m s n) ∧ Below w.heap.size w w' := by
  by_cases hk : lgOk b t m s = true
  · obtain ⟨t0, t1, m0, m1, -, -, -, -, -, -, -⟩ := lgOk_bd hk
    have hE := lgE_ok hk
    have hA : atS b t m s (t.tdiv 8) = t / 8 := by unfold atS; rw [if_pos hk, Int.tdiv_eq_ediv_of_nonneg (by omega)]
    by_cases h0 : n < 0
    · have HV := Lib.hid (cuE_bad (b := b) (t := t) (m := m) (s := s) (n := n) (.inr h0))
      go_enter Try.func26, Try.ntmps26
      go_wp2_with (first | (go_at_call 31; refine (metaCheck_any _ _ _ _ _ _ _ _ hb0 hb1 ht hm0).mono ?_; rintro e w1 ⟨rfl, bl1⟩; obtain ⟨k0, k1, k2, k3, k4, k5, k6⟩ := (LgAt.new w b t m s i ss st).keep bl1 (by simp)) | (go_at_call 39; refine (maxMessage_any _ _ _ _ _ _ _ _ hb0 hb1 ht hm0 ht0).mono ?_; rintro e w2 ⟨rfl, bl2⟩; clear k0 k1 k2 k3 k4 k5 k6; obtain ⟨k0, k1, k2, k3, k4, k5, k6⟩ := ((LgAt.new w b t m s i ss st).keep bl1 (by simp)).keep bl2 (by have := bl1.size; simp at this; omega)))
      go_ret2
      exact ⟨_, by rw [HV.out]; rfl, by rw [cuL_no (by rw [HV.out]; decide)]; exact OwI.nil _ _ _, below_two (by go_grown) bl1 (by simp)⟩
    by_cases h1 : t / 8 < n
    · have HV := Lib.hid (cuE_long hk (by omega) h1)
      go_enter Try.func26, Try.ntmps26
      go_wp2_with (first | (go_at_call 31; refine (metaCheck_any _ _ _ _ _ _ _ _ hb0 hb1 ht hm0).mono ?_; rintro e w1 ⟨rfl, bl1⟩; obtain ⟨k0, k1, k2, k3, k4, k5, k6⟩ := (LgAt.new w b t m s i ss st).keep bl1 (by simp)) | (go_at_call 39; refine (maxMessage_any _ _ _ _ _ _ _ _ hb0 hb1 ht hm0 ht0).mono ?_; rintro e w2 ⟨rfl, bl2⟩; clear k0 k1 k2 k3 k4 k5 k6; obtain ⟨k0, k1, k2, k3, k4, k5, k6⟩ := ((LgAt.new w b t m s i ss st).keep bl1 (by simp)).keep bl2 (by have := bl1.size; simp at this; omega)))
      go_ret2
      exact ⟨_, by rw [HV.out]; rfl, by rw [cuL_no (by rw [HV.out]; decide)]; exact OwI.nil _ _ _, below_two (below_two (by go_grown) bl1 (by simp)) bl2 (by have := bl1.size; simp at this; omega)⟩
    have HV := Lib.hid (cuE_good hk (show 0 ≤ n by omega) (show n ≤ t / 8 by omega))
    obtain ⟨i0, hi, hz0, hz1, hz2⟩ := info_parts intinfo
    go_enter Try.func26, Try.ntmps26
    go_wp2_with (first | (go_at_call 31; refine (metaCheck_any _ _ _ _ _ _ _ _ hb0 hb1 ht hm0).mono ?_; rintro e w1 ⟨rfl, bl1⟩; obtain ⟨k0, k1, k2, k3, k4, k5, k6⟩ := (LgAt.new w b t m s i ss st).keep bl1 (by simp)) | (go_at_call 39; refine (maxMessage_any _ _ _ _ _ _ _ _ hb0 hb1 ht hm0 ht0).mono ?_; rintro e w2 ⟨rfl, bl2⟩; clear k0 k1 k2 k3 k4 k5 k6; obtain ⟨k0, k1, k2, k3, k4, k5, k6⟩ := ((LgAt.new w b t m s i ss st).keep bl1 (by simp)).keep bl2 (by have := bl1.size; simp at this; omega)))
    have z1 := bl1.size
    have z2 := bl2.size
    simp only [World.size_alloc] at z1
    have HL : Hid (LgAt w2 w.heap.size b t m s i ss st) := ⟨k0, k1, k2, k3, k4, k5, k6⟩
    clear k0 k1 k2 k3 k4 k5 k6
    go_loopw [1, 6] (fun x v wr => ∃ (k : Nat) (y : Int), x = .int .i64 y ∧ Hid (y = n - k * m) ∧ 0 ≤ y ∧ y ≤ n ∧ (k : Int) + y ≤ n ∧ Hid (k = 0 ∨ 1 ≤ y) ∧ OwI 3 (w.heap.size + 1) wr v (List.replicate k m) ∧ Below (w.heap.size + 1) w2 wr) (fun x _ _ => (intOf x).toNat)
    case atStart => exact ⟨0, n, rfl, by show n = n - ((0 : Nat) : Int) * m; simp, by omega, by omega, by omega, .inl rfl, OwI.nil _ _ _, Below.refl _ _⟩
    case round =>
      obtain ⟨k, y, rfl, hy, y0, y1, y2, hor, hown, hbel⟩ := hrel
      have hsz := hbel.size
      obtain ⟨-, -, k2, -, -, -, -⟩ := HL.out.keep hbel (by omega)
      unfold OwI at hown
      rw [List.length_replicate] at hown
      by_cases hlt : m < y
      · go_wp2_with (at_builtin; refine wpList_append_own _ rfl _ _ 42 rfl (w.heap.size + 1) 3 i0 (.int .i64 0) 1 8 Try.underlying42 hi hz0 hz1 hz2 rfl (by decide) _ _ _ rfl (hown.alloc _) ⟨wr.heap.size, 0, none⟩ 1 1 [.int .i64 m] rfl rfl ?c1 ?c2 ?c3 ?c4 ?c5 ?_)
        try case c1 => exact cell_one_new _ _ _
        case c2 => simp [Value.oneCell']
        case c3 => unfold maxLen; omega
        case c4 => omega
        case c5 => first | omega | (simp; omega)
        intro v' w9 hown' hgrow _
        have er : List.replicate k (Value.int .i64 m) = (List.replicate k m).map (Value.int .i64) := by simp
        rw [er] at hown'
        have hrel := OwI.push m (List.length_replicate (n := k)) hown hown' hgrow hbel (by omega)
        rw [← List.replicate_succ'] at hrel
        obtain ⟨-, -, k2, -, -, -, -⟩ := HL.out.keep hrel.2 (by omega)
        clear hown hown' hgrow hbel er
        go_wp2
        refine ⟨⟨k + 1, y - m, rfl, ?_, by omega, by omega, by omega, .inr (by omega), hrel.1, hrel.2⟩, by simp [intOf]; omega⟩
        have := hy.out
        show y - m = n - ((k + 1 : Nat) : Int) * m
        rw [this, Int.natCast_add, Int.add_mul]
        simp; omega
      · have HC := Lib.hid (cuts_end m n k y (by omega) (by omega) hy.out y0 (by omega) hor.out)
        go_wp2_with (at_builtin; refine wpList_append_own _ rfl _ _ 42 rfl (w.heap.size + 1) 3 i0 (.int .i64 0) 1 8 Try.underlying42 hi hz0 hz1 hz2 rfl (by decide) _ _ _ rfl (hown.alloc _) ⟨wr.heap.size, 0, none⟩ 1 1 [.int .i64 y] rfl rfl ?d1 ?d2 ?d3 ?d4 ?d5 ?_)
        try case d1 => exact cell_one_new _ _ _
        case d2 => simp [Value.oneCell']
        case d3 => unfold maxLen; omega
        case d4 => omega
        case d5 => first | omega | (simp; omega)
        intro v' w9 hown' hgrow _
        have er : List.replicate k (Value.int .i64 m) = (List.replicate k m).map (Value.int .i64) := by simp
        rw [er] at hown'
        have hrel := OwI.push y (List.length_replicate (n := k)) hown hown' hgrow hbel (by omega)
        rw [HC.out, ← cuL_yes HV.out] at hrel
        clear hown hown' hgrow hbel er
        go_wp2
        go_ret2
        exact ⟨_, by rw [HV.out]; rfl, hrel.1.mono (by omega), (below_two (below_two (by go_grown) bl1 (by simp)) bl2 (by have := bl1.size; simp at this; omega)).trans (hrel.2.mono (by omega))⟩
  · have hk' : lgOk b t m s = false := by simpa using hk
    have hE := lgE_no hk'
    have HV := Lib.hid (cuE_bad (b := b) (t := t) (m := m) (s := s) (n := n) (.inl hk'))
    clear hk
    go_enter Try.func26, Try.ntmps26
    go_wp2_with (first | (go_at_call 31; refine (metaCheck_any _ _ _ _ _ _ _ _ hb0 hb1 ht hm0).mono ?_; rintro e w1 ⟨rfl, bl1⟩; obtain ⟨k0, k1, k2, k3, k4, k5, k6⟩ := (LgAt.new w b t m s i ss st).keep bl1 (by simp)) | (go_at_call 39; refine (maxMessage_any _ _ _ _ _ _ _ _ hb0 hb1 ht hm0 ht0).mono ?_; rintro e w2 ⟨rfl, bl2⟩; clear k0 k1 k2 k3 k4 k5 k6; obtain ⟨k0, k1, k2, k3, k4, k5, k6⟩ := ((LgAt.new w b t m s i ss st).keep bl1 (by simp)).keep bl2 (by have := bl1.size; simp at this; omega)))
    go_ret2
    exact ⟨_, by rw [HV.out]; rfl, by rw [cuL_no (by rw [HV.out]; decide)]; exact OwI.nil _ _ _, below_two (by go_grown) bl1 (by simp)⟩
set_option maxHeartbeats 4000000 in
theorem refCuts_any (b t m s i ss st n : Int) (w : World) (hb0 : -9223372036854775808 ≤ b) (hb1 : b ≤ 9223372036854775807) (ht : t ≤ 9223372036854775807) (ht0 : -9223372036854775808 ≤ t) (hm0 : -9223372036854775808 ≤ m) (n1 : n ≤ 9223372036854775807) :
    Calls Try.prog 27 #[.agg #[.int .i64 b, .int .i64 t, .int .i64 m, .int .i64 s, .int .i32 i, .int .i32 ss, .int .i32 st], .int .i64 n] w fun e w' => ∃ v, e = .returned (.tuple #[v, .int .i64 (cuE b t m s n)]) ∧ OwI 3 w.heap.size w' v (cuL b t m s n) ∧ Below w.heap.size w w' := by
  by_cases hk : lgOk b t m s = true
  · obtain ⟨t0, t1, m0, m1, -, -, -, -, -, -, -⟩ := lgOk_bd hk
    by_cases h0 : n < 0
    · have HV := Lib.hid (cuE_bad (b := b) (t := t) (m := m) (s := s) (n := n) (.inr h0))
      go_enter Try.func27, Try.ntmps27
      go_wp2_with (go_at_call 30; refine (right_any _ _ _ _ _ _ _ _ hb0 hb1 hm0).mono ?_; rintro e w1 ⟨rfl, bl1⟩; obtain ⟨k0, k1, k2, k3, k4, k5, k6⟩ := (LgAt.new w b t m s i ss st).keep bl1 (by simp))
      go_ret2
      exact ⟨_, by rw [HV.out]; rfl, by rw [cuL_no (by rw [HV.out]; decide)]; exact OwI.nil _ _ _, below_two (by go_grown) bl1 (by simp)⟩
    by_cases h1 : t / 8 < n
    · have HV := Lib.hid (cuE_long hk (by omega) h1)
      go_enter Try.func27, Try.ntmps27
      go_wp2_with (go_at_call 30; refine (right_any _ _ _ _ _ _ _ _ hb0 hb1 hm0).mono ?_; rintro e w1 ⟨rfl, bl1⟩; obtain ⟨k0, k1, k2, k3, k4, k5, k6⟩ := (LgAt.new w b t m s i ss st).keep bl1 (by simp))
      go_ret2
      exact ⟨_, by rw [HV.out]; rfl, by rw [cuL_no (by rw [HV.out]; decide)]; exact OwI.nil _ _ _, below_two (by go_grown) bl1 (by simp)⟩
    have HV := Lib.hid (cuE_good hk (show 0 ≤ n by omega) (show n ≤ t / 8 by omega))
    obtain ⟨i0, hi, hz0, hz1, hz2⟩ := info_parts intinfo
    go_enter Try.func27, Try.ntmps27
    go_wp2_with (go_at_call 30; refine (right_any _ _ _ _ _ _ _ _ hb0 hb1 hm0).mono ?_; rintro e w1 ⟨rfl, bl1⟩; obtain ⟨k0, k1, k2, k3, k4, k5, k6⟩ := (LgAt.new w b t m s i ss st).keep bl1 (by simp))
    have z1 := bl1.size
    simp only [World.size_alloc] at z1
    have HL : Hid (LgAt w1 w.heap.size b t m s i ss st) := ⟨k0, k1, k2, k3, k4, k5, k6⟩
    clear k0 k1 k2 k3 k4 k5 k6
    go_loopw [1, 6] (fun x v wr => ∃ (k : Nat) (y : Int), x = .int .i64 y ∧ Hid (y = n - k * m) ∧ 0 ≤ y ∧ y ≤ n ∧ (k : Int) + y ≤ n ∧ Hid (k = 0 ∨ 1 ≤ y) ∧ OwI 3 (w.heap.size + 1) wr v (List.replicate k m) ∧ Below (w.heap.size + 1) w1 wr) (fun x _ _ => (intOf x).toNat)
    case atStart => exact ⟨0, n, rfl, by show n = n - ((0 : Nat) : Int) * m; simp, by omega, by omega, by omega, .inl rfl, OwI.nil _ _ _, Below.refl _ _⟩
    case round =>
      obtain ⟨k, y, rfl, hy, y0, y1, y2, hor, hown, hbel⟩ := hrel
      have hsz := hbel.size
      obtain ⟨-, -, k2, -, -, -, -⟩ := HL.out.keep hbel (by omega)
      unfold OwI at hown
      rw [List.length_replicate] at hown
      by_cases hlt : m < y
      · go_wp2_with (at_builtin; refine wpList_append_own _ rfl _ _ 42 rfl (w.heap.size + 1) 3 i0 (.int .i64 0) 1 8 Try.underlying42 hi hz0 hz1 hz2 rfl (by decide) _ _ _ rfl (hown.alloc _) ⟨wr.heap.size, 0, none⟩ 1 1 [.int .i64 m] rfl rfl ?c1 ?c2 ?c3 ?c4 ?c5 ?_)
        try case c1 => exact cell_one_new _ _ _
        case c2 => simp [Value.oneCell']
        case c3 => unfold maxLen; omega
        case c4 => omega
        case c5 => first | omega | (simp; omega)
        intro v' w9 hown' hgrow _
        have er : List.replicate k (Value.int .i64 m) = (List.replicate k m).map (Value.int .i64) := by simp
        rw [er] at hown'
        have hrel := OwI.push m (List.length_replicate (n := k)) hown hown' hgrow hbel (by omega)
        rw [← List.replicate_succ'] at hrel
        obtain ⟨-, -, k2, -, -, -, -⟩ := HL.out.keep hrel.2 (by omega)
        clear hown hown' hgrow hbel er
        go_wp2
        refine ⟨⟨k + 1, y - m, rfl, ?_, by omega, by omega, by omega, .inr (by omega), hrel.1, hrel.2⟩, by simp [intOf]; omega⟩
        have := hy.out
        show y - m = n - ((k + 1 : Nat) : Int) * m
        rw [this, Int.natCast_add, Int.add_mul]
        simp; omega
      · have HC := Lib.hid (cuts_end m n k y (by omega) (by omega) hy.out y0 (by omega) hor.out)
        go_wp2_with (at_builtin; refine wpList_append_own _ rfl _ _ 42 rfl (w.heap.size + 1) 3 i0 (.int .i64 0) 1 8 Try.underlying42 hi hz0 hz1 hz2 rfl (by decide) _ _ _ rfl (hown.alloc _) ⟨wr.heap.size, 0, none⟩ 1 1 [.int .i64 y] rfl rfl ?d1 ?d2 ?d3 ?d4 ?d5 ?_)
        try case d1 => exact cell_one_new _ _ _
        case d2 => simp [Value.oneCell']
        case d3 => unfold maxLen; omega
        case d4 => omega
        case d5 => first | omega | (simp; omega)
        intro v' w9 hown' hgrow _
        have er : List.replicate k (Value.int .i64 m) = (List.replicate k m).map (Value.int .i64) := by simp
        rw [er] at hown'
        have hrel := OwI.push y (List.length_replicate (n := k)) hown hown' hgrow hbel (by omega)
        rw [HC.out, ← cuL_yes HV.out] at hrel
        clear hown hown' hgrow hbel er
        go_wp2
        go_ret2
        exact ⟨_, by rw [HV.out]; rfl, hrel.1.mono (by omega), (below_two (by go_grown) bl1 (by simp)).trans (hrel.2.mono (by omega))⟩
  · have hk' : lgOk b t m s = false := by simpa using hk
    have HV := Lib.hid (cuE_bad (b := b) (t := t) (m := m) (s := s) (n := n) (.inl hk'))
    clear hk
    go_enter Try.func27, Try.ntmps27
    go_wp2_with (go_at_call 30; refine (right_any _ _ _ _ _ _ _ _ hb0 hb1 hm0).mono ?_; rintro e w1 ⟨rfl, bl1⟩; obtain ⟨k0, k1, k2, k3, k4, k5, k6⟩ := (LgAt.new w b t m s i ss st).keep bl1 (by simp))
    go_ret2
    exact ⟨_, by rw [HV.out]; rfl, by rw [cuL_no (by rw [HV.out]; decide)]; exact OwI.nil _ _ _, below_two (by go_grown) bl1 (by simp)⟩
/-- What a frame of x bytes takes. -/
def frS (x : Int) : Int := szV x 32 32
theorem frS_eq (x : Int) (h0 : 0 ≤ x) (h1 : x ≤ 131072) : frS x = (x + 31) / 32 * 32 + 32 := by
  have hp : isP 32 = true := by decide +kernel
  have hb : alBad (x + 32) 32 = false := by unfold alBad; rw [hp]; simp; omega
  have hz : szBad x = false := by unfold szBad; simp; omega
  unfold frS szV alV
  rw [hz, hb]
  simp only [Bool.false_eq_true, if_false]
  split <;> omega
theorem szE_ok (x : Int) (h0 : 0 ≤ x) (h1 : x ≤ 131072) : szE x 32 32 = 0 := by
  have hp : isP 32 = true := by decide +kernel
  have hb : alBad (x + 32) 32 = false := by unfold alBad; rw [hp]; simp; omega
  have hz : szBad x = false := by unfold szBad; simp; omega
  unfold szE alE
  rw [hz, hb]
  rfl
def neV (b t m s n : Int) : Int := if cuE b t m s n = 0 then cutK m n * (m + 32) + frS (n - cutK m n * m) else 0
theorem cuE_zero {b t m s n : Int} (h : cuE b t m s n = 0) : lgOk b t m s = true ∧ 0 ≤ n ∧ n ≤ t / 8 := by
  unfold cuE at h
  split at h
  · rename_i hc
    split at h
    · cases h
    · exact ⟨hc.1, hc.2, by omega⟩
  · cases h
theorem cutK_bd (m n : Int) (hm : 1 ≤ m) (hn : 0 ≤ n) : 0 ≤ cutK m n * m ∧ (cutK m n = 0 ∨ cutK m n * m + 1 ≤ n) ∧ 0 ≤ n - cutK m n * m ∧ n - cutK m n * m ≤ m ∧ (cutK m n : Int) ≤ cutK m n * m := by
  have h0 : 0 ≤ max (n - 1) 0 / m := Int.ediv_nonneg (by omega) (by omega)
  have h1 : (cutK m n : Int) = max (n - 1) 0 / m := by unfold cutK; omega
  have h2 := Int.emod_add_mul_ediv (max (n - 1) 0) m
  have h3 := Int.emod_nonneg (max (n - 1) 0) (show m ≠ 0 by omega)
  have h4 := Int.emod_lt_of_pos (max (n - 1) 0) (show 0 < m by omega)
  have h5 : 0 ≤ (cutK m n : Int) * m := Int.mul_nonneg (by omega) (by omega)
  have h6 : (cutK m n : Int) * 1 ≤ cutK m n * m := Int.mul_le_mul_of_nonneg_left hm (by omega)
  rw [← h1, Int.mul_comm] at h2
  refine ⟨h5, ?_, ?_, ?_, by omega⟩
  · by_cases hk : cutK m n = 0
    · exact .inl hk
    · refine .inr ?_
      by_cases hn1 : n = 0
      · subst hn1
        have : max ((0 : Int) - 1) 0 / m = 0 := by rw [show max ((0 : Int) - 1) 0 = 0 from by omega, Int.zero_ediv]
        omega
      · omega
  · by_cases hn1 : n = 0
    · subst hn1
      have : max ((0 : Int) - 1) 0 / m = 0 := by rw [show max ((0 : Int) - 1) 0 = 0 from by omega, Int.zero_ediv]
      have : (cutK m 0 : Int) = 0 := by omega
      rw [this]; simp
    · omega
  · omega
set_option maxHeartbeats 4000000 in
theorem need_any (b t m s i ss st n : Int) (w : World) (hb0 : -9223372036854775808 ≤ b) (hb1 : b ≤ 9223372036854775807) (ht : t ≤ 9223372036854775807) (ht0 : -9223372036854775808 ≤ t) (hm0 : -9223372036854775808 ≤ m) (n0 : -9223372036854775808 ≤ n) (n1 : n ≤ 9223372036854775807) :
    Calls Try.prog 28 #[.agg #[.int .i64 b, .int .i64 t, .int .i64 m, .int .i64 s, .int .i32 i, .int .i32 ss, .int .i32 st], .int .i64 n] w fun e w' => e = .returned (.tuple #[.int .i64 (neV b t m s n), .int .i64 (cuE b t m s n)]) ∧ Below w.heap.size w w' := by
  by_cases hz : cuE b t m s n = 0
  · obtain ⟨hk, c0, c1⟩ := cuE_zero hz
    obtain ⟨t0, t1, m0, m1, mm, -, -, -, -, -, -⟩ := lgOk_bd hk
    obtain ⟨q0, -, q1, q2, q3⟩ := cutK_bd m n (by omega) c0
    have HV := Lib.hid (show neV b t m s n = cutK m n * (m + 32) + frS (n - cutK m n * m) by unfold neV; rw [if_pos hz])
    have f1 : szV m 32 32 = m + 32 := by have := frS_eq m (by omega) (by omega); unfold frS at this; omega
    have f2 := frS_eq (n - cutK m n * m) q1 (by omega)
    have F3 := Lib.hid (show szV (n - cutK m n * m) 32 32 = frS (n - cutK m n * m) from rfl)
    have f4 : 0 ≤ szV (n - cutK m n * m) 32 32 ∧ szV (n - cutK m n * m) 32 32 ≤ 2000 := by rw [F3.out]; omega
    have hkq : max (n - 1) 0 / m = (cutK m n : Int) := by have h0 : 0 ≤ max (n - 1) 0 / m := Int.ediv_nonneg (by omega) (by omega); unfold cutK; omega
    have hd : (cutK m n : Int) * (m + 32) = cutK m n * m + 32 * cutK m n := by rw [Int.mul_add, Int.mul_comm _ 32]
    have g0 : 0 ≤ (cutK m n : Int) * (m + 32) ∧ (cutK m n : Int) * (m + 32) ≤ 100000 := by omega
    clear f2 hd
    generalize cutK m n = K at *
    by_cases h1 : 1 ≤ n
    · rw [show max (n - 1) 0 = n - 1 from by omega] at hkq
      go_enter Try.func28, Try.ntmps28
      go_wp2_with (first | (go_at_call 26; refine (cuts_any _ _ _ _ _ _ _ _ _ hb0 hb1 ht ht0 hm0 n1).mono ?_; rintro e w1 ⟨v1, rfl, own1, bl1⟩; obtain ⟨k0, k1, k2, k3, k4, k5, k6⟩ := (LgAt.new w b t m s i ss st).keep bl1 (by simp)) | (go_at_call 18; refine (frameSize_any _ _).mono ?_; rintro e w' ⟨rfl, rfl⟩))
      go_ret2
      exact ⟨by rw [HV.out, ← F3.out, hz]; rfl, below_two (by go_grown) bl1 (by simp)⟩
    · rw [show max (n - 1) 0 = 0 from by omega] at hkq
      have hkq' : (0 : Int) = K := by rw [← hkq, Int.zero_ediv]
      obtain rfl : K = 0 := by omega
      simp only [Int.zero_ediv, Int.natCast_zero, Int.zero_mul, Int.sub_zero] at *
      go_enter Try.func28, Try.ntmps28
      go_wp2_with (first | (go_at_call 26; refine (cuts_any _ _ _ _ _ _ _ _ _ hb0 hb1 ht ht0 hm0 n1).mono ?_; rintro e w1 ⟨v1, rfl, own1, bl1⟩; obtain ⟨k0, k1, k2, k3, k4, k5, k6⟩ := (LgAt.new w b t m s i ss st).keep bl1 (by simp)) | (go_at_call 18; refine (frameSize_any _ _).mono ?_; rintro e w' ⟨rfl, rfl⟩))
      all_goals
        go_ret2
        exact ⟨by rw [HV.out, ← F3.out, hz]; simp, below_two (by go_grown) bl1 (by simp)⟩
  · have HV := Lib.hid (show neV b t m s n = 0 by unfold neV; rw [if_neg hz])
    have hne : (cuE b t m s n != 0) = true := by simpa using hz
    clear hz
    go_enter Try.func28, Try.ntmps28
    go_wp2_with (first | (go_at_call 26; refine (cuts_any _ _ _ _ _ _ _ _ _ hb0 hb1 ht ht0 hm0 n1).mono ?_; rintro e w1 ⟨v1, rfl, own1, bl1⟩; obtain ⟨k0, k1, k2, k3, k4, k5, k6⟩ := (LgAt.new w b t m s i ss st).keep bl1 (by simp)) | (go_at_call 18; refine (frameSize_any _ _).mono ?_; rintro e w' ⟨rfl, rfl⟩))
    go_ret2
    exact ⟨by rw [HV.out]; rfl, below_two (by go_grown) bl1 (by simp)⟩
end Go.Proofs.Ytabifjolocmonaa
