/- Contracts of the package place and of its reference. Conditions: the arguments are in their kinds' ranges; the table of math/bits holds what the text of the library lays. -/
import Derived.Test.YtmlmchgigepleaaDoorWl
import Derived.Test.YtmlmchgigepleaaDoorTm
namespace Go.Proofs.YtmlmchgigepleaaDoor
open Go.RowKit
set_option linter.unusedVariables false
/-- How many terms came ahead of one. -/
def cnS (t i : Int) : Int := (t - i) % 4294967296
theorem cnS_bd (t i : Int) : 0 ≤ cnS t i ∧ cnS t i ≤ 4294967295 := by unfold cnS; omega
def poBad (t i o s : Int) : Bool := !isT s || decide (o < 0) || decide (s < o) || decide (2147483648 ≤ cnS t i)
def poV (t i o s : Int) : Int := if poBad t i o s = true then 0 else cnS t i * s + o
def poE (t i o s : Int) : Int := if poBad t i o s = true then 1 else 0
def mpS (s : Int) : Int := if isT s = true then s * 2147483648 else 0
def wiS (p s : Int) : Bool := decide (0 ≤ p) && decide (p < mpS s)
def teV (p i s : Int) : Int := if wiS p s = true then wrap32 (i + p / s) else 0
def teE (p s : Int) : Int := if wiS p s = true then 0 else 1
def ofV (p s : Int) : Int := if wiS p s = true then p % s else 0
def pkS (t o : Int) : Int := t % 4294967296 * 4294967296 + o
theorem wiS_T {p s : Int} (h : wiS p s = true) : isT s = true ∧ 0 ≤ p ∧ p < s * 2147483648 := by
  unfold wiS mpS at h
  by_cases ht : isT s = true
  · rw [if_pos ht] at h; simp at h; exact ⟨ht, h.1, h.2⟩
  · rw [if_neg ht] at h; simp at h; omega
theorem wiS_no {p s : Int} (h : isT s = true) (hw : wiS p s = false) : p < 0 ∨ s * 2147483648 ≤ p := by
  unfold wiS mpS at hw
  rw [if_pos h] at hw
  simp at hw
  omega
theorem mpS_T {s : Int} (h : isT s = true) : mpS s = s * 2147483648 := by unfold mpS; rw [if_pos h]
theorem div_bd {p s : Int} (h : wiS p s = true) : 0 ≤ p / s ∧ p / s < 2147483648 := by
  obtain ⟨h1, h2, h3⟩ := wiS_T h
  have := isT_bd h1
  refine ⟨Int.ediv_nonneg h2 (by omega), Int.ediv_lt_of_lt_mul (by omega) ?_⟩
  rw [Int.mul_comm]; exact h3
theorem isP_of_isT {s : Int} (h : isT s = true) : isP s = true := by unfold isT at h; simp at h; exact h.1.1
theorem mul_bd {n s : Int} (h : isT s = true) (h0 : 0 ≤ n) (h1 : n < 2147483648) : 0 ≤ n * s ∧ n * s ≤ 17592186044416 := by
  have := isT_bd h
  refine ⟨Int.mul_nonneg h0 (by omega), ?_⟩
  have e : n * s ≤ n * 8192 := Int.mul_le_mul_of_nonneg_left (by omega) h0
  omega

theorem count_any (t i : Int) (w : World) (t0 : -2147483648 ≤ t) (t1 : t ≤ 2147483647) (i0 : -2147483648 ≤ i) (i1 : i ≤ 2147483647) :
    Calls Tryd.prog 30 #[.int .i32 t, .int .i32 i] w fun e w' => e = .returned (.int .u32 (cnS t i)) ∧ w = w' := by
  by_cases h : t - i < 0
  all_goals
    go_enter Tryd.func30, Tryd.ntmps30
    go_wp2
    go_ret
    exact ⟨ret_int (by unfold cnS; (try rw [IntKind.wrap_u32']); omega), rfl⟩
theorem refCount_any (t i : Int) (w : World) (t0 : -2147483648 ≤ t) (t1 : t ≤ 2147483647) (i0 : -2147483648 ≤ i) (i1 : i ≤ 2147483647) :
    Calls Tryd.prog 31 #[.int .i32 t, .int .i32 i] w fun e w' => e = .returned (.int .u32 (cnS t i)) ∧ w = w' := by
  by_cases h : t - i < 0
  all_goals
    go_enter Tryd.func31, Tryd.ntmps31
    go_wp2
    go_ret
    exact ⟨ret_int (by unfold cnS; (try rw [IntKind.wrap_u32']); omega), rfl⟩
theorem maxPos_any (s : Int) (w : World) (h1 : s ≤ 9223372036854775807) :
    Calls Tryd.prog 34 #[.int .i64 s] w fun e w' => e = .returned (.int .i64 (mpS s)) ∧ w = w' := by
  by_cases ht : isT s = true
  · have hb := isT_bd ht
    have HM := Lib.hid (mpS_T ht)
    go_enter Tryd.func34, Tryd.ntmps34
    go_wp2_with (go_at_call 32; refine (isTerm_any _ _ (by omega)).mono ?_; rintro e w' ⟨rfl, rfl⟩)
    go_ret
    exact ⟨ret_int (by rw [HM.out]), rfl⟩
  · have ht' : isT s = false := by simpa using ht
    have HM := Lib.hid (show mpS s = 0 by unfold mpS; rw [if_neg ht])
    clear ht
    go_enter Tryd.func34, Tryd.ntmps34
    go_wp2_with (go_at_call 32; refine (isTerm_any _ _ (by omega)).mono ?_; rintro e w' ⟨rfl, rfl⟩)
    go_ret
    exact ⟨ret_int (by rw [HM.out]), rfl⟩
theorem refMaxPos_any (s : Int) (w : World) (h1 : s ≤ 9223372036854775807) :
    Calls Tryd.prog 35 #[.int .i64 s] w fun e w' => e = .returned (.int .i64 (mpS s)) ∧ w = w' := by
  by_cases ht : isT s = true
  · have hb := isT_bd ht
    have HM := Lib.hid (mpS_T ht)
    go_enter Tryd.func35, Tryd.ntmps35
    go_wp2_with (go_at_call 33; refine (refIsTerm_any _ _).mono ?_; rintro e w' ⟨rfl, rfl⟩)
    go_ret
    exact ⟨ret_int (by rw [HM.out]), rfl⟩
  · have ht' : isT s = false := by simpa using ht
    have HM := Lib.hid (show mpS s = 0 by unfold mpS; rw [if_neg ht])
    clear ht
    go_enter Tryd.func35, Tryd.ntmps35
    go_wp2_with (go_at_call 33; refine (refIsTerm_any _ _).mono ?_; rintro e w' ⟨rfl, rfl⟩)
    go_ret
    exact ⟨ret_int (by rw [HM.out]), rfl⟩
theorem within_any (p s : Int) (w : World) (h1 : s ≤ 9223372036854775807) :
    Calls Tryd.prog 44 #[.int .i64 p, .int .i64 s] w fun e w' => e = .returned (.bool (wiS p s)) ∧ w = w' := by
  by_cases h0 : 0 ≤ p
  · by_cases h2 : p < mpS s
    · have HW := Lib.hid (show wiS p s = true by unfold wiS; simp [h0, h2])
      go_enter Tryd.func44, Tryd.ntmps44
      go_wp2_with (go_at_call 34; refine (maxPos_any _ _ h1).mono ?_; rintro e w' ⟨rfl, rfl⟩)
      go_ret
      exact ⟨by rw [HW.out]; simp; try omega, rfl⟩
    · have HW := Lib.hid (show wiS p s = false by unfold wiS; simp [h2])
      go_enter Tryd.func44, Tryd.ntmps44
      go_wp2_with (go_at_call 34; refine (maxPos_any _ _ h1).mono ?_; rintro e w' ⟨rfl, rfl⟩)
      go_ret
      exact ⟨by rw [HW.out]; simp; try omega, rfl⟩
  · have HW := Lib.hid (show wiS p s = false by unfold wiS; simp [h0])
    go_enter Tryd.func44, Tryd.ntmps44
    go_wp2_with (go_at_call 34; refine (maxPos_any _ _ h1).mono ?_; rintro e w' ⟨rfl, rfl⟩)
    go_ret
    exact ⟨by rw [HW.out]; simp; try omega, rfl⟩
set_option maxHeartbeats 1000000 in
theorem position_any (t i o s : Int) (w : World) (t0 : -2147483648 ≤ t) (t1 : t ≤ 2147483647) (i0 : -2147483648 ≤ i) (i1 : i ≤ 2147483647) (s1 : s ≤ 9223372036854775807) :
    Calls Tryd.prog 24 #[.int .i32 t, .int .i32 i, .int .i64 o, .int .i64 s] w fun e w' => e = .returned (.tuple #[.int .i64 (poV t i o s), .int .i64 (poE t i o s)]) ∧ w = w' := by
  obtain ⟨c0, c1⟩ := cnS_bd t i
  by_cases ht : isT s = true
  · have hb := isT_bd ht
    by_cases h1 : o < 0
    · have HV := Lib.hid (show poV t i o s = 0 ∧ poE t i o s = 1 by unfold poV poE poBad; simp [h1])
      go_enter Tryd.func24, Tryd.ntmps24
      go_wp2_with (first | (go_at_call 30; refine (count_any _ _ _ t0 t1 i0 i1).mono ?_; rintro e w' ⟨rfl, rfl⟩) | (go_at_call 32; refine (isTerm_any _ _ (by omega)).mono ?_; rintro e w' ⟨rfl, rfl⟩))
      go_ret2
      exact ⟨by rw [HV.out.1, HV.out.2]; rfl, rfl⟩
    by_cases h2 : s < o
    · have HV := Lib.hid (show poV t i o s = 0 ∧ poE t i o s = 1 by unfold poV poE poBad; simp [h2])
      go_enter Tryd.func24, Tryd.ntmps24
      go_wp2_with (first | (go_at_call 30; refine (count_any _ _ _ t0 t1 i0 i1).mono ?_; rintro e w' ⟨rfl, rfl⟩) | (go_at_call 32; refine (isTerm_any _ _ (by omega)).mono ?_; rintro e w' ⟨rfl, rfl⟩))
      go_ret2
      exact ⟨by rw [HV.out.1, HV.out.2]; rfl, rfl⟩
    by_cases h3 : 2147483648 ≤ cnS t i
    · have HV := Lib.hid (show poV t i o s = 0 ∧ poE t i o s = 1 by unfold poV poE poBad; simp [h3])
      go_enter Tryd.func24, Tryd.ntmps24
      go_wp2_with (first | (go_at_call 30; refine (count_any _ _ _ t0 t1 i0 i1).mono ?_; rintro e w' ⟨rfl, rfl⟩) | (go_at_call 32; refine (isTerm_any _ _ (by omega)).mono ?_; rintro e w' ⟨rfl, rfl⟩))
      go_ret2
      exact ⟨by rw [HV.out.1, HV.out.2]; rfl, rfl⟩
    have HV := Lib.hid (show poV t i o s = cnS t i * s + o ∧ poE t i o s = 0 by unfold poV poE poBad; simp [ht, h1, h2, h3])
    obtain ⟨m0, m1⟩ := mul_bd ht c0 (show cnS t i < 2147483648 by omega)
    go_enter Tryd.func24, Tryd.ntmps24
    go_wp2_with (first | (go_at_call 30; refine (count_any _ _ _ t0 t1 i0 i1).mono ?_; rintro e w' ⟨rfl, rfl⟩) | (go_at_call 32; refine (isTerm_any _ _ (by omega)).mono ?_; rintro e w' ⟨rfl, rfl⟩))
    go_ret2
    exact ⟨by rw [HV.out.1, HV.out.2]; rfl, rfl⟩
  · have ht' : isT s = false := by simpa using ht
    have HV := Lib.hid (show poV t i o s = 0 ∧ poE t i o s = 1 by unfold poV poE poBad; simp [ht'])
    clear ht
    go_enter Tryd.func24, Tryd.ntmps24
    go_wp2_with (first | (go_at_call 30; refine (count_any _ _ _ t0 t1 i0 i1).mono ?_; rintro e w' ⟨rfl, rfl⟩) | (go_at_call 32; refine (isTerm_any _ _ (by omega)).mono ?_; rintro e w' ⟨rfl, rfl⟩))
    go_ret2
    exact ⟨by rw [HV.out.1, HV.out.2]; rfl, rfl⟩
set_option maxHeartbeats 1000000 in
theorem refPosition_any (t i o s : Int) (w : World) (t0 : -2147483648 ≤ t) (t1 : t ≤ 2147483647) (i0 : -2147483648 ≤ i) (i1 : i ≤ 2147483647) (s1 : s ≤ 9223372036854775807) :
    Calls Tryd.prog 25 #[.int .i32 t, .int .i32 i, .int .i64 o, .int .i64 s] w fun e w' => e = .returned (.tuple #[.int .i64 (poV t i o s), .int .i64 (poE t i o s)]) ∧ w = w' := by
  obtain ⟨c0, c1⟩ := cnS_bd t i
  by_cases ht : isT s = true
  · have hb := isT_bd ht
    by_cases h1 : o < 0
    · have HV := Lib.hid (show poV t i o s = 0 ∧ poE t i o s = 1 by unfold poV poE poBad; simp [h1])
      go_enter Tryd.func25, Tryd.ntmps25
      go_wp2_with (first | (go_at_call 31; refine (refCount_any _ _ _ t0 t1 i0 i1).mono ?_; rintro e w' ⟨rfl, rfl⟩) | (go_at_call 33; refine (refIsTerm_any _ _).mono ?_; rintro e w' ⟨rfl, rfl⟩))
      go_ret2
      exact ⟨by rw [HV.out.1, HV.out.2]; rfl, rfl⟩
    by_cases h2 : s < o
    · have HV := Lib.hid (show poV t i o s = 0 ∧ poE t i o s = 1 by unfold poV poE poBad; simp [h2])
      go_enter Tryd.func25, Tryd.ntmps25
      go_wp2_with (first | (go_at_call 31; refine (refCount_any _ _ _ t0 t1 i0 i1).mono ?_; rintro e w' ⟨rfl, rfl⟩) | (go_at_call 33; refine (refIsTerm_any _ _).mono ?_; rintro e w' ⟨rfl, rfl⟩))
      go_ret2
      exact ⟨by rw [HV.out.1, HV.out.2]; rfl, rfl⟩
    by_cases h3 : 2147483648 ≤ cnS t i
    · have HV := Lib.hid (show poV t i o s = 0 ∧ poE t i o s = 1 by unfold poV poE poBad; simp [h3])
      go_enter Tryd.func25, Tryd.ntmps25
      go_wp2_with (first | (go_at_call 31; refine (refCount_any _ _ _ t0 t1 i0 i1).mono ?_; rintro e w' ⟨rfl, rfl⟩) | (go_at_call 33; refine (refIsTerm_any _ _).mono ?_; rintro e w' ⟨rfl, rfl⟩))
      go_ret2
      exact ⟨by rw [HV.out.1, HV.out.2]; rfl, rfl⟩
    have HV := Lib.hid (show poV t i o s = cnS t i * s + o ∧ poE t i o s = 0 by unfold poV poE poBad; simp [ht, h1, h2, h3])
    obtain ⟨m0, m1⟩ := mul_bd ht c0 (show cnS t i < 2147483648 by omega)
    go_enter Tryd.func25, Tryd.ntmps25
    go_wp2_with (first | (go_at_call 31; refine (refCount_any _ _ _ t0 t1 i0 i1).mono ?_; rintro e w' ⟨rfl, rfl⟩) | (go_at_call 33; refine (refIsTerm_any _ _).mono ?_; rintro e w' ⟨rfl, rfl⟩))
    go_ret2
    exact ⟨by rw [HV.out.1, HV.out.2]; rfl, rfl⟩
  · have ht' : isT s = false := by simpa using ht
    have HV := Lib.hid (show poV t i o s = 0 ∧ poE t i o s = 1 by unfold poV poE poBad; simp [ht'])
    clear ht
    go_enter Tryd.func25, Tryd.ntmps25
    go_wp2_with (first | (go_at_call 31; refine (refCount_any _ _ _ t0 t1 i0 i1).mono ?_; rintro e w' ⟨rfl, rfl⟩) | (go_at_call 33; refine (refIsTerm_any _ _).mono ?_; rintro e w' ⟨rfl, rfl⟩))
    go_ret2
    exact ⟨by rw [HV.out.1, HV.out.2]; rfl, rfl⟩
set_option maxHeartbeats 1000000 in
theorem term_any (p i s : Int) (w : World) (p0 : -9223372036854775808 ≤ p) (p1 : p ≤ 9223372036854775807) (i0 : -2147483648 ≤ i) (i1 : i ≤ 2147483647) (s1 : s ≤ 9223372036854775807) (hT : TabOk w) :
    Calls Tryd.prog 26 #[.int .i64 p, .int .i32 i, .int .i64 s] w fun e w' => e = .returned (.tuple #[.int .i32 (teV p i s), .int .i64 (teE p s)]) ∧ w = w' := by
  have HT := Lib.hid hT
  clear hT
  by_cases hw : wiS p s = true
  · obtain ⟨ht, q0, q1⟩ := wiS_T hw
    have hb := isT_bd ht
    have hp := isP_of_isT ht
    obtain ⟨k, hk, hs⟩ := (isP_iff s).1 hp
    have HL := Lib.hid (lgS_pow k hk)
    rw [← hs] at HL
    have hL : lgS s = (k : Int) := HL.out
    obtain ⟨d0, d1⟩ := div_bd hw
    have HS := Lib.hid hs
    have HV := Lib.hid (show teV p i s = wrap32 (i + p / s) ∧ teE p s = 0 by unfold teV teE; simp [hw])
    clear hs q1
    go_enter Tryd.func26, Tryd.ntmps26
    go_wp2_with (first | (go_at_call 44; refine (within_any _ _ _ s1).mono ?_; rintro e w' ⟨rfl, rfl⟩) | (go_at_call 11; refine (log2_any _ _ s1 HT.out).mono ?_; rintro e w' ⟨rfl, rfl⟩))
    have E := Lib.hid (show wrap32 ((i + p / 2 ^ k) % 4294967296) = wrap32 (i + p / s) by rw [← HS.out]; unfold wrap32; omega)
    go_ret2
    exact ⟨by rw [HV.out.1, HV.out.2, ← E.out]; rfl, rfl⟩
  · have hw' : wiS p s = false := by simpa using hw
    have HV := Lib.hid (show teV p i s = 0 ∧ teE p s = 1 by unfold teV teE; simp [hw'])
    clear hw
    go_enter Tryd.func26, Tryd.ntmps26
    go_wp2_with (go_at_call 44; refine (within_any _ _ _ s1).mono ?_; rintro e w' ⟨rfl, rfl⟩)
    go_ret2
    exact ⟨by rw [HV.out.1, HV.out.2]; rfl, rfl⟩
set_option maxHeartbeats 1000000 in
theorem refTerm_any (p i s : Int) (w : World) (p0 : -9223372036854775808 ≤ p) (p1 : p ≤ 9223372036854775807) (s1 : s ≤ 9223372036854775807) (i0 : -2147483648 ≤ i) (i1 : i ≤ 2147483647) :
    Calls Tryd.prog 27 #[.int .i64 p, .int .i32 i, .int .i64 s] w fun e w' => e = .returned (.tuple #[.int .i32 (teV p i s), .int .i64 (teE p s)]) ∧ w = w' := by
  by_cases ht : isT s = true
  · have hb := isT_bd ht
    have HM := Lib.hid (mpS_T ht)
    have hm := mpS_T ht
    by_cases hw : wiS p s = true
    · obtain ⟨_, q0, q1⟩ := wiS_T hw
      obtain ⟨d0, d1⟩ := div_bd hw
      have HV := Lib.hid (show teV p i s = wrap32 (i + p / s) ∧ teE p s = 0 by unfold teV teE; simp [hw])
      by_cases hbig : 2147483648 ≤ i + p / s
      · have E := Lib.hid (show wrap32 (i + p / s) = i + p / s - 4294967296 by unfold wrap32; omega)
        go_enter Tryd.func27, Tryd.ntmps27
        go_wp2_with (first | (go_at_call 33; refine (refIsTerm_any _ _).mono ?_; rintro e w' ⟨rfl, rfl⟩) | (go_at_call 35; refine (refMaxPos_any _ _ s1).mono ?_; rintro e w' ⟨rfl, rfl⟩))
        go_ret2
        exact ⟨by rw [HV.out.1, HV.out.2, E.out]; rfl, rfl⟩
      · have E := Lib.hid (show wrap32 (i + p / s) = i + p / s by unfold wrap32; omega)
        go_enter Tryd.func27, Tryd.ntmps27
        go_wp2_with (first | (go_at_call 33; refine (refIsTerm_any _ _).mono ?_; rintro e w' ⟨rfl, rfl⟩) | (go_at_call 35; refine (refMaxPos_any _ _ s1).mono ?_; rintro e w' ⟨rfl, rfl⟩))
        go_ret2
        exact ⟨by rw [HV.out.1, HV.out.2, E.out]; rfl, rfl⟩
    · have hw' : wiS p s = false := by simpa using hw
      have HV := Lib.hid (show teV p i s = 0 ∧ teE p s = 1 by unfold teV teE; simp [hw'])
      rcases wiS_no ht hw' with q | q
      all_goals
        clear hw
        go_enter Tryd.func27, Tryd.ntmps27
        go_wp2_with (first | (go_at_call 33; refine (refIsTerm_any _ _).mono ?_; rintro e w' ⟨rfl, rfl⟩) | (go_at_call 35; refine (refMaxPos_any _ _ s1).mono ?_; rintro e w' ⟨rfl, rfl⟩))
        go_ret2
        exact ⟨by rw [HV.out.1, HV.out.2]; rfl, rfl⟩
  · have ht' : isT s = false := by simpa using ht
    have hw' : wiS p s = false := by
      by_cases hw : wiS p s = true
      · exact (ht (wiS_T hw).1).elim
      · simpa using hw
    have HV := Lib.hid (show teV p i s = 0 ∧ teE p s = 1 by unfold teV teE; simp [hw'])
    clear ht hw'
    go_enter Tryd.func27, Tryd.ntmps27
    go_wp2_with (first | (go_at_call 33; refine (refIsTerm_any _ _).mono ?_; rintro e w' ⟨rfl, rfl⟩) | (go_at_call 35; refine (refMaxPos_any _ _ s1).mono ?_; rintro e w' ⟨rfl, rfl⟩))
    go_ret2
    exact ⟨by rw [HV.out.1, HV.out.2]; rfl, rfl⟩
set_option maxHeartbeats 1000000 in
theorem refOffset_any (p s : Int) (w : World) (p0 : -9223372036854775808 ≤ p) (p1 : p ≤ 9223372036854775807) (s1 : s ≤ 9223372036854775807) :
    Calls Tryd.prog 29 #[.int .i64 p, .int .i64 s] w fun e w' => e = .returned (.tuple #[.int .i64 (ofV p s), .int .i64 (teE p s)]) ∧ w = w' := by
  by_cases ht : isT s = true
  · have hb := isT_bd ht
    have HM := Lib.hid (mpS_T ht)
    have hm := mpS_T ht
    by_cases hw : wiS p s = true
    · obtain ⟨_, q0, q1⟩ := wiS_T hw
      obtain ⟨d0, d1⟩ := div_bd hw
      have HV := Lib.hid (show ofV p s = p % s ∧ teE p s = 0 by unfold ofV teE; simp [hw])
      go_enter Tryd.func29, Tryd.ntmps29
      go_wp2_with (first | (go_at_call 33; refine (refIsTerm_any _ _).mono ?_; rintro e w' ⟨rfl, rfl⟩) | (go_at_call 35; refine (refMaxPos_any _ _ s1).mono ?_; rintro e w' ⟨rfl, rfl⟩))
      go_ret2
      exact ⟨by rw [HV.out.1, HV.out.2]; rfl, rfl⟩
    · have hw' : wiS p s = false := by simpa using hw
      have HV := Lib.hid (show ofV p s = 0 ∧ teE p s = 1 by unfold ofV teE; simp [hw'])
      rcases wiS_no ht hw' with q | q
      all_goals
        clear hw
        go_enter Tryd.func29, Tryd.ntmps29
        go_wp2_with (first | (go_at_call 33; refine (refIsTerm_any _ _).mono ?_; rintro e w' ⟨rfl, rfl⟩) | (go_at_call 35; refine (refMaxPos_any _ _ s1).mono ?_; rintro e w' ⟨rfl, rfl⟩))
        go_ret2
        exact ⟨by rw [HV.out.1, HV.out.2]; rfl, rfl⟩
  · have ht' : isT s = false := by simpa using ht
    have hw' : wiS p s = false := by
      by_cases hw : wiS p s = true
      · exact (ht (wiS_T hw).1).elim
      · simpa using hw
    have HV := Lib.hid (show ofV p s = 0 ∧ teE p s = 1 by unfold ofV teE; simp [hw'])
    clear ht hw'
    go_enter Tryd.func29, Tryd.ntmps29
    go_wp2_with (first | (go_at_call 33; refine (refIsTerm_any _ _).mono ?_; rintro e w' ⟨rfl, rfl⟩) | (go_at_call 35; refine (refMaxPos_any _ _ s1).mono ?_; rintro e w' ⟨rfl, rfl⟩))
    go_ret2
    exact ⟨by rw [HV.out.1, HV.out.2]; rfl, rfl⟩
set_option maxHeartbeats 1000000 in
theorem offset_any (p s : Int) (w : World) (s1 : s ≤ 9223372036854775807) :
    Calls Tryd.prog 28 #[.int .i64 p, .int .i64 s] w fun e w' => e = .returned (.tuple #[.int .i64 (ofV p s), .int .i64 (teE p s)]) ∧ w = w' := by
  by_cases hw : wiS p s = true
  · have hp := isP_of_isT (wiS_T hw).1
    have HV := Lib.hid (show ofV p s = p % s ∧ teE p s = 0 by unfold ofV teE; simp [hw])
    have HK := Lib.hid (show mkS p s = p % s by unfold mkS; rw [if_pos hp])
    go_enter Tryd.func28, Tryd.ntmps28
    go_wp2_with (first | (go_at_call 44; refine (within_any _ _ _ s1).mono ?_; rintro e w' ⟨rfl, rfl⟩) | (go_at_call 15; refine (mask_any _ _ _ s1).mono ?_; rintro e w' ⟨rfl, rfl⟩))
    go_ret2
    exact ⟨by rw [HV.out.1, HV.out.2, ← HK.out]; rfl, rfl⟩
  · have hw' : wiS p s = false := by simpa using hw
    have HV := Lib.hid (show ofV p s = 0 ∧ teE p s = 1 by unfold ofV teE; simp [hw'])
    clear hw
    go_enter Tryd.func28, Tryd.ntmps28
    go_wp2_with (go_at_call 44; refine (within_any _ _ _ s1).mono ?_; rintro e w' ⟨rfl, rfl⟩)
    go_ret2
    exact ⟨by rw [HV.out.1, HV.out.2]; rfl, rfl⟩
theorem part_any (c : Int) (w : World) (c0 : 0 ≤ c) (c1 : c ≤ 4294967295) :
    Calls Tryd.prog 36 #[.int .u32 c] w fun e w' => e = .returned (.int .i64 (c % 3)) ∧ w = w' := by
  go_enter Tryd.func36, Tryd.ntmps36
  go_wp2
  go_ret
  exact ⟨rfl, rfl⟩
theorem pack_or (t o : Int) (o0 : 0 ≤ o) (o1 : o ≤ 4294967295) : bits .or .u64 (t % 4294967296 * 4294967296) o = pkS t o := by
  unfold pkS
  have h : t % 4294967296 * 4294967296 % 2 ^ 32 = 0 := by omega
  have e := or_low o (t % 4294967296 * 4294967296) 32 o0 (by omega) (by omega) (by omega) h (by omega)
  rw [u64_or _ _ (by omega) (by omega) o0 (by omega)]
  rw [u64_or _ _ o0 (by omega) (by omega) (by omega), Nat.or_comm] at e
  rw [e]; omega
theorem pack_any (t o : Int) (w : World) (o0 : 0 ≤ o) (o1 : o ≤ 4294967295) :
    Calls Tryd.prog 39 #[.int .i32 t, .int .u32 o] w fun e w' => e = .returned (.int .u64 (pkS t o)) ∧ w = w' := by
  have H := Lib.hid (pack_or t o o0 o1)
  go_enter Tryd.func39, Tryd.ntmps39
  go_wp2
  go_ret
  exact ⟨ret_int (by rw [← H.out]), rfl⟩
theorem refPack_any (t o : Int) (w : World) (t0 : -2147483648 ≤ t) (t1 : t ≤ 2147483647) (o0 : 0 ≤ o) (o1 : o ≤ 4294967295) :
    Calls Tryd.prog 42 #[.int .i32 t, .int .u32 o] w fun e w' => e = .returned (.int .u64 (pkS t o)) ∧ w = w' := by
  by_cases h : t < 0
  all_goals
    go_enter Tryd.func42, Tryd.ntmps42
    go_wp2
    go_ret
    exact ⟨ret_int (by unfold pkS; omega), rfl⟩
theorem unpack_any (v : Int) (w : World) (v0 : 0 ≤ v) (v1 : v ≤ 18446744073709551615) :
    Calls Tryd.prog 40 #[.int .u64 v] w fun e w' => e = .returned (.tuple #[.int .i32 (hiS v), .int .u32 (v % 4294967296)]) ∧ w = w' := by
  have H := Lib.hid (show hiS v = wrap32 (v / 4294967296 % 4294967296) by unfold hiS wrap32; omega)
  go_enter Tryd.func40, Tryd.ntmps40
  go_wp2
  go_ret2
  exact ⟨by first | (rw [H.out]; rfl) | (unfold hiS; rfl), rfl⟩
theorem refUnpack_any (v : Int) (w : World) (v0 : 0 ≤ v) (v1 : v ≤ 18446744073709551615) :
    Calls Tryd.prog 41 #[.int .u64 v] w fun e w' => e = .returned (.tuple #[.int .i32 (hiS v), .int .u32 (v % 4294967296)]) ∧ w = w' := by
  by_cases h : 2147483648 ≤ v / 4294967296
  · have H := Lib.hid (show hiS v = v / 4294967296 - 4294967296 by unfold hiS wrap32; omega)
    go_enter Tryd.func41, Tryd.ntmps41
    go_wp2
    go_ret2
    exact ⟨by rw [H.out]; rfl, rfl⟩
  · have H := Lib.hid (show hiS v = v / 4294967296 by unfold hiS wrap32; omega)
    go_enter Tryd.func41, Tryd.ntmps41
    go_wp2
    go_ret2
    exact ⟨by rw [H.out]; rfl, rfl⟩
end Go.Proofs.YtmlmchgigepleaaDoor
