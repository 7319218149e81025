/- Contracts of the package word: TrailingZeros64 at a power, Log2, Mask, Bytes, Number, Chunks, and of the reference's. Conditions: the arguments are in their kinds' ranges; the table of math/bits holds what the text of the library lays. -/
import Derived.Test.YtmlmchgigepleaaDoorWa
namespace Go.Proofs.YtmlmchgigepleaaDoor
open Go.RowKit
set_option linter.unusedVariables false
/-- The table of math/bits. -/
def deB : List Int := [0, 1, 56, 2, 57, 49, 28, 3, 61, 58, 42, 50, 38, 29, 17, 4, 62, 47, 59, 36, 45, 43, 51, 22, 53, 39, 33, 30, 24, 18, 12, 5, 63, 55, 48, 27, 60, 41, 37, 16, 46, 35, 44, 21, 52, 32, 23, 11, 54, 26, 40, 15, 34, 20, 31, 10, 25, 14, 19, 9, 13, 8, 7, 6]
def TabOk (w : World) : Prop := ∀ i, i < 64 → w.cell? ⟨0, i, none⟩ = some (.int .u8 (gB deB i))
/-- Where the table is looked at. -/
def deI (x : Int) : Int := IntKind.u64.wrap (bits .and .u64 x (IntKind.u64.wrap (-x)) * 285870213051353865) / 288230376151711744
theorem deI_pow (k : Nat) (hk : k ≤ 62) : ∃ i : Nat, deI (2 ^ k) = i ∧ i < 64 ∧ gB deB i = k := by
  have h : (List.range 63).all (fun k => deI (2 ^ k) == ((deI (2 ^ k)).toNat : Int) && decide ((deI (2 ^ k)).toNat < 64) && gB deB (deI (2 ^ k)).toNat == (k : Int)) = true := by decide +kernel
  have := List.all_eq_true.1 h k (by simp; omega)
  simp only [Bool.and_eq_true, beq_iff_eq, decide_eq_true_eq] at this
  exact ⟨_, this.1.1, this.1.2, this.2⟩
set_option maxHeartbeats 1000000 in
theorem tz_pow (k : Nat) (hk : k ≤ 62) (x : Int) (hx : x = 2 ^ k) (w : World) (hT : TabOk w) :
    Calls Tryd.prog 43 #[.int .u64 x] w fun e w' => e = .returned (.int .i64 k) ∧ w = w' := by
  have hp := pow62 k hk
  rw [← hx] at hp
  have HX := Lib.hid hx
  obtain ⟨j, hj, hj2, hj3⟩ := deI_pow k hk
  rw [← hx] at hj
  unfold deI at hj
  have hc := hT j hj2
  have HI := Lib.hid hj3
  clear hT hx hj3
  have h0 : (x == 0) = false := by simp; omega
  go_enter Tryd.func43, Tryd.ntmps43
  go_wp2
  go_ret
  exact ⟨ret_int (by rw [HI.out]; unfold wrap64; omega), rfl⟩
/-- word.Log2 -/
theorem log2_any (n : Int) (w : World) (h1 : n ≤ 9223372036854775807) (hT : TabOk w) :
    Calls Tryd.prog 11 #[.int .i64 n] w fun e w' => e = .returned (.tuple #[.int .i64 (lgS n), .bool (isP n)]) ∧ w = w' := by
  by_cases hp : isP n = true
  · obtain ⟨k, hk, hn⟩ := (isP_iff n).1 hp
    have hb := pow62 k hk
    rw [← hn] at hb
    have HL := Lib.hid (lgS_pow k hk)
    rw [← hn] at HL
    have HN := Lib.hid hn
    have HT := Lib.hid hT
    clear hn hT
    go_enter Tryd.func11, Tryd.ntmps11
    go_wp2_with (first
      | (go_at_call 13; refine (isPower_any _ _ h1).mono ?_; rintro e w' ⟨rfl, rfl⟩)
      | (go_at_call 43; refine (tz_pow k hk _ HN.out _ HT.out).mono ?_; rintro e w' ⟨rfl, rfl⟩))
    go_ret2
    exact ⟨by rw [HL.out, hp]; rfl, rfl⟩
  · have hp' : isP n = false := by simpa using hp
    have HL := Lib.hid (show lgS n = 0 by unfold lgS; rw [if_neg hp])
    clear hp
    go_enter Tryd.func11, Tryd.ntmps11
    go_wp2_with (go_at_call 13; refine (isPower_any _ _ h1).mono ?_; rintro e w' ⟨rfl, rfl⟩)
    go_ret2
    exact ⟨by rw [HL.out, hp']; rfl, rfl⟩
/-- What is left of a number. -/
def mkS (n to : Int) : Int := if isP to = true then n % to else 0
/-- word.Mask -/
theorem mask_any (n to : Int) (w : World) (ht : to ≤ 9223372036854775807) :
    Calls Tryd.prog 15 #[.int .i64 n, .int .i64 to] w fun e w' => e = .returned (.int .i64 (mkS n to)) ∧ w = w' := by
  by_cases hp : isP to = true
  · obtain ⟨k, hk, hn⟩ := (isP_iff to).1 hp
    have hb := pow62 k hk
    have HB := Lib.hid (bits_mask n k hk)
    have HM := Lib.hid (show mkS n to = n % to by unfold mkS; rw [if_pos hp])
    rw [← hn] at hb HB
    clear hn
    go_enter Tryd.func15, Tryd.ntmps15
    go_wp2_with (go_at_call 13; refine (isPower_any _ _ ht).mono ?_; rintro e w' ⟨rfl, rfl⟩)
    go_ret
    exact ⟨ret_int (by rw [HM.out, ← HB.out]), rfl⟩
  · have hp' : isP to = false := by simpa using hp
    have HM := Lib.hid (show mkS n to = 0 by unfold mkS; rw [if_neg hp])
    clear hp
    go_enter Tryd.func15, Tryd.ntmps15
    go_wp2_with (go_at_call 13; refine (isPower_any _ _ ht).mono ?_; rintro e w' ⟨rfl, rfl⟩)
    go_ret
    exact ⟨ret_int (by rw [HM.out]), rfl⟩
theorem tmod_pos (n to : Int) (h : 1 ≤ to) : (if n.tmod to < 0 then n.tmod to + to else n.tmod to) = n % to := by
  have h1 := Int.emod_nonneg n (show to ≠ 0 by omega)
  have h2 := Int.emod_lt_of_pos n (show 0 < to by omega)
  have h3 := Int.tmod_eq_emod (a := n) (b := to)
  rw [h3]
  have e : (to.natAbs : Int) = to := by omega
  split <;> split at * <;> (try rw [e] at *) <;> omega
/-- ref01.Mask -/
theorem refMask_any (n to : Int) (w : World) (hn0 : -9223372036854775808 ≤ n) (hn : n ≤ 9223372036854775807) (ht : to ≤ 9223372036854775807) :
    Calls Tryd.prog 16 #[.int .i64 n, .int .i64 to] w fun e w' => e = .returned (.int .i64 (mkS n to)) ∧ w = w' := by
  by_cases hp : isP to = true
  · obtain ⟨k, hk, hk2⟩ := (isP_iff to).1 hp
    have hb := pow62 k hk
    have HM := Lib.hid (show mkS n to = n % to by unfold mkS; rw [if_pos hp])
    rw [← hk2] at hb
    have HT := Lib.hid (tmod_pos n to hb.1)
    have h5 := Int.tmod_lt_of_pos n (show 0 < to by omega)
    have h6 : -to < n.tmod to := by have := Int.lt_tmod_of_pos n (show 0 < to by omega); omega
    clear hk2
    by_cases hneg : n.tmod to < 0
    all_goals
      go_enter Tryd.func16, Tryd.ntmps16
      go_wp2_with (go_at_call 14; refine (refIsPower_any _ _).mono ?_; rintro e w' ⟨rfl, rfl⟩)
      go_ret
      exact ⟨ret_int (by rw [HM.out, ← HT.out]; split <;> omega), rfl⟩
  · have hp' : isP to = false := by simpa using hp
    have HM := Lib.hid (show mkS n to = 0 by unfold mkS; rw [if_neg hp])
    clear hp
    go_enter Tryd.func16, Tryd.ntmps16
    go_wp2_with (go_at_call 14; refine (refIsPower_any _ _).mono ?_; rintro e w' ⟨rfl, rfl⟩)
    go_ret
    exact ⟨ret_int (by rw [HM.out]), rfl⟩
/-- The row after k rounds. -/
def mkB (x : Int) (n k : Nat) : List Int := leB x k ++ List.replicate (n - k) 0
theorem mkB_start (x : Int) (n : Nat) : (mkB x n 0).map (Value.int .u8) = (madeCells #[Value.int .u8 0] n).toList := by
  simp only [mkB, leB, madeCells, Nat.sub_zero, List.nil_append, List.map_replicate]
  apply List.ext_getElem
  · simp
  · intro i h1 h2
    simp [Nat.mod_one]
theorem mkB_end (x : Int) (n : Nat) : mkB x n n = leB x n := by simp [mkB]
theorem mkB_cell (x : Int) (n k : Nat) (h : k < n) : ((mkB x n k).map (Value.int .u8))[k]? = some (.int .u8 0) := by
  simp [mkB, leB_length, Nat.sub_pos_of_lt h]
theorem mkB_set (x : Int) (n k : Nat) (h : k < n) : ((mkB x n k).map (Value.int .u8)).set k (.int .u8 (x / 256 ^ k % 256)) = (mkB x n (k + 1)).map (Value.int .u8) := by
  obtain ⟨m, hm⟩ : ∃ m, n - k = m + 1 := ⟨n - k - 1, by omega⟩
  unfold mkB
  rw [leB_snoc, hm, show n - (k + 1) = m from by omega]
  simp [leB_length, List.replicate_succ]
theorem pow_8 (k : Nat) : (2 : Int) ^ (8 * k) = 256 ^ k := by rw [Int.pow_mul]; rfl
theorem wBytes_out (x n : Int) (w : World) (h : n < 0 ∨ 8 < n) :
    Calls Tryd.prog 19 #[.int .u64 x, .int .i64 n] w fun e w' => e = .returned (.slice none 0 0) ∧ w = w' := by
  by_cases h1 : n < 0
  all_goals
    go_enter Tryd.func19, Tryd.ntmps19
    go_wp2
    go_ret
    exact ⟨rfl, rfl⟩
set_option maxHeartbeats 1000000 in
/-- word.Bytes -/
theorem wBytes_any (x : Int) (n : Nat) (w : World) (h0 : 0 ≤ x) (h1 : x ≤ 18446744073709551615) (hn : n ≤ 8) :
    Calls Tryd.prog 19 #[.int .u64 x, .int .i64 n] w fun e w' => ∃ v, e = .returned v ∧ OwB 5 w.heap.size w' v (leB x n) ∧ Below w.heap.size w w' := by
  obtain ⟨i0, hi, hz0, hz1, hz2⟩ := info_parts u8info
  go_enter Tryd.func19, Tryd.ntmps19
  go_wp2_with (refine wpList_make_full _ rfl _ _ 32 rfl w.heap.size 5 i0 (.int .u8 0) 1 Tryd.underlying32 hi hz0 hz1 _ _ _ _ n rfl rfl rfl rfl ?c1 ?c2 ?c3 ?_)
  case c1 => rw [hz2]; omega
  case c2 => unfold maxLen; omega
  case c3 => exact Nat.le_refl _
  intro w1 own1 hg1
  have own0 : w1.ownsRow w.heap.size 5 1 (.slice (some ⟨w.heap.size, 0, none⟩) n n) n ((mkB x n 0).map (Value.int .u8)) := by
    rw [mkB_start]; exact own1
  have hb1 : Below w.heap.size w w1 := (Below.refl _ _).grown hg1 (Nat.le_refl _) (fun k hk => by cases hk)
  clear own1 hg1
  go_wp2_with fail
  go_loopw [6, 16] (fun j i wr => ∃ k : Nat, k ≤ n ∧ i = .int .i64 k ∧ wr.ownsRow w.heap.size 5 1 (.slice (some ⟨w.heap.size, 0, none⟩) n n) n ((mkB x n k).map (Value.int .u8)) ∧ Below w.heap.size w wr) (fun _ i _ => n - (intOf i).toNat)
  case atStart => exact ⟨0, by omega, rfl, own0, hb1⟩
  case round =>
    obtain ⟨k, hk, rfl, hown, hbel⟩ := hrel
    by_cases hlt : k < n
    · have hc := hown.cellAt k (by omega)
      have hf := hown.frozenAt k
      rw [mkB_cell x n k hlt] at hc
      go_wp2
      have hst := hown.stored k (.int .u8 (x / 2 ^ (8 * k) % 256))
      refine ⟨⟨k + 1, by omega, by go_num, ?_, hbel.setCell (Nat.le_refl _) _⟩, by simp [intOf]; omega⟩
      have e := hst.1
      rw [pow_8 k, mkB_set x n k hlt] at e
      rw [pow_8 k]
      exact e
    · go_wp2
      go_ret
      obtain rfl : k = n := by omega
      rw [mkB_end] at hown
      refine ⟨_, rfl, ?_, hbel⟩
      unfold OwB
      rw [leB_length]
      exact hown
theorem wBytes_all (x n : Int) (w : World) (h0 : 0 ≤ x) (h1 : x ≤ 18446744073709551615) :
    Calls Tryd.prog 19 #[.int .u64 x, .int .i64 n] w fun e w' => ∃ v, e = .returned v ∧ OwB 5 w.heap.size w' v (byS x n) ∧ Below w.heap.size w w' := by
  unfold byS
  by_cases h : 0 ≤ n ∧ n ≤ 8
  · rw [if_pos h]
    obtain ⟨m, rfl⟩ := Int.eq_ofNat_of_zero_le h.1
    exact wBytes_any x m w h0 h1 (by omega)
  · rw [if_neg h]
    refine (wBytes_out x n w (by omega)).mono ?_
    rintro e w' ⟨rfl, rfl⟩
    exact ⟨_, rfl, OwB.nil _ _ _, Below.refl _ _⟩
set_option maxHeartbeats 1000000 in
/-- word.Number -/
theorem wNumber_any (v : Value) (l : List Int) (w : World) (h : RdB w v l) (hb : IsB l) :
    Calls Tryd.prog 21 #[v] w fun e w' => e = .returned (.int .u64 (leN (l.take 8))) ∧ w = w' := by
  rcases h with ⟨rfl, rfl⟩ | ⟨a, cap, rfl, rfl, hm⟩ | ⟨b, off, cap, rfl, hc, hm, hcell⟩
  · go_enter Tryd.func21, Tryd.ntmps21
    go_wp2
    refine wp_loop_rounds 1 ?_; rw [rounds_succ]
    go_wp2
    go_ret
    exact ⟨rfl, rfl⟩
  · go_enter Tryd.func21, Tryd.ntmps21
    go_wp2
    refine wp_loop_rounds 1 ?_; rw [rounds_succ]
    go_wp2
    go_ret
    exact ⟨rfl, rfl⟩
  · unfold maxLen at hm
    have HC := Lib.hid hcell
    clear hcell
    by_cases h8 : 8 < (l.length : Int)
    all_goals
      obtain ⟨m, hm8, hml, HM⟩ : ∃ m : Nat, m ≤ 8 ∧ m ≤ l.length ∧ Hid (l.take m = l.take 8 ∧ ((m : Int) = min (l.length : Int) 8)) := by
        by_cases h8 : 8 ≤ l.length
        · exact ⟨8, by omega, h8, rfl, by omega⟩
        · exact ⟨l.length, by omega, by omega, by rw [List.take_of_length_le (by omega), List.take_of_length_le (by omega)], by omega⟩
      go_enter Tryd.func21, Tryd.ntmps21
      go_wp2
      go_loop [3, 12] (fun v i => ∃ k : Nat, k ≤ m ∧ i = .int .i64 k ∧ v = .int .u64 (leN (l.take k))) (fun _ i => m - (intOf i).toNat)
      case atStart => exact ⟨0, by omega, rfl, by simp [leN]⟩
      case round =>
        obtain ⟨k, hk, rfl, rfl⟩ := hrel
        have hmm := HM.out.2
        by_cases hlt : k < m
        · have hg := hb.getD k
          have hcj := HC.out k (by omega)
          clear hmm
          have HS := Lib.hid (num_step l hb k (by omega) (by omega))
          go_wp2
          exact ⟨⟨k + 1, by omega, by go_num, int_eq HS.out⟩, by simp [intOf]; omega⟩
        · have hkm : k = m := by omega
          have hge : 8 ≤ m ∨ l.length ≤ m := by omega
          first
            | (have hge8 : 8 ≤ m := by omega)
            | (have hgel : l.length ≤ m := by omega)
          subst hkm
          clear hmm hge
          go_wp2
          go_ret
          exact ⟨ret_int (by rw [HM.out.1]), rfl⟩
end Go.Proofs.YtmlmchgigepleaaDoor
