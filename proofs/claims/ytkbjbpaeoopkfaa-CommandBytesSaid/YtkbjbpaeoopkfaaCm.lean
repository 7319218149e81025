/- Contracts of command.Message, of the reference's Bytes (34), of command.Parse. Conditions: the arguments are in their kinds' ranges. -/
import Derived.Test.YtkbjbpaeoopkfaaCb
import Derived.Laws.ResultCell
import Derived.Laws.EntriesVeiled
namespace Go.Proofs.Ytkbjbpaeoopkfaa
set_option maxRecDepth 100000
open Go.RowKit
set_option linter.unusedVariables false
theorem leB_mod (v : Int) (n : Nat) : leB (v % 256 ^ n) n = leB v n := by
  induction n generalizing v with
  | zero => rfl
  | succ n ih =>
    have hp : (0 : Int) < 256 ^ n := Int.pow_pos (by decide)
    simp only [leB, Int.pow_succ]
    have e1 : v % (256 ^ n * 256) % 256 = v % 256 := Int.emod_emod_of_dvd v ⟨256 ^ n, by rw [Int.mul_comm]⟩
    have e2 : v % (256 ^ n * 256) / 256 = v / 256 % 256 ^ n := by
      rw [Int.mul_comm (256 ^ n) 256]
      generalize (256 : Int) ^ n = p at *
      have h1 := Int.emod_add_mul_ediv v (256 * p)
      have h2 := Int.emod_add_mul_ediv (v / 256) p
      have h3 : v / (256 * p) = v / 256 / p := by rw [Int.ediv_ediv_of_nonneg (by decide)]
      have h4 := Int.emod_nonneg (v / 256) (Int.ne_of_gt hp)
      have h5 := Int.emod_add_mul_ediv v 256
      rw [h3, Int.mul_assoc] at h1
      generalize v / 256 / p = q at *
      generalize v / 256 = r at *
      generalize p * q = s at *
      omega
    rw [e1, e2, ih]
theorem leB_32 (x : Int) : leB (x % 18446744073709551616) 4 = leB (x % 4294967296) 4 := by
  rw [← leB_mod (x % 18446744073709551616) 4, ← leB_mod (x % 4294967296) 4]
  have e : (256 : Int) ^ 4 = 4294967296 := by decide
  rw [e]
  congr 1
  omega
theorem OwB.isSlice {B : Nat} {w : World} {v : Value} {l : List Int} (h : OwB 5 B w v l) : ∃ a n c, v = .slice a n c := by
  rcases h.2 with ⟨rfl, _⟩ | ⟨g, cap, cur, rfl, _⟩
  · exact ⟨_, _, _, rfl⟩
  · exact ⟨_, _, _, rfl⟩
def coKd (k st se er co cl : Int) : Int := if coOk k st se er co cl = true then k else 0
theorem store2 {w : World} {v : Value} {l : List Int} {B b : Nat} {x y : Value} (h : OwB 5 B w v l) (hb : b < B) : OwB 5 B ((w.setCell ⟨b, 0, none⟩ x).setCell ⟨b, 1, none⟩ y) v l :=
  ownsRow_setCell_below (ownsRow_setCell_below h (by simpa using hb) _) (by simpa using hb) _
set_option maxHeartbeats 4000000 in
/-- command.Message -/
theorem coMessage_any (k st se er co cl : Int) (w : World) :
    Calls Try.prog 21 #[.agg #[.int .i32 k, .int .i32 st, .int .i32 se, .int .i32 er, .int .i64 co, .int .i64 cl]] w fun e w' => ∃ v, e = .returned (.tuple #[.agg #[.int .i32 (coKd k st se er co cl), v], .int .i64 (coE k st se er co cl)]) ∧ OwB 5 w.heap.size w' v (coB k st se er co cl) ∧ Below w.heap.size w w' := by
  by_cases hok : coOk k st se er co cl = false
  · have HV := Lib.hid (coE_no hok)
    have HL := Lib.hid (show coB k st se er co cl = [] by unfold coB; rw [hok]; rfl)
    have HK := Lib.hid (show coKd k st se er co cl = 0 by unfold coKd; rw [hok]; rfl)
    clear hok
    go_enter Try.func21, Try.ntmps21
    go_wp2_with fail
    refine (coBytes_any k st se er co cl _).mono ?_
    rintro e w1 ⟨v, rfl, o1, b1⟩
    have z1 := b1.size
    simp at z1
    rw [HV.out]
    have e1 := b1.cell (p := ⟨w.heap.size + 1, 0, none⟩) (by simp)
    have e2 := b1.cell (p := ⟨w.heap.size + 1, 1, none⟩) (by simp)
    have f1 := b1.frozen (p := ⟨w.heap.size + 1, 0, none⟩) (by simp)
    have f2 := b1.frozen (p := ⟨w.heap.size + 1, 1, none⟩) (by simp)
    go_wp2
    refine bodyPost_ret (v := .tuple #[.agg #[.int .i32 0, .slice none 0 0], .int .i64 8]) ?_ rfl ⟨.slice none 0 0, by rw [HV.out, HK.out], by rw [HL.out]; exact OwB.nil _ _ _, ?_⟩
    · rw [results_cell_tmp rfl]
      go_simp
    · refine Below.setCell (Below.setCell ?_ ?_ _) ?_ _
      · exact (((Below.refl w.heap.size w).alloc (Nat.le_refl _) _).alloc (by simp) _).trans (b1.mono (by simp; omega))
      · simp
      · simp
  have hok' : coOk k st se er co cl = true := by simpa using hok
  have HV := Lib.hid (coE_ok hok')
  have HK := Lib.hid (show coKd k st se er co cl = k by unfold coKd; rw [if_pos hok'])
  clear hok hok'
  go_enter Try.func21, Try.ntmps21
  go_wp2_with fail
  refine (coBytes_any k st se er co cl _).mono ?_
  rintro e w1 ⟨v, rfl, o1, b1⟩
  obtain ⟨va, vn, vc, rfl⟩ := o1.isSlice
  have z1 := b1.size
  simp at z1
  rw [HV.out]
  have e1 := b1.cell (p := ⟨w.heap.size + 1, 0, none⟩) (by simp)
  have e2 := b1.cell (p := ⟨w.heap.size + 1, 1, none⟩) (by simp)
  have e3 := b1.cell (p := ⟨w.heap.size, 0, none⟩) (by simp; omega)
  have f1 := b1.frozen (p := ⟨w.heap.size + 1, 0, none⟩) (by simp)
  have f2 := b1.frozen (p := ⟨w.heap.size + 1, 1, none⟩) (by simp)
  go_wp2
  refine bodyPost_ret (v := .tuple #[.agg #[.int .i32 k, .slice va vn vc], .int .i64 0]) ?_ rfl ⟨.slice va vn vc, by rw [HV.out, HK.out], ?_, ?_⟩
  · rw [results_cell_tmp rfl]
    go_simp
  · exact OwB.mono (store2 o1 (by simp)) (by simp; omega)
  · refine Below.setCell (Below.setCell ?_ ?_ _) ?_ _
    · exact (((Below.refl w.heap.size w).alloc (Nat.le_refl _) _).alloc (by simp) _).trans (b1.mono (by simp; omega))
    · simp
    · simp
end Go.Proofs.Ytkbjbpaeoopkfaa
