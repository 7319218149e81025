/- Contracts of the reference's and the program's words: Bytes, Number. Conditions: the arguments are in their kinds' ranges. -/
import Derived.Test.YtknahaaefmlcpaaGreatProg
import Derived.Test.YtknahaaefmlcpaaGreatPl
import Derived.Handy
import Derived.Outline
import Derived.Deep.QuietTactic
import Derived.BigQuiet
import Derived.Deep.RegionWith
namespace Go.Proofs.YtknahaaefmlcpaaGreat
set_option maxRecDepth 100000
open Go.RowKit
set_option linter.unusedVariables false
theorem u8info : (Tryz.prog.info? 5).map (fun i => (i.zero, i.size, i.bytes)) = some (some (.int .u8 0), 1, 1) := by kernel_rfl
set_option maxHeartbeats 1000000 in
theorem refNumber_any (v : Value) (l : List Int) (w : World) (h : RdB w v l) (hb : IsB l) :
  Calls Tryz.prog 68 #[v] w fun e w' => e = .returned (.int .u64 (leN (l.take 8))) ∧ w = w' := by
 rcases h with ⟨rfl, rfl⟩ | ⟨a, cap, rfl, rfl, hm⟩ | ⟨b, off, cap, rfl, hc, hm, hcell⟩
 ·go_enter Tryz.func68, Tryz.ntmps68
  go_wp2
  refine wp_loop_rounds 1 ?_; rw [rounds_succ]
  go_wp2
  go_ret
  exact ⟨rfl, rfl⟩
 ·go_enter Tryz.func68, Tryz.ntmps68
  go_wp2
  refine wp_loop_rounds 1 ?_; rw [rounds_succ]
  go_wp2
  go_ret
  exact ⟨rfl, rfl⟩
 ·unfold maxLen at hm
  have HC := Lib.hid hcell
  clear hcell
  by_cases h8 : 8 < (l.length : Int)
  all_goals
   obtain ⟨m, hm8, hml, HM⟩ : ∃ m : Nat, m ≤ 8 ∧ m ≤ l.length ∧ Hid (l.take m = l.take 8 ∧ ((m : Int) = min (l.length : Int) 8)) := by
    by_cases h8 : 8 ≤ l.length
    ·exact ⟨8, by omega, h8, rfl, by omega⟩
    ·exact ⟨l.length, by omega, by omega, by rw [List.take_of_length_le (by omega), List.take_of_length_le (by omega)], by omega⟩
   go_enter Tryz.func68, Tryz.ntmps68
   go_wp2
   go_loop [3, 4] (fun v i => ∃ k : Nat, k ≤ m ∧ i = .int .i64 ((k : Int) - 1) ∧ v = .int .u64 (leN ((l.take m).drop k))) (fun _ i => ((intOf i) + 1).toNat)
   case atStart =>
    have := HM.out.2
    exact ⟨m, by omega, by congr 1; omega, by rw [List.drop_of_length_le (by simp; omega)]; rfl⟩
   case round =>
    obtain ⟨k, hk, rfl, rfl⟩ := hrel
    by_cases hk0 : k = 0
    ·subst hk0
     go_wp2
     go_ret
     exact ⟨ret_int (by simp [HM.out.1]), rfl⟩
    ·obtain ⟨j, rfl⟩ : ∃ j, k = j + 1 := ⟨k - 1, by omega⟩
     have hp := leN_part hb m j hm8
     have hg := hb.getD j
     have hcj := HC.out j (by omega)
     have HS := Lib.hid (leN_take_drop l m j (by omega) hml)
     go_wp2
     go_round
     case rel => exact ⟨j, by omega, by go_num, by rw [HS.out]⟩
     case measure => simp [intOf]
theorem shrB_bd {x : Int} (h0 : 0 ≤ x) (h1 : x ≤ 18446744073709551615) (k : Nat) : 0 ≤ x / p256 k ∧ x / p256 k ≤ 18446744073709551615 := by
 have hp : (0 : Int) < p256 k := Int.pow_pos (by decide)
 have := Int.ediv_nonneg h0 (Int.le_of_lt hp)
 have := Int.ediv_le_self (p256 k) h0
 omega
theorem shrB_succ (x : Int) (k : Nat) : x / p256 k / 256 = x / p256 (k + 1) := by
 unfold p256
 rw [Int.pow_succ, Int.ediv_ediv_of_nonneg (Int.le_of_lt (Int.pow_pos (by decide)))]
theorem refBytes_out (x n : Int) (w : World) (h : n < 0 ∨ 8 < n) :
  Calls Tryz.prog 69 #[.int .u64 x, .int .i64 n] w fun e w' => e = .returned (.slice none 0 0) ∧ w = w' := by
 by_cases h1 : n < 0
 all_goals
  go_enter Tryz.func69, Tryz.ntmps69
  go_wp2
  go_ret
  exact ⟨rfl, rfl⟩
theorem relB_step {E B k : Nat} {x : Int} {w wr w1 : World} {v v' : Value} {o : Obj} (hown : wr.ownsRow B E 1 v k ((leB x k).map (Value.int .u8)))
  (hown' : w1.ownsRow B E 1 v' (k + 1) ((leB x k).map (Value.int .u8) ++ [.int .u8 (x / p256 k % 256)])) (hg : (wr.alloc o).grownBy w1 v.ownBlock) (hb : Below B w wr) (hB : B ≤ wr.heap.size) :
  OwB E B w1 v' (leB x (k + 1)) ∧ Below B w w1 := by
 refine ⟨?_, (hb.alloc hB o).grown hg (by simp; omega) fun i hi => (hown.lt i hi).1⟩
 unfold OwB
 rw [leB_length, leB_snoc]
 simpa [p256] using hown'
set_option maxHeartbeats 1000000 in
theorem refBytes_any (x : Int) (n : Nat) (w : World) (h0 : 0 ≤ x) (h1 : x ≤ 18446744073709551615) (hn : n ≤ 8) :
  Calls Tryz.prog 69 #[.int .u64 x, .int .i64 n] w fun e w' => ∃ v, e = .returned v ∧ OwB 5 w.heap.size w' v (leB x n) ∧ Below w.heap.size w w' := by
 obtain ⟨i0, hi, hz0, hz1, hz2⟩ := info_parts u8info
 go_enter Tryz.func69, Tryz.ntmps69
 go_wp2
 go_loopw [0, 5, 6] (fun y v i wr => ∃ k : Nat, k ≤ n ∧ i = .int .i64 k ∧ y = .int .u64 (x / p256 k) ∧ OwB 5 w.heap.size wr v (leB x k) ∧ Below w.heap.size w wr) (fun _ _ i _ => n - (intOf i).toNat)
 case atStart => exact ⟨0, by omega, rfl, by simp [p256], OwB.nil _ _ _, Below.refl _ _⟩
 case round =>
  obtain ⟨k, hk, rfl, rfl, hown, hbel⟩ := hrel
  have hbd := shrB_bd h0 h1 k
  have HS := Lib.hid (shrB_succ x k)
  by_cases hlt : k < n
  ·have hsz := hbel.size
   unfold OwB at hown
   rw [leB_length] at hown
   go_wp2_with (at_builtin; refine wpList_append_own _ rfl _ _ 22 rfl w.heap.size 5 i0 (.int .u8 0) 1 1 Tryz.underlying22 hi hz0 hz1 hz2 rfl (by decide) _ _ _ rfl (hown.alloc _) ⟨wr.heap.size, 0, none⟩ 1 1 [.int .u8 (x / p256 k % 256)] rfl rfl ?c1 ?c2 ?c3 ?c4 ?c5 ?_)
   case c1 => exact cell_one_new _ _ _
   case c2 => simp [Value.oneCell']
   case c3 => unfold maxLen; omega
   case c4 => omega
   case c5 => simp; omega
   intro v' w1 hown' hgrow _
   have hrel := relB_step hown hown' hgrow hbel hsz
   clear hown hown' hgrow hbel
   go_wp2
   go_roundw
   case rel => exact ⟨k + 1, by omega, by go_num, by rw [HS.out], hrel.1, hrel.2⟩
   case measure => simp [intOf]; omega
  ·go_wp2
   go_ret
   obtain rfl : k = n := by omega
   exact ⟨_, rfl, hown, hbel⟩
theorem conv_rd {w : World} {v : Value} {l : List Int} (src dst : TypeId) (hs : Tryz.prog.underlying src = some (.slice 5)) (hd : Tryz.prog.underlying dst = some .string) (h : RdB w v l) :
  (convert src dst v).run Tryz.prog w = .ok (.string (strOfNums l)) w := by
 rcases h with ⟨rfl, rfl⟩ | ⟨a, cap, rfl, rfl, hm⟩ | ⟨b, off, cap, rfl, hc, hm, hcell⟩
 ·exact run_convert_bytes_nil w src _ hs Tryz.underlying5 0 0 dst hd
 ·rw [run_convert_bytes_string w src dst _ _ 0 cap hs Tryz.underlying5 hd]
  have hl : (loadCells a 0).run Tryz.prog w = .ok #[] w := by
   have := run_loadCells_list (P := Tryz.prog) w a [] (fun j v hj => by simp at hj)
   simpa using this
  simp [Conv.bytesToString, hl, Result.andThen]
  rfl
 ·exact run_convert_bytes_arg w src _ hs Tryz.underlying5 b off l.length cap l rfl (fun i hi => hcell i hi) dst hd
end Go.Proofs.YtknahaaefmlcpaaGreat
