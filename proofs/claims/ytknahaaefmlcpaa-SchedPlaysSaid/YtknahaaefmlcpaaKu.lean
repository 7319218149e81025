/- law05.run: a copy that reads, on a buffer, to its end. Conditions: as it says. -/
import Derived.Test.YtknahaaefmlcpaaKr
namespace Go.Proofs.Ytknahaaefmlcpaa
set_option maxRecDepth 100000
open Go.RowKit
set_option linter.unusedVariables false
set_option linter.unusedSimpArgs false
theorem acE_rd {size : Nat} {a n : Nat} (h : a + n ≤ size) (hn : n ≤ 8) : acE size 5 a n 0 = 0 := by
  have hz : acSized 5 n 0 = true := by
    unfold acSized
    simp
    omega
  unfold acE
  rw [if_neg (by rw [hz]; decide), if_neg (by omega), if_neg (by omega)]
theorem take_more (l : List Int) (k n : Nat) : l.take k ++ (l.drop k).take n = l.take (k + n) := by
  rw [List.take_add]
end Go.Proofs.Ytknahaaefmlcpaa
