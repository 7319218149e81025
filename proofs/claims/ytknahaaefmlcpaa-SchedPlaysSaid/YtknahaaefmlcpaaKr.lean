/- law05.run: a copy that writes, on a buffer, to its end. Conditions: as it says. -/
import Derived.Test.YtknahaaefmlcpaaKq
import Derived.Test.YtknahaaefmlcpaaBm
import Derived.Test.YtknahaaefmlcpaaBf
namespace Go.Proofs.Ytknahaaefmlcpaa
set_option maxRecDepth 100000
open Go.RowKit
set_option linter.unusedVariables false
set_option linter.unusedSimpArgs false
theorem acE_wr {size : Nat} {a n : Nat} (h : a + n ≤ size) (hn : n ≤ 8) : acE size 6 a n n = 0 := by
  have hz : acSized 6 n n = true := by
    unfold acSized
    simp
    omega
  unfold acE
  rw [if_neg (by rw [hz]; decide), if_neg (by omega), if_neg (by omega)]
theorem spl_more (bs l : List Int) (a k n : Nat) (hk : k + n ≤ l.length) (h : a + l.length ≤ bs.length) : spl (spl bs a (l.take k)) (a + k) ((l.drop k).take n) = spl bs a (l.take (k + n)) := by
  have l1 : (l.take k).length = k := by simp; omega
  have l2 : (l.take (k + n)).length = k + n := by simp; omega
  have l3 : ((l.drop k).take n).length = n := by simp; omega
  have s1 := spl_len bs a (l.take k) (by omega)
  have s2 := spl_len bs a (l.take (k + n)) (by omega)
  have s3 := spl_len (spl bs a (l.take k)) (a + k) ((l.drop k).take n) (by omega)
  apply List.ext_getElem (by omega)
  intro i h1 h2
  have g : gB (spl (spl bs a (l.take k)) (a + k) ((l.drop k).take n)) i = gB (spl bs a (l.take (k + n))) i := by
    by_cases c1 : i < a
    · rw [spl_lt _ _ _ (by omega) _ (by omega), spl_lt _ _ _ (by omega) _ c1, spl_lt _ _ _ (by omega) _ c1]
    · by_cases c2 : i < a + k
      · rw [spl_lt _ _ _ (by omega) _ c2, spl_in _ _ _ (by omega) _ (by omega) (by omega), spl_in _ _ _ (by omega) _ (by omega) (by omega), gB_take _ _ _ (by omega), gB_take _ _ _ (by omega)]
      · by_cases c3 : i < a + k + n
        · rw [spl_in _ _ _ (by omega) _ (by omega) (by omega), spl_in _ _ _ (by omega) _ (by omega) (by omega), gB_take _ _ _ (by omega), gB_take _ _ _ (by omega)]
          simp [gB, List.getD]
          rw [show k + (i - (a + k)) = i - a by omega]
        · rw [spl_ge _ _ _ (by omega) _ (by omega), spl_ge _ _ _ (by omega) _ (by omega), spl_ge _ _ _ (by omega) _ (by omega)]
  have e1 := gB_get _ _ h1
  have e2 := gB_get _ _ h2
  rw [← e1, ← e2]
  exact g
-- RUN
end Go.Proofs.Ytknahaaefmlcpaa
