/- The fixed facts of layer 9's law; the law RingfixNil. Conditions: none. -/
import Derived.Test.YtggjhleomocojaaGreatUl
import Derived.Test.YtggjhleomocojaaGreatUr
import Derived.Lib.SlBytesConst
import Derived.Test.YtggjhleomocojaaGreatVs
import Derived.Test.YtggjhleomocojaaGreatDs
import Derived.Test.YtggjhleomocojaaGreatUh
import Derived.Test.YtggjhleomocojaaGreatUd
namespace Go.Proofs.YtggjhleomocojaaGreat
set_option maxRecDepth 100000
open Go.RowKit
set_option linter.unusedVariables false
set_option linter.unusedSimpArgs false
theorem own_full {w : World} {B E size n g : Nat} {xs : List Value} (h : w.ownsRow B E size (.slice (some ⟨g, 0, none⟩) n n) n xs) : Blk w g xs := by
 obtain ⟨h1, h2⟩ := h
 rcases h2 with ⟨e, _⟩ | ⟨g', cap, cur, e, _, hh, _, _, hs, ht⟩
 ·cases e
 ·cases e
  have : cur.toList = xs := by
   rw [← ht, List.take_of_length_le (by rw [Array.length_toList, hs]; exact Nat.le_refl _)]
  refine ⟨E, ?_⟩
  rw [hh, ← this]
end Go.Proofs.YtggjhleomocojaaGreat
