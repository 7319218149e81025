/- A ring on which nobody puts any more is fixed. No program in sight. Conditions: none. -/
import Derived.Test.YtggjhleomocojaaGreatVn
namespace Go.Proofs.YtggjhleomocojaaGreat
open Go.RowKit
set_option linter.unusedVariables false
def nfin (A : List (Slot × Nat)) : Nat := (A.filter fun x => !x.1.fin).length
structure Padded (A A' : List (Slot × Nat)) (k : Nat) : Prop where
 tk : A'.take k = A.take k
 ms : mso 0 A' = mso 0 A
 mg : msgs A' = msgs A
 ln : ln A' = ln A
 la : ∀ x, A.getLast? = some x → x.1.fin = true → A'.getLast? = some x
end Go.Proofs.YtggjhleomocojaaGreat
