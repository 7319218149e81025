/- How arguments are opened: from a reading to values. Conditions: none. -/
import Derived.Test.YtmlmchgigepleaaPl
import Derived.ProofKit
import Derived.OpenShut
namespace Go.Proofs.Ytmlmchgigepleaa
open Go.ChangeShapes Go.WideShapes Go.ChangeAt Go.RowKit
end Go.Proofs.Ytmlmchgigepleaa
