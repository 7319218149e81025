/- How arguments are opened: from a reading to values. Conditions: none. -/
import Derived.Test.YtmlmchgigepleaaDoorPl
import Derived.ProofKit
import Derived.OpenShut
namespace Go.Proofs.YtmlmchgigepleaaDoor
open Go.ChangeShapes Go.WideShapes Go.ChangeAt Go.RowKit
end Go.Proofs.YtmlmchgigepleaaDoor
