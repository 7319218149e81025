/- The fixed facts of layer 8's law; the law RinggetNil. Conditions: none. -/
import Derived.Test.YtknahaaefmlcpaaGreatGp
import Derived.Test.YtknahaaefmlcpaaGreatQg
import Derived.Lib.SlBytesConst
namespace Go.Proofs.YtknahaaefmlcpaaGreat
set_option maxRecDepth 100000
open Go.RowKit
set_option linter.unusedVariables false
set_option linter.unusedSimpArgs false
end Go.Proofs.YtknahaaefmlcpaaGreat
