/-
  NARROWER THAN 'FOR EVERY INPUT', by the rows' own cells (each row's printed sentence says how): WordPowers: laid · WordAligns: laid · WordBytes: laid · PlaceTells: laid · PlaceBack: laid · WordChunks: laid · PlaceTails: laid.
  DERIVED. THE GIVEN ROWS OF THIS SEAT. 7 by the template 'for every input the law returns true; each argument reads behind the call as it read before'; 0 by the template 'total and deterministic' (their statements: YtmlmchgigepleaaDoorTotals.lean).
  GIVEN WITH THE SEED: the statements are not yours to turn. If you find one false, say at which input.
  Laid BY PROGRAM, IN A SANDBOX (cutbox-rows.mjs): the forced cells as the released guide's own fill.sh prints them over the translation fd259df9c12e98f4… (all of the seat's roots in one cut). By AI agents, Wed Nov 11 2026. No macro, syntax, notation, axiom, sorry.
-/
import Derived.Test.YtmlmchgigepleaaDoorChecked
import GoSem.Claim
import GoSem.ClaimJoined
import GoSem.ClaimMapViews
import Derived.JoinedTies
import Derived.KernelRfl
namespace Go.Proofs.YtmlmchgigepleaaDoor
/- THE CELL 'sum', in the pinned program and in every row, IS THE sha256 OF THE DUMP (.gsa) THAT YtmlmchgigepleaaDoorProg.lean LOADS. Nothing in Lean hashes anything: it is a label: what it is worth is what the hold of that sum in a sandbox is worth. -/
noncomputable def Tryd.pinned : Pinned := { name := "ytmlmchgigepleaadoor", sum := "fd259df9c12e98f47be925d64a58f93eafe1f5e9e525cbb13a51098433e37e57", checked := Tryd.checked }
namespace Rows
def none {H : Type} : Left H := { results := [], args := [] }

/- WHAT THE LISTED PACKAGE-LEVEL VARIABLES READ AS WHEN THE CALL BEGINS. Each datum BY PROGRAM (the guide's laid-datum.mjs) off the statement by which the dump's own 'gosem.cut.vars' lays the variable. In a bare row this is a premise. The card (YtmlmchgigepleaaDoorCards.lean) ties it to the program's text. -/
def laid_math_bits_deBruijn64tab {H : Type} : DataW H := .agg [.lit (.int .u8 0), .lit (.int .u8 1), .lit (.int .u8 56), .lit (.int .u8 2), .lit (.int .u8 57), .lit (.int .u8 49), .lit (.int .u8 28), .lit (.int .u8 3), .lit (.int .u8 61), .lit (.int .u8 58), .lit (.int .u8 42), .lit (.int .u8 50), .lit (.int .u8 38), .lit (.int .u8 29), .lit (.int .u8 17), .lit (.int .u8 4), .lit (.int .u8 62), .lit (.int .u8 47), .lit (.int .u8 59), .lit (.int .u8 36), .lit (.int .u8 45), .lit (.int .u8 43), .lit (.int .u8 51), .lit (.int .u8 22), .lit (.int .u8 53), .lit (.int .u8 39), .lit (.int .u8 33), .lit (.int .u8 30), .lit (.int .u8 24), .lit (.int .u8 18), .lit (.int .u8 12), .lit (.int .u8 5), .lit (.int .u8 63), .lit (.int .u8 55), .lit (.int .u8 48), .lit (.int .u8 27), .lit (.int .u8 60), .lit (.int .u8 41), .lit (.int .u8 37), .lit (.int .u8 16), .lit (.int .u8 46), .lit (.int .u8 35), .lit (.int .u8 44), .lit (.int .u8 21), .lit (.int .u8 52), .lit (.int .u8 32), .lit (.int .u8 23), .lit (.int .u8 11), .lit (.int .u8 54), .lit (.int .u8 26), .lit (.int .u8 40), .lit (.int .u8 15), .lit (.int .u8 34), .lit (.int .u8 20), .lit (.int .u8 31), .lit (.int .u8 10), .lit (.int .u8 25), .lit (.int .u8 14), .lit (.int .u8 19), .lit (.int .u8 9), .lit (.int .u8 13), .lit (.int .u8 8), .lit (.int .u8 7), .lit (.int .u8 6)]

/-- 'millstreamlaw01.WordPowers': WHATEVER THE INPUT: true; the input reads as it did. -/
def wordPowersSpec : ChangeSpec := { name := "wordPowers", fn := fun _ => fun
  | [d1, d2] => { results := [.lit (.bool true)], args := [d1, d2] }
  | _ => none }
def wordPowersRow : OpenClaim := { program := "ytmlmchgigepleaadoor", sum := "fd259df9c12e98f47be925d64a58f93eafe1f5e9e525cbb13a51098433e37e57", func := "millstream/millstreamlaw01.WordPowers", spec := "wordPowers", named := ["math/bits.deBruijn64tab"], apart := false, laid := [("math/bits.deBruijn64tab", laid_math_bits_deBruijn64tab)] }
def WordPowersSaid : Prop := wordPowersRow.holds Tryd.pinned (OpenSpec.ofChange wordPowersSpec)

/-- ITS FALSE NEIGHBOUR: 'it returns false'. Refute it at one input. -/
def wordPowersWrong : ChangeSpec := { name := "wordPowers", fn := fun _ => fun
  | [d1, d2] => { results := [.lit (.bool false)], args := [d1, d2] }
  | _ => none }
def WordPowersWrongFalsely : Prop := wordPowersRow.holds Tryd.pinned (OpenSpec.ofChange wordPowersWrong)

/-- 'millstreamlaw01.WordAligns': WHATEVER THE INPUT: true; the input reads as it did. -/
def wordAlignsSpec : ChangeSpec := { name := "wordAligns", fn := fun _ => fun
  | [d1, d2] => { results := [.lit (.bool true)], args := [d1, d2] }
  | _ => none }
def wordAlignsRow : OpenClaim := { program := "ytmlmchgigepleaadoor", sum := "fd259df9c12e98f47be925d64a58f93eafe1f5e9e525cbb13a51098433e37e57", func := "millstream/millstreamlaw01.WordAligns", spec := "wordAligns", named := ["math/bits.deBruijn64tab"], apart := false, laid := [("math/bits.deBruijn64tab", laid_math_bits_deBruijn64tab)] }
def WordAlignsSaid : Prop := wordAlignsRow.holds Tryd.pinned (OpenSpec.ofChange wordAlignsSpec)

/-- ITS FALSE NEIGHBOUR: 'it returns false'. Refute it at one input. -/
def wordAlignsWrong : ChangeSpec := { name := "wordAligns", fn := fun _ => fun
  | [d1, d2] => { results := [.lit (.bool false)], args := [d1, d2] }
  | _ => none }
def WordAlignsWrongFalsely : Prop := wordAlignsRow.holds Tryd.pinned (OpenSpec.ofChange wordAlignsWrong)

/-- 'millstreamlaw01.WordBytes': WHATEVER THE INPUT: true; the input reads as it did. -/
def wordBytesSpec : ChangeSpec := { name := "wordBytes", fn := fun _ => fun
  | [d1, d2, d3] => { results := [.lit (.bool true)], args := [d1, d2, d3] }
  | _ => none }
def wordBytesRow : OpenClaim := { program := "ytmlmchgigepleaadoor", sum := "fd259df9c12e98f47be925d64a58f93eafe1f5e9e525cbb13a51098433e37e57", func := "millstream/millstreamlaw01.WordBytes", spec := "wordBytes", named := ["math/bits.deBruijn64tab"], apart := false, laid := [("math/bits.deBruijn64tab", laid_math_bits_deBruijn64tab)] }
def WordBytesSaid : Prop := wordBytesRow.holds Tryd.pinned (OpenSpec.ofChange wordBytesSpec)

/-- ITS FALSE NEIGHBOUR: 'it returns false'. Refute it at one input. -/
def wordBytesWrong : ChangeSpec := { name := "wordBytes", fn := fun _ => fun
  | [d1, d2, d3] => { results := [.lit (.bool false)], args := [d1, d2, d3] }
  | _ => none }
def WordBytesWrongFalsely : Prop := wordBytesRow.holds Tryd.pinned (OpenSpec.ofChange wordBytesWrong)

/-- 'millstreamlaw04.PlaceTells': WHATEVER THE INPUT: true; the input reads as it did. -/
def placeTellsSpec : ChangeSpec := { name := "placeTells", fn := fun _ => fun
  | [d1, d2, d3, d4, d5] => { results := [.lit (.bool true)], args := [d1, d2, d3, d4, d5] }
  | _ => none }
def placeTellsRow : OpenClaim := { program := "ytmlmchgigepleaadoor", sum := "fd259df9c12e98f47be925d64a58f93eafe1f5e9e525cbb13a51098433e37e57", func := "millstream/millstreamlaw04.PlaceTells", spec := "placeTells", named := ["math/bits.deBruijn64tab"], apart := false, laid := [("math/bits.deBruijn64tab", laid_math_bits_deBruijn64tab)] }
def PlaceTellsSaid : Prop := placeTellsRow.holds Tryd.pinned (OpenSpec.ofChange placeTellsSpec)

/-- ITS FALSE NEIGHBOUR: 'it returns false'. Refute it at one input. -/
def placeTellsWrong : ChangeSpec := { name := "placeTells", fn := fun _ => fun
  | [d1, d2, d3, d4, d5] => { results := [.lit (.bool false)], args := [d1, d2, d3, d4, d5] }
  | _ => none }
def PlaceTellsWrongFalsely : Prop := placeTellsRow.holds Tryd.pinned (OpenSpec.ofChange placeTellsWrong)

/-- 'millstreamlaw04.PlaceBack': WHATEVER THE INPUT: true; the input reads as it did. -/
def placeBackSpec : ChangeSpec := { name := "placeBack", fn := fun _ => fun
  | [d1, d2, d3] => { results := [.lit (.bool true)], args := [d1, d2, d3] }
  | _ => none }
def placeBackRow : OpenClaim := { program := "ytmlmchgigepleaadoor", sum := "fd259df9c12e98f47be925d64a58f93eafe1f5e9e525cbb13a51098433e37e57", func := "millstream/millstreamlaw04.PlaceBack", spec := "placeBack", named := ["math/bits.deBruijn64tab"], apart := false, laid := [("math/bits.deBruijn64tab", laid_math_bits_deBruijn64tab)] }
def PlaceBackSaid : Prop := placeBackRow.holds Tryd.pinned (OpenSpec.ofChange placeBackSpec)

/-- ITS FALSE NEIGHBOUR: 'it returns false'. Refute it at one input. -/
def placeBackWrong : ChangeSpec := { name := "placeBack", fn := fun _ => fun
  | [d1, d2, d3] => { results := [.lit (.bool false)], args := [d1, d2, d3] }
  | _ => none }
def PlaceBackWrongFalsely : Prop := placeBackRow.holds Tryd.pinned (OpenSpec.ofChange placeBackWrong)

/-- 'millstreamlaw01.WordChunks': WHATEVER THE INPUT: true; the input reads as it did. -/
def wordChunksSpec : ChangeSpec := { name := "wordChunks", fn := fun _ => fun
  | [d] => { results := [.lit (.bool true)], args := [d] }
  | _ => none }
def wordChunksRow : OpenClaim := { program := "ytmlmchgigepleaadoor", sum := "fd259df9c12e98f47be925d64a58f93eafe1f5e9e525cbb13a51098433e37e57", func := "millstream/millstreamlaw01.WordChunks", spec := "wordChunks", named := ["math/bits.deBruijn64tab"], apart := false, laid := [("math/bits.deBruijn64tab", laid_math_bits_deBruijn64tab)] }
def WordChunksSaid : Prop := wordChunksRow.holds Tryd.pinned (OpenSpec.ofChange wordChunksSpec)

/-- ITS FALSE NEIGHBOUR: 'it returns false'. Refute it at one input. -/
def wordChunksWrong : ChangeSpec := { name := "wordChunks", fn := fun _ => fun
  | [d] => { results := [.lit (.bool false)], args := [d] }
  | _ => none }
def WordChunksWrongFalsely : Prop := wordChunksRow.holds Tryd.pinned (OpenSpec.ofChange wordChunksWrong)

/-- 'millstreamlaw04.PlaceTails': WHATEVER THE INPUT: true; the input reads as it did. -/
def placeTailsSpec : ChangeSpec := { name := "placeTails", fn := fun _ => fun
  | [d1, d2, d3] => { results := [.lit (.bool true)], args := [d1, d2, d3] }
  | _ => none }
def placeTailsRow : OpenClaim := { program := "ytmlmchgigepleaadoor", sum := "fd259df9c12e98f47be925d64a58f93eafe1f5e9e525cbb13a51098433e37e57", func := "millstream/millstreamlaw04.PlaceTails", spec := "placeTails", named := ["math/bits.deBruijn64tab"], apart := false, laid := [("math/bits.deBruijn64tab", laid_math_bits_deBruijn64tab)] }
def PlaceTailsSaid : Prop := placeTailsRow.holds Tryd.pinned (OpenSpec.ofChange placeTailsSpec)

/-- ITS FALSE NEIGHBOUR: 'it returns false'. Refute it at one input. -/
def placeTailsWrong : ChangeSpec := { name := "placeTails", fn := fun _ => fun
  | [d1, d2, d3] => { results := [.lit (.bool false)], args := [d1, d2, d3] }
  | _ => none }
def PlaceTailsWrongFalsely : Prop := placeTailsRow.holds Tryd.pinned (OpenSpec.ofChange placeTailsWrong)

/- THE SECOND FORM. 'bulk': how many values and letters a reading holds, each counted each time it is reached (what is shared counts as often as it is met; a slice's spare places count too). A statement '..UptoSaid' is the law's where the arguments, and the package variables that the reading takes, are together of bulk at most 1048576: NARROWER than '..Said'. Prove '..Said' where nothing that the law and all that it calls make is longer than what came in: it says more and counts as full. Else prove '..UptoSaid'. A law counts once. -/
mutual
def uptoBulk {H : Type} : DataW H → Nat
  | .lit (.string bytes) => bytes.length + 1
  | .lit _ => 1
  | .nil => 1
  | .ptr d => uptoBulk d + 1
  | .slice elems spare => uptoBulkAll elems + uptoBulkAll spare + 1
  | .agg parts => uptoBulkAll parts + 1
  | .iface _ d => uptoBulk d + 1
  | .map entries => uptoBulkEntries entries + 1
  | .held _ => 1
def uptoBulkAll {H : Type} : List (DataW H) → Nat
  | [] => 0
  | d :: r => uptoBulk d + uptoBulkAll r
def uptoBulkEntries {H : Type} : List (Lit × DataW H) → Nat
  | [] => 0
  | x :: r => uptoBulkEntry x + uptoBulkEntries r
def uptoBulkEntry {H : Type} : Lit × DataW H → Nat
  | (.string bytes, d) => bytes.length + uptoBulk d + 1
  | (_, d) => uptoBulk d + 1
 end
def uptoSmall : (H : Type) → List (DataW H) → Bool := fun _ ds => decide (uptoBulkAll ds ≤ 1048576)
def OpenSpec.upto (s : _root_.Go.ChangeSpec) : _root_.Go.OpenSpec := { _root_.Go.OpenSpec.ofChange s with cond := some uptoSmall }

/-- 'millstreamlaw01.WordPowers', WHERE WHAT IT READS IS OF BULK AT MOST 1048576: true; the input reads as it did. -/
def wordPowersUptoRow : OpenClaim := { program := "ytmlmchgigepleaadoor", sum := "fd259df9c12e98f47be925d64a58f93eafe1f5e9e525cbb13a51098433e37e57", func := "millstream/millstreamlaw01.WordPowers", spec := "wordPowers", named := ["math/bits.deBruijn64tab"], apart := false, laid := [("math/bits.deBruijn64tab", laid_math_bits_deBruijn64tab)], narrowed := true }
def WordPowersUptoSaid : Prop := wordPowersUptoRow.holds Tryd.pinned (OpenSpec.upto wordPowersSpec)

/-- 'millstreamlaw01.WordAligns', WHERE WHAT IT READS IS OF BULK AT MOST 1048576: true; the input reads as it did. -/
def wordAlignsUptoRow : OpenClaim := { program := "ytmlmchgigepleaadoor", sum := "fd259df9c12e98f47be925d64a58f93eafe1f5e9e525cbb13a51098433e37e57", func := "millstream/millstreamlaw01.WordAligns", spec := "wordAligns", named := ["math/bits.deBruijn64tab"], apart := false, laid := [("math/bits.deBruijn64tab", laid_math_bits_deBruijn64tab)], narrowed := true }
def WordAlignsUptoSaid : Prop := wordAlignsUptoRow.holds Tryd.pinned (OpenSpec.upto wordAlignsSpec)

/-- 'millstreamlaw01.WordBytes', WHERE WHAT IT READS IS OF BULK AT MOST 1048576: true; the input reads as it did. -/
def wordBytesUptoRow : OpenClaim := { program := "ytmlmchgigepleaadoor", sum := "fd259df9c12e98f47be925d64a58f93eafe1f5e9e525cbb13a51098433e37e57", func := "millstream/millstreamlaw01.WordBytes", spec := "wordBytes", named := ["math/bits.deBruijn64tab"], apart := false, laid := [("math/bits.deBruijn64tab", laid_math_bits_deBruijn64tab)], narrowed := true }
def WordBytesUptoSaid : Prop := wordBytesUptoRow.holds Tryd.pinned (OpenSpec.upto wordBytesSpec)

/-- 'millstreamlaw04.PlaceTells', WHERE WHAT IT READS IS OF BULK AT MOST 1048576: true; the input reads as it did. -/
def placeTellsUptoRow : OpenClaim := { program := "ytmlmchgigepleaadoor", sum := "fd259df9c12e98f47be925d64a58f93eafe1f5e9e525cbb13a51098433e37e57", func := "millstream/millstreamlaw04.PlaceTells", spec := "placeTells", named := ["math/bits.deBruijn64tab"], apart := false, laid := [("math/bits.deBruijn64tab", laid_math_bits_deBruijn64tab)], narrowed := true }
def PlaceTellsUptoSaid : Prop := placeTellsUptoRow.holds Tryd.pinned (OpenSpec.upto placeTellsSpec)

/-- 'millstreamlaw04.PlaceBack', WHERE WHAT IT READS IS OF BULK AT MOST 1048576: true; the input reads as it did. -/
def placeBackUptoRow : OpenClaim := { program := "ytmlmchgigepleaadoor", sum := "fd259df9c12e98f47be925d64a58f93eafe1f5e9e525cbb13a51098433e37e57", func := "millstream/millstreamlaw04.PlaceBack", spec := "placeBack", named := ["math/bits.deBruijn64tab"], apart := false, laid := [("math/bits.deBruijn64tab", laid_math_bits_deBruijn64tab)], narrowed := true }
def PlaceBackUptoSaid : Prop := placeBackUptoRow.holds Tryd.pinned (OpenSpec.upto placeBackSpec)

/-- 'millstreamlaw01.WordChunks', WHERE WHAT IT READS IS OF BULK AT MOST 1048576: true; the input reads as it did. -/
def wordChunksUptoRow : OpenClaim := { program := "ytmlmchgigepleaadoor", sum := "fd259df9c12e98f47be925d64a58f93eafe1f5e9e525cbb13a51098433e37e57", func := "millstream/millstreamlaw01.WordChunks", spec := "wordChunks", named := ["math/bits.deBruijn64tab"], apart := false, laid := [("math/bits.deBruijn64tab", laid_math_bits_deBruijn64tab)], narrowed := true }
def WordChunksUptoSaid : Prop := wordChunksUptoRow.holds Tryd.pinned (OpenSpec.upto wordChunksSpec)

/-- 'millstreamlaw04.PlaceTails', WHERE WHAT IT READS IS OF BULK AT MOST 1048576: true; the input reads as it did. -/
def placeTailsUptoRow : OpenClaim := { program := "ytmlmchgigepleaadoor", sum := "fd259df9c12e98f47be925d64a58f93eafe1f5e9e525cbb13a51098433e37e57", func := "millstream/millstreamlaw04.PlaceTails", spec := "placeTails", named := ["math/bits.deBruijn64tab"], apart := false, laid := [("math/bits.deBruijn64tab", laid_math_bits_deBruijn64tab)], narrowed := true }
def PlaceTailsUptoSaid : Prop := placeTailsUptoRow.holds Tryd.pinned (OpenSpec.upto placeTailsSpec)

end Rows
end Go.Proofs.YtmlmchgigepleaaDoor
