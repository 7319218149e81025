/-
  DERIVED. GIVEN WITH THE SEED: THE CARDS: each row of YtmlmchgigepleaaDoorRows.lean that lists a variable, with what it lists TIED to the program's text (the seventh form; the later family's looks); each row that meets fmt, with fmt's text TOLD by the authors' own Lean function (tested against real Go, not proved from fmt's source: count such statements apart). THE CARD IS WHAT COUNTS. Prove the row's statement (the work); the ties are given (YtmlmchgigepleaaDoorTie.lean); close each card by the builder's one call (the guide's Derived/Test/ToyasCard.lean, 'card_holds'). Laid BY PROGRAM, IN A SANDBOX (cutbox-door.mjs). By AI agents, Wed Nov 11 2026. No macro, syntax, notation, axiom, sorry.
-/
import Derived.Test.YtmlmchgigepleaaDoorRows
import GoSem.ClaimSeven
namespace Go.Proofs.YtmlmchgigepleaaDoor
namespace Rows

/-- THE TIED CARD OF 'millstreamlaw01.WordPowers'. -/
def wordPowersCard : Claim7 := { stood := { row := wordPowersRow, standIns := [], harness := (true, "cf52517603c87b092be8599ad0d191e1e978d16299b4ce75333459c0da11686c"), looks := false }, kinds := [], alts := [], laidByText := true, laidKinds := [.data], laidTests := true, laidLooks := .later }
def WordPowersCardSaid : Prop := Claim7.holds Tryd.pinned (.plain (OpenSpec.ofChange wordPowersSpec)) wordPowersCard

/-- THE TIED CARD OF 'millstreamlaw01.WordAligns'. -/
def wordAlignsCard : Claim7 := { stood := { row := wordAlignsRow, standIns := [], harness := (true, "cf52517603c87b092be8599ad0d191e1e978d16299b4ce75333459c0da11686c"), looks := false }, kinds := [], alts := [], laidByText := true, laidKinds := [.data], laidTests := true, laidLooks := .later }
def WordAlignsCardSaid : Prop := Claim7.holds Tryd.pinned (.plain (OpenSpec.ofChange wordAlignsSpec)) wordAlignsCard

/-- THE TIED CARD OF 'millstreamlaw01.WordBytes'. -/
def wordBytesCard : Claim7 := { stood := { row := wordBytesRow, standIns := [], harness := (true, "cf52517603c87b092be8599ad0d191e1e978d16299b4ce75333459c0da11686c"), looks := false }, kinds := [], alts := [], laidByText := true, laidKinds := [.data], laidTests := true, laidLooks := .later }
def WordBytesCardSaid : Prop := Claim7.holds Tryd.pinned (.plain (OpenSpec.ofChange wordBytesSpec)) wordBytesCard

/-- THE TIED CARD OF 'millstreamlaw04.PlaceTells'. -/
def placeTellsCard : Claim7 := { stood := { row := placeTellsRow, standIns := [], harness := (true, "cf52517603c87b092be8599ad0d191e1e978d16299b4ce75333459c0da11686c"), looks := false }, kinds := [], alts := [], laidByText := true, laidKinds := [.data], laidTests := true, laidLooks := .later }
def PlaceTellsCardSaid : Prop := Claim7.holds Tryd.pinned (.plain (OpenSpec.ofChange placeTellsSpec)) placeTellsCard

/-- THE TIED CARD OF 'millstreamlaw04.PlaceBack'. -/
def placeBackCard : Claim7 := { stood := { row := placeBackRow, standIns := [], harness := (true, "cf52517603c87b092be8599ad0d191e1e978d16299b4ce75333459c0da11686c"), looks := false }, kinds := [], alts := [], laidByText := true, laidKinds := [.data], laidTests := true, laidLooks := .later }
def PlaceBackCardSaid : Prop := Claim7.holds Tryd.pinned (.plain (OpenSpec.ofChange placeBackSpec)) placeBackCard

/-- THE TIED CARD OF 'millstreamlaw01.WordChunks'. -/
def wordChunksCard : Claim7 := { stood := { row := wordChunksRow, standIns := [], harness := (true, "cf52517603c87b092be8599ad0d191e1e978d16299b4ce75333459c0da11686c"), looks := false }, kinds := [], alts := [], laidByText := true, laidKinds := [.data], laidTests := true, laidLooks := .later }
def WordChunksCardSaid : Prop := Claim7.holds Tryd.pinned (.plain (OpenSpec.ofChange wordChunksSpec)) wordChunksCard

/-- THE TIED CARD OF 'millstreamlaw04.PlaceTails'. -/
def placeTailsCard : Claim7 := { stood := { row := placeTailsRow, standIns := [], harness := (true, "cf52517603c87b092be8599ad0d191e1e978d16299b4ce75333459c0da11686c"), looks := false }, kinds := [], alts := [], laidByText := true, laidKinds := [.data], laidTests := true, laidLooks := .later }
def PlaceTailsCardSaid : Prop := Claim7.holds Tryd.pinned (.plain (OpenSpec.ofChange placeTailsSpec)) placeTailsCard

/-- THE SECOND FORM's CARD OF 'millstreamlaw01.WordPowers'. -/
def wordPowersUptoCard : Claim7 := { stood := { row := wordPowersUptoRow, standIns := [], harness := (true, "cf52517603c87b092be8599ad0d191e1e978d16299b4ce75333459c0da11686c"), looks := false }, kinds := [], alts := [], laidByText := true, laidKinds := [.data], laidTests := true, laidLooks := .later }
def WordPowersUptoCardSaid : Prop := Claim7.holds Tryd.pinned (.plain (OpenSpec.upto wordPowersSpec)) wordPowersUptoCard

/-- THE SECOND FORM's CARD OF 'millstreamlaw01.WordAligns'. -/
def wordAlignsUptoCard : Claim7 := { stood := { row := wordAlignsUptoRow, standIns := [], harness := (true, "cf52517603c87b092be8599ad0d191e1e978d16299b4ce75333459c0da11686c"), looks := false }, kinds := [], alts := [], laidByText := true, laidKinds := [.data], laidTests := true, laidLooks := .later }
def WordAlignsUptoCardSaid : Prop := Claim7.holds Tryd.pinned (.plain (OpenSpec.upto wordAlignsSpec)) wordAlignsUptoCard

/-- THE SECOND FORM's CARD OF 'millstreamlaw01.WordBytes'. -/
def wordBytesUptoCard : Claim7 := { stood := { row := wordBytesUptoRow, standIns := [], harness := (true, "cf52517603c87b092be8599ad0d191e1e978d16299b4ce75333459c0da11686c"), looks := false }, kinds := [], alts := [], laidByText := true, laidKinds := [.data], laidTests := true, laidLooks := .later }
def WordBytesUptoCardSaid : Prop := Claim7.holds Tryd.pinned (.plain (OpenSpec.upto wordBytesSpec)) wordBytesUptoCard

/-- THE SECOND FORM's CARD OF 'millstreamlaw04.PlaceTells'. -/
def placeTellsUptoCard : Claim7 := { stood := { row := placeTellsUptoRow, standIns := [], harness := (true, "cf52517603c87b092be8599ad0d191e1e978d16299b4ce75333459c0da11686c"), looks := false }, kinds := [], alts := [], laidByText := true, laidKinds := [.data], laidTests := true, laidLooks := .later }
def PlaceTellsUptoCardSaid : Prop := Claim7.holds Tryd.pinned (.plain (OpenSpec.upto placeTellsSpec)) placeTellsUptoCard

/-- THE SECOND FORM's CARD OF 'millstreamlaw04.PlaceBack'. -/
def placeBackUptoCard : Claim7 := { stood := { row := placeBackUptoRow, standIns := [], harness := (true, "cf52517603c87b092be8599ad0d191e1e978d16299b4ce75333459c0da11686c"), looks := false }, kinds := [], alts := [], laidByText := true, laidKinds := [.data], laidTests := true, laidLooks := .later }
def PlaceBackUptoCardSaid : Prop := Claim7.holds Tryd.pinned (.plain (OpenSpec.upto placeBackSpec)) placeBackUptoCard

/-- THE SECOND FORM's CARD OF 'millstreamlaw01.WordChunks'. -/
def wordChunksUptoCard : Claim7 := { stood := { row := wordChunksUptoRow, standIns := [], harness := (true, "cf52517603c87b092be8599ad0d191e1e978d16299b4ce75333459c0da11686c"), looks := false }, kinds := [], alts := [], laidByText := true, laidKinds := [.data], laidTests := true, laidLooks := .later }
def WordChunksUptoCardSaid : Prop := Claim7.holds Tryd.pinned (.plain (OpenSpec.upto wordChunksSpec)) wordChunksUptoCard

/-- THE SECOND FORM's CARD OF 'millstreamlaw04.PlaceTails'. -/
def placeTailsUptoCard : Claim7 := { stood := { row := placeTailsUptoRow, standIns := [], harness := (true, "cf52517603c87b092be8599ad0d191e1e978d16299b4ce75333459c0da11686c"), looks := false }, kinds := [], alts := [], laidByText := true, laidKinds := [.data], laidTests := true, laidLooks := .later }
def PlaceTailsUptoCardSaid : Prop := Claim7.holds Tryd.pinned (.plain (OpenSpec.upto placeTailsSpec)) placeTailsUptoCard
end Rows
end Go.Proofs.YtmlmchgigepleaaDoor
