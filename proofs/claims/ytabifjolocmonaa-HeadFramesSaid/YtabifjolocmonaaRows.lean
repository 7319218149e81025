/-
  No cell of these rows narrows 'for every input' (looked for: loops, veiled, ifaces, maps, wideKeys, modest, calm, conditions, laid).
  DERIVED. THE GIVEN ROWS OF THIS SEAT. 8 by the template 'for every input the law returns true; each argument reads behind the call as it read before'; 0 by the template 'total and deterministic' (their statements: YtabifjolocmonaaTotals.lean).
  GIVEN WITH THE SEED: the statements are not yours to turn. If you find one false, say at which input.
  Laid BY PROGRAM, IN A SANDBOX (cutbox-rows.mjs): the forced cells as the released guide's own fill.sh prints them over the translation 37813342d9710e73… (all of the seat's roots in one cut). By AI agents, Wed Nov 11 2026. No macro, syntax, notation, axiom, sorry.
-/
import Derived.Test.YtabifjolocmonaaChecked
import GoSem.Claim
import GoSem.ClaimJoined
import GoSem.ClaimMapViews
import Derived.JoinedTies
import Derived.KernelRfl
namespace Go.Proofs.Ytabifjolocmonaa
/- THE CELL 'sum', in the pinned program and in every row, IS THE sha256 OF THE DUMP (.gsa) THAT YtabifjolocmonaaProg.lean LOADS. Nothing in Lean hashes anything: it is a label: what it is worth is what the hold of that sum in a sandbox is worth. -/
noncomputable def Try.pinned : Pinned := { name := "ytabifjolocmonaa", sum := "37813342d9710e73147385dd91cca3acc07b19e3ffaeaf7ed21839c2ca0861d4", checked := Try.checked }
namespace Rows
def none {H : Type} : Left H := { results := [], args := [] }

/-- 'millstreamlaw03.HeadRecords': WHATEVER THE INPUT: true; the input reads as it did. -/
def headRecordsSpec : ChangeSpec := { name := "headRecords", fn := fun _ => fun
  | [d1, d2, d3] => { results := [.lit (.bool true)], args := [d1, d2, d3] }
  | _ => none }
def headRecordsRow : OpenClaim := { program := "ytabifjolocmonaa", sum := "37813342d9710e73147385dd91cca3acc07b19e3ffaeaf7ed21839c2ca0861d4", func := "millstream/millstreamlaw03.HeadRecords", spec := "headRecords", apart := false }
def HeadRecordsSaid : Prop := headRecordsRow.holds Try.pinned (OpenSpec.ofChange headRecordsSpec)

/-- ITS FALSE NEIGHBOUR: 'it returns false'. Refute it at one input. -/
def headRecordsWrong : ChangeSpec := { name := "headRecords", fn := fun _ => fun
  | [d1, d2, d3] => { results := [.lit (.bool false)], args := [d1, d2, d3] }
  | _ => none }
def HeadRecordsWrongFalsely : Prop := headRecordsRow.holds Try.pinned (OpenSpec.ofChange headRecordsWrong)

/-- 'millstreamlaw03.HeadSizes': WHATEVER THE INPUT: true; the input reads as it did. -/
def headSizesSpec : ChangeSpec := { name := "headSizes", fn := fun _ => fun
  | [d1, d2, d3] => { results := [.lit (.bool true)], args := [d1, d2, d3] }
  | _ => none }
def headSizesRow : OpenClaim := { program := "ytabifjolocmonaa", sum := "37813342d9710e73147385dd91cca3acc07b19e3ffaeaf7ed21839c2ca0861d4", func := "millstream/millstreamlaw03.HeadSizes", spec := "headSizes", apart := false }
def HeadSizesSaid : Prop := headSizesRow.holds Try.pinned (OpenSpec.ofChange headSizesSpec)

/-- ITS FALSE NEIGHBOUR: 'it returns false'. Refute it at one input. -/
def headSizesWrong : ChangeSpec := { name := "headSizes", fn := fun _ => fun
  | [d1, d2, d3] => { results := [.lit (.bool false)], args := [d1, d2, d3] }
  | _ => none }
def HeadSizesWrongFalsely : Prop := headSizesRow.holds Try.pinned (OpenSpec.ofChange headSizesWrong)

/-- 'millstreamlaw03.HeadFrames': WHATEVER THE INPUT: true; the input reads as it did. -/
def headFramesSpec : ChangeSpec := { name := "headFrames", fn := fun _ => fun
  | [d1, d2] => { results := [.lit (.bool true)], args := [d1, d2] }
  | _ => none }
def headFramesRow : OpenClaim := { program := "ytabifjolocmonaa", sum := "37813342d9710e73147385dd91cca3acc07b19e3ffaeaf7ed21839c2ca0861d4", func := "millstream/millstreamlaw03.HeadFrames", spec := "headFrames", apart := false }
def HeadFramesSaid : Prop := headFramesRow.holds Try.pinned (OpenSpec.ofChange headFramesSpec)

/-- ITS FALSE NEIGHBOUR: 'it returns false'. Refute it at one input. -/
def headFramesWrong : ChangeSpec := { name := "headFrames", fn := fun _ => fun
  | [d1, d2] => { results := [.lit (.bool false)], args := [d1, d2] }
  | _ => none }
def HeadFramesWrongFalsely : Prop := headFramesRow.holds Try.pinned (OpenSpec.ofChange headFramesWrong)

/-- 'millstreamlaw14.MetaCuts': WHATEVER THE INPUT: true; the input reads as it did. -/
def metaCutsSpec : ChangeSpec := { name := "metaCuts", fn := fun _ => fun
  | [d1, d2] => { results := [.lit (.bool true)], args := [d1, d2] }
  | _ => none }
def metaCutsRow : OpenClaim := { program := "ytabifjolocmonaa", sum := "37813342d9710e73147385dd91cca3acc07b19e3ffaeaf7ed21839c2ca0861d4", func := "millstream/millstreamlaw14.MetaCuts", spec := "metaCuts", apart := false }
def MetaCutsSaid : Prop := metaCutsRow.holds Try.pinned (OpenSpec.ofChange metaCutsSpec)

/-- ITS FALSE NEIGHBOUR: 'it returns false'. Refute it at one input. -/
def metaCutsWrong : ChangeSpec := { name := "metaCuts", fn := fun _ => fun
  | [d1, d2] => { results := [.lit (.bool false)], args := [d1, d2] }
  | _ => none }
def MetaCutsWrongFalsely : Prop := metaCutsRow.holds Try.pinned (OpenSpec.ofChange metaCutsWrong)

/-- 'millstreamlaw14.MetaPlaces': WHATEVER THE INPUT: true; the input reads as it did. -/
def metaPlacesSpec : ChangeSpec := { name := "metaPlaces", fn := fun _ => fun
  | [d1, d2, d3] => { results := [.lit (.bool true)], args := [d1, d2, d3] }
  | _ => none }
def metaPlacesRow : OpenClaim := { program := "ytabifjolocmonaa", sum := "37813342d9710e73147385dd91cca3acc07b19e3ffaeaf7ed21839c2ca0861d4", func := "millstream/millstreamlaw14.MetaPlaces", spec := "metaPlaces", apart := false }
def MetaPlacesSaid : Prop := metaPlacesRow.holds Try.pinned (OpenSpec.ofChange metaPlacesSpec)

/-- ITS FALSE NEIGHBOUR: 'it returns false'. Refute it at one input. -/
def metaPlacesWrong : ChangeSpec := { name := "metaPlaces", fn := fun _ => fun
  | [d1, d2, d3] => { results := [.lit (.bool false)], args := [d1, d2, d3] }
  | _ => none }
def MetaPlacesWrongFalsely : Prop := metaPlacesRow.holds Try.pinned (OpenSpec.ofChange metaPlacesWrong)

/-- 'millstreamlaw05.CopiesSteps': WHATEVER THE INPUT: true; the input reads as it did. -/
def copiesStepsSpec : ChangeSpec := { name := "copiesSteps", fn := fun _ => fun
  | [d1, d2, d3, d4, d5] => { results := [.lit (.bool true)], args := [d1, d2, d3, d4, d5] }
  | _ => none }
def copiesStepsRow : OpenClaim := { program := "ytabifjolocmonaa", sum := "37813342d9710e73147385dd91cca3acc07b19e3ffaeaf7ed21839c2ca0861d4", func := "millstream/millstreamlaw05.CopiesSteps", spec := "copiesSteps", unfollowed := true, recurses := true, apart := false }
def CopiesStepsSaid : Prop := copiesStepsRow.holds Try.pinned (OpenSpec.ofChange copiesStepsSpec)

/-- ITS FALSE NEIGHBOUR: 'it returns false'. Refute it at one input. -/
def copiesStepsWrong : ChangeSpec := { name := "copiesSteps", fn := fun _ => fun
  | [d1, d2, d3, d4, d5] => { results := [.lit (.bool false)], args := [d1, d2, d3, d4, d5] }
  | _ => none }
def CopiesStepsWrongFalsely : Prop := copiesStepsRow.holds Try.pinned (OpenSpec.ofChange copiesStepsWrong)

/-- 'millstreamlaw14.MetaInit': WHATEVER THE INPUT: true; the input reads as it did. -/
def metaInitSpec : ChangeSpec := { name := "metaInit", fn := fun _ => fun
  | [d1, d2] => { results := [.lit (.bool true)], args := [d1, d2] }
  | _ => none }
def metaInitRow : OpenClaim := { program := "ytabifjolocmonaa", sum := "37813342d9710e73147385dd91cca3acc07b19e3ffaeaf7ed21839c2ca0861d4", func := "millstream/millstreamlaw14.MetaInit", spec := "metaInit", unfollowed := true, recurses := true, apart := false }
def MetaInitSaid : Prop := metaInitRow.holds Try.pinned (OpenSpec.ofChange metaInitSpec)

/-- ITS FALSE NEIGHBOUR: 'it returns false'. Refute it at one input. -/
def metaInitWrong : ChangeSpec := { name := "metaInit", fn := fun _ => fun
  | [d1, d2] => { results := [.lit (.bool false)], args := [d1, d2] }
  | _ => none }
def MetaInitWrongFalsely : Prop := metaInitRow.holds Try.pinned (OpenSpec.ofChange metaInitWrong)

/-- 'millstreamlaw02.MembufNil': WHATEVER THE INPUT: true; the input reads as it did. -/
def membufNilSpec : ChangeSpec := { name := "membufNil", fn := fun _ => fun
  | [d] => { results := [.lit (.bool true)], args := [d] }
  | _ => none }
def membufNilRow : OpenClaim := { program := "ytabifjolocmonaa", sum := "37813342d9710e73147385dd91cca3acc07b19e3ffaeaf7ed21839c2ca0861d4", func := "millstream/millstreamlaw02.MembufNil", spec := "membufNil", inPlace := ["sync/atomic.AddInt64", "sync/atomic.LoadUint64", "sync/atomic.CompareAndSwapUint64", "sync/atomic.AddUint64", "sync/atomic.LoadInt64"], apart := false }
def MembufNilSaid : Prop := membufNilRow.holds Try.pinned (OpenSpec.ofChange membufNilSpec)

/-- ITS FALSE NEIGHBOUR: 'it returns false'. Refute it at one input. -/
def membufNilWrong : ChangeSpec := { name := "membufNil", fn := fun _ => fun
  | [d] => { results := [.lit (.bool false)], args := [d] }
  | _ => none }
def MembufNilWrongFalsely : Prop := membufNilRow.holds Try.pinned (OpenSpec.ofChange membufNilWrong)

/- THE SECOND FORM. 'bulk': how many values and letters a reading holds, each counted each time it is reached (what is shared counts as often as it is met; a slice's spare places count too). A statement '..UptoSaid' is the law's where the arguments, and the package variables that the reading takes, are together of bulk at most 1048576: NARROWER than '..Said'. Prove '..Said' where nothing that the law and all that it calls make is longer than what came in: it says more and counts as full. Else prove '..UptoSaid'. A law counts once. -/
mutual
def uptoBulk {H : Type} : DataW H → Nat
  | .lit (.string bytes) => bytes.length + 1
  | .lit _ => 1
  | .nil => 1
  | .ptr d => uptoBulk d + 1
  | .slice elems spare => uptoBulkAll elems + uptoBulkAll spare + 1
  | .agg parts => uptoBulkAll parts + 1
  | .iface _ d => uptoBulk d + 1
  | .map entries => uptoBulkEntries entries + 1
  | .held _ => 1
def uptoBulkAll {H : Type} : List (DataW H) → Nat
  | [] => 0
  | d :: r => uptoBulk d + uptoBulkAll r
def uptoBulkEntries {H : Type} : List (Lit × DataW H) → Nat
  | [] => 0
  | x :: r => uptoBulkEntry x + uptoBulkEntries r
def uptoBulkEntry {H : Type} : Lit × DataW H → Nat
  | (.string bytes, d) => bytes.length + uptoBulk d + 1
  | (_, d) => uptoBulk d + 1
 end
def uptoSmall : (H : Type) → List (DataW H) → Bool := fun _ ds => decide (uptoBulkAll ds ≤ 1048576)
def OpenSpec.upto (s : _root_.Go.ChangeSpec) : _root_.Go.OpenSpec := { _root_.Go.OpenSpec.ofChange s with cond := some uptoSmall }

/-- 'millstreamlaw03.HeadRecords', WHERE WHAT IT READS IS OF BULK AT MOST 1048576: true; the input reads as it did. -/
def headRecordsUptoRow : OpenClaim := { program := "ytabifjolocmonaa", sum := "37813342d9710e73147385dd91cca3acc07b19e3ffaeaf7ed21839c2ca0861d4", func := "millstream/millstreamlaw03.HeadRecords", spec := "headRecords", apart := false, narrowed := true }
def HeadRecordsUptoSaid : Prop := headRecordsUptoRow.holds Try.pinned (OpenSpec.upto headRecordsSpec)

/-- 'millstreamlaw03.HeadSizes', WHERE WHAT IT READS IS OF BULK AT MOST 1048576: true; the input reads as it did. -/
def headSizesUptoRow : OpenClaim := { program := "ytabifjolocmonaa", sum := "37813342d9710e73147385dd91cca3acc07b19e3ffaeaf7ed21839c2ca0861d4", func := "millstream/millstreamlaw03.HeadSizes", spec := "headSizes", apart := false, narrowed := true }
def HeadSizesUptoSaid : Prop := headSizesUptoRow.holds Try.pinned (OpenSpec.upto headSizesSpec)

/-- 'millstreamlaw03.HeadFrames', WHERE WHAT IT READS IS OF BULK AT MOST 1048576: true; the input reads as it did. -/
def headFramesUptoRow : OpenClaim := { program := "ytabifjolocmonaa", sum := "37813342d9710e73147385dd91cca3acc07b19e3ffaeaf7ed21839c2ca0861d4", func := "millstream/millstreamlaw03.HeadFrames", spec := "headFrames", apart := false, narrowed := true }
def HeadFramesUptoSaid : Prop := headFramesUptoRow.holds Try.pinned (OpenSpec.upto headFramesSpec)

/-- 'millstreamlaw14.MetaCuts', WHERE WHAT IT READS IS OF BULK AT MOST 1048576: true; the input reads as it did. -/
def metaCutsUptoRow : OpenClaim := { program := "ytabifjolocmonaa", sum := "37813342d9710e73147385dd91cca3acc07b19e3ffaeaf7ed21839c2ca0861d4", func := "millstream/millstreamlaw14.MetaCuts", spec := "metaCuts", apart := false, narrowed := true }
def MetaCutsUptoSaid : Prop := metaCutsUptoRow.holds Try.pinned (OpenSpec.upto metaCutsSpec)

/-- 'millstreamlaw14.MetaPlaces', WHERE WHAT IT READS IS OF BULK AT MOST 1048576: true; the input reads as it did. -/
def metaPlacesUptoRow : OpenClaim := { program := "ytabifjolocmonaa", sum := "37813342d9710e73147385dd91cca3acc07b19e3ffaeaf7ed21839c2ca0861d4", func := "millstream/millstreamlaw14.MetaPlaces", spec := "metaPlaces", apart := false, narrowed := true }
def MetaPlacesUptoSaid : Prop := metaPlacesUptoRow.holds Try.pinned (OpenSpec.upto metaPlacesSpec)

/-- 'millstreamlaw05.CopiesSteps', WHERE WHAT IT READS IS OF BULK AT MOST 1048576: true; the input reads as it did. -/
def copiesStepsUptoRow : OpenClaim := { program := "ytabifjolocmonaa", sum := "37813342d9710e73147385dd91cca3acc07b19e3ffaeaf7ed21839c2ca0861d4", func := "millstream/millstreamlaw05.CopiesSteps", spec := "copiesSteps", unfollowed := true, recurses := true, apart := false, narrowed := true }
def CopiesStepsUptoSaid : Prop := copiesStepsUptoRow.holds Try.pinned (OpenSpec.upto copiesStepsSpec)

/-- 'millstreamlaw14.MetaInit', WHERE WHAT IT READS IS OF BULK AT MOST 1048576: true; the input reads as it did. -/
def metaInitUptoRow : OpenClaim := { program := "ytabifjolocmonaa", sum := "37813342d9710e73147385dd91cca3acc07b19e3ffaeaf7ed21839c2ca0861d4", func := "millstream/millstreamlaw14.MetaInit", spec := "metaInit", unfollowed := true, recurses := true, apart := false, narrowed := true }
def MetaInitUptoSaid : Prop := metaInitUptoRow.holds Try.pinned (OpenSpec.upto metaInitSpec)

/-- 'millstreamlaw02.MembufNil', WHERE WHAT IT READS IS OF BULK AT MOST 1048576: true; the input reads as it did. -/
def membufNilUptoRow : OpenClaim := { program := "ytabifjolocmonaa", sum := "37813342d9710e73147385dd91cca3acc07b19e3ffaeaf7ed21839c2ca0861d4", func := "millstream/millstreamlaw02.MembufNil", spec := "membufNil", inPlace := ["sync/atomic.AddInt64", "sync/atomic.LoadUint64", "sync/atomic.CompareAndSwapUint64", "sync/atomic.AddUint64", "sync/atomic.LoadInt64"], apart := false, narrowed := true }
def MembufNilUptoSaid : Prop := membufNilUptoRow.holds Try.pinned (OpenSpec.upto membufNilSpec)

end Rows
end Go.Proofs.Ytabifjolocmonaa
