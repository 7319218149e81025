/-
  No cell of these rows narrows 'for every input' (looked for: loops, veiled, ifaces, maps, wideKeys, modest, calm, conditions, laid).
  DERIVED. THE GIVEN ROWS OF THIS SEAT. 10 by the template 'for every input the law returns true; each argument reads behind the call as it read before'; 0 by the template 'total and deterministic' (their statements: YtkbjbpaeoopkfaaTotals.lean).
  GIVEN WITH THE SEED: the statements are not yours to turn. If you find one false, say at which input.
  Laid BY PROGRAM, IN A SANDBOX (cutbox-rows.mjs): the forced cells as the released guide's own fill.sh prints them over the translation 7272d03279ee3fba… (all of the seat's roots in one cut). By AI agents, Wed Nov 11 2026. No macro, syntax, notation, axiom, sorry.
-/
import Derived.Test.YtkbjbpaeoopkfaaChecked
import GoSem.Claim
import GoSem.ClaimJoined
import GoSem.ClaimMapViews
import Derived.JoinedTies
import Derived.KernelRfl
namespace Go.Proofs.Ytkbjbpaeoopkfaa
/- THE CELL 'sum', in the pinned program and in every row, IS THE sha256 OF THE DUMP (.gsa) THAT YtkbjbpaeoopkfaaProg.lean LOADS. Nothing in Lean hashes anything: it is a label: what it is worth is what the hold of that sum in a sandbox is worth. -/
noncomputable def Try.pinned : Pinned := { name := "ytkbjbpaeoopkfaa", sum := "7272d03279ee3fbab7098358a1256eb12d67f44ab8746796125aaded9a89b9af", checked := Try.checked }
namespace Rows
def none {H : Type} : Left H := { results := [], args := [] }

/-- 'millstreamlaw34.CommandReads': WHATEVER THE INPUT: true; the input reads as it did. -/
def commandReadsSpec : ChangeSpec := { name := "commandReads", fn := fun _ => fun
  | [d] => { results := [.lit (.bool true)], args := [d] }
  | _ => none }
def commandReadsRow : OpenClaim := { program := "ytkbjbpaeoopkfaa", sum := "7272d03279ee3fbab7098358a1256eb12d67f44ab8746796125aaded9a89b9af", func := "millstream/millstreamlaw34.CommandReads", spec := "commandReads", unfollowed := true, recurses := true, apart := false }
def CommandReadsSaid : Prop := commandReadsRow.holds Try.pinned (OpenSpec.ofChange commandReadsSpec)

/-- ITS FALSE NEIGHBOUR: 'it returns false'. Refute it at one input. -/
def commandReadsWrong : ChangeSpec := { name := "commandReads", fn := fun _ => fun
  | [d] => { results := [.lit (.bool false)], args := [d] }
  | _ => none }
def CommandReadsWrongFalsely : Prop := commandReadsRow.holds Try.pinned (OpenSpec.ofChange commandReadsWrong)

/-- 'millstreamlaw34.CommandAnswers': WHATEVER THE INPUT: true; the input reads as it did. -/
def commandAnswersSpec : ChangeSpec := { name := "commandAnswers", fn := fun _ => fun
  | [d1, d2, d3] => { results := [.lit (.bool true)], args := [d1, d2, d3] }
  | _ => none }
def commandAnswersRow : OpenClaim := { program := "ytkbjbpaeoopkfaa", sum := "7272d03279ee3fbab7098358a1256eb12d67f44ab8746796125aaded9a89b9af", func := "millstream/millstreamlaw34.CommandAnswers", spec := "commandAnswers", unfollowed := true, recurses := true, apart := false }
def CommandAnswersSaid : Prop := commandAnswersRow.holds Try.pinned (OpenSpec.ofChange commandAnswersSpec)

/-- ITS FALSE NEIGHBOUR: 'it returns false'. Refute it at one input. -/
def commandAnswersWrong : ChangeSpec := { name := "commandAnswers", fn := fun _ => fun
  | [d1, d2, d3] => { results := [.lit (.bool false)], args := [d1, d2, d3] }
  | _ => none }
def CommandAnswersWrongFalsely : Prop := commandAnswersRow.holds Try.pinned (OpenSpec.ofChange commandAnswersWrong)

/-- 'millstreamlaw34.CommandBytes': WHATEVER THE INPUT: true; the input reads as it did. -/
def commandBytesSpec : ChangeSpec := { name := "commandBytes", fn := fun _ => fun
  | [d] => { results := [.lit (.bool true)], args := [d] }
  | _ => none }
def commandBytesRow : OpenClaim := { program := "ytkbjbpaeoopkfaa", sum := "7272d03279ee3fbab7098358a1256eb12d67f44ab8746796125aaded9a89b9af", func := "millstream/millstreamlaw34.CommandBytes", spec := "commandBytes", unfollowed := true, recurses := true, apart := false }
def CommandBytesSaid : Prop := commandBytesRow.holds Try.pinned (OpenSpec.ofChange commandBytesSpec)

/-- ITS FALSE NEIGHBOUR: 'it returns false'. Refute it at one input. -/
def commandBytesWrong : ChangeSpec := { name := "commandBytes", fn := fun _ => fun
  | [d] => { results := [.lit (.bool false)], args := [d] }
  | _ => none }
def CommandBytesWrongFalsely : Prop := commandBytesRow.holds Try.pinned (OpenSpec.ofChange commandBytesWrong)

/-- 'millstreamlaw05.CopiesNil': WHATEVER THE INPUT: true; the input reads as it did. -/
def copiesNilSpec : ChangeSpec := { name := "copiesNil", fn := fun _ => fun
  | [d] => { results := [.lit (.bool true)], args := [d] }
  | _ => none }
def copiesNilRow : OpenClaim := { program := "ytkbjbpaeoopkfaa", sum := "7272d03279ee3fbab7098358a1256eb12d67f44ab8746796125aaded9a89b9af", func := "millstream/millstreamlaw05.CopiesNil", spec := "copiesNil", unfollowed := true, recurses := true, apart := false }
def CopiesNilSaid : Prop := copiesNilRow.holds Try.pinned (OpenSpec.ofChange copiesNilSpec)

/-- ITS FALSE NEIGHBOUR: 'it returns false'. Refute it at one input. -/
def copiesNilWrong : ChangeSpec := { name := "copiesNil", fn := fun _ => fun
  | [d] => { results := [.lit (.bool false)], args := [d] }
  | _ => none }
def CopiesNilWrongFalsely : Prop := copiesNilRow.holds Try.pinned (OpenSpec.ofChange copiesNilWrong)

/-- 'millstreamlaw05.CopiesSteps': WHATEVER THE INPUT: true; the input reads as it did. -/
def copiesStepsSpec : ChangeSpec := { name := "copiesSteps", fn := fun _ => fun
  | [d1, d2, d3, d4, d5] => { results := [.lit (.bool true)], args := [d1, d2, d3, d4, d5] }
  | _ => none }
def copiesStepsRow : OpenClaim := { program := "ytkbjbpaeoopkfaa", sum := "7272d03279ee3fbab7098358a1256eb12d67f44ab8746796125aaded9a89b9af", func := "millstream/millstreamlaw05.CopiesSteps", spec := "copiesSteps", unfollowed := true, recurses := true, apart := false }
def CopiesStepsSaid : Prop := copiesStepsRow.holds Try.pinned (OpenSpec.ofChange copiesStepsSpec)

/-- ITS FALSE NEIGHBOUR: 'it returns false'. Refute it at one input. -/
def copiesStepsWrong : ChangeSpec := { name := "copiesSteps", fn := fun _ => fun
  | [d1, d2, d3, d4, d5] => { results := [.lit (.bool false)], args := [d1, d2, d3, d4, d5] }
  | _ => none }
def CopiesStepsWrongFalsely : Prop := copiesStepsRow.holds Try.pinned (OpenSpec.ofChange copiesStepsWrong)

/-- 'millstreamlaw02.MembufCas': WHATEVER THE INPUT: true; the input reads as it did. -/
def membufCasSpec : ChangeSpec := { name := "membufCas", fn := fun _ => fun
  | [d1, d2, d3, d4, d5] => { results := [.lit (.bool true)], args := [d1, d2, d3, d4, d5] }
  | _ => none }
def membufCasRow : OpenClaim := { program := "ytkbjbpaeoopkfaa", sum := "7272d03279ee3fbab7098358a1256eb12d67f44ab8746796125aaded9a89b9af", func := "millstream/millstreamlaw02.MembufCas", spec := "membufCas", inPlace := ["sync/atomic.AddInt64", "sync/atomic.LoadUint64", "sync/atomic.CompareAndSwapUint64", "sync/atomic.AddUint64", "sync/atomic.LoadInt64"], apart := false }
def MembufCasSaid : Prop := membufCasRow.holds Try.pinned (OpenSpec.ofChange membufCasSpec)

/-- ITS FALSE NEIGHBOUR: 'it returns false'. Refute it at one input. -/
def membufCasWrong : ChangeSpec := { name := "membufCas", fn := fun _ => fun
  | [d1, d2, d3, d4, d5] => { results := [.lit (.bool false)], args := [d1, d2, d3, d4, d5] }
  | _ => none }
def MembufCasWrongFalsely : Prop := membufCasRow.holds Try.pinned (OpenSpec.ofChange membufCasWrong)

/-- 'millstreamlaw14.MetaInit': WHATEVER THE INPUT: true; the input reads as it did. -/
def metaInitSpec : ChangeSpec := { name := "metaInit", fn := fun _ => fun
  | [d1, d2] => { results := [.lit (.bool true)], args := [d1, d2] }
  | _ => none }
def metaInitRow : OpenClaim := { program := "ytkbjbpaeoopkfaa", sum := "7272d03279ee3fbab7098358a1256eb12d67f44ab8746796125aaded9a89b9af", func := "millstream/millstreamlaw14.MetaInit", spec := "metaInit", unfollowed := true, recurses := true, apart := false }
def MetaInitSaid : Prop := metaInitRow.holds Try.pinned (OpenSpec.ofChange metaInitSpec)

/-- ITS FALSE NEIGHBOUR: 'it returns false'. Refute it at one input. -/
def metaInitWrong : ChangeSpec := { name := "metaInit", fn := fun _ => fun
  | [d1, d2] => { results := [.lit (.bool false)], args := [d1, d2] }
  | _ => none }
def MetaInitWrongFalsely : Prop := metaInitRow.holds Try.pinned (OpenSpec.ofChange metaInitWrong)

/-- 'millstreamlaw02.MembufOwn': WHATEVER THE INPUT: true; the input reads as it did. -/
def membufOwnSpec : ChangeSpec := { name := "membufOwn", fn := fun _ => fun
  | [d1, d2] => { results := [.lit (.bool true)], args := [d1, d2] }
  | _ => none }
def membufOwnRow : OpenClaim := { program := "ytkbjbpaeoopkfaa", sum := "7272d03279ee3fbab7098358a1256eb12d67f44ab8746796125aaded9a89b9af", func := "millstream/millstreamlaw02.MembufOwn", spec := "membufOwn", inPlace := ["sync/atomic.AddInt64", "sync/atomic.LoadUint64", "sync/atomic.CompareAndSwapUint64", "sync/atomic.AddUint64", "sync/atomic.LoadInt64"], apart := false }
def MembufOwnSaid : Prop := membufOwnRow.holds Try.pinned (OpenSpec.ofChange membufOwnSpec)

/-- ITS FALSE NEIGHBOUR: 'it returns false'. Refute it at one input. -/
def membufOwnWrong : ChangeSpec := { name := "membufOwn", fn := fun _ => fun
  | [d1, d2] => { results := [.lit (.bool false)], args := [d1, d2] }
  | _ => none }
def MembufOwnWrongFalsely : Prop := membufOwnRow.holds Try.pinned (OpenSpec.ofChange membufOwnWrong)

/-- 'millstreamlaw02.MembufNil': WHATEVER THE INPUT: true; the input reads as it did. -/
def membufNilSpec : ChangeSpec := { name := "membufNil", fn := fun _ => fun
  | [d] => { results := [.lit (.bool true)], args := [d] }
  | _ => none }
def membufNilRow : OpenClaim := { program := "ytkbjbpaeoopkfaa", sum := "7272d03279ee3fbab7098358a1256eb12d67f44ab8746796125aaded9a89b9af", func := "millstream/millstreamlaw02.MembufNil", spec := "membufNil", inPlace := ["sync/atomic.AddInt64", "sync/atomic.LoadUint64", "sync/atomic.CompareAndSwapUint64", "sync/atomic.AddUint64", "sync/atomic.LoadInt64"], apart := false }
def MembufNilSaid : Prop := membufNilRow.holds Try.pinned (OpenSpec.ofChange membufNilSpec)

/-- ITS FALSE NEIGHBOUR: 'it returns false'. Refute it at one input. -/
def membufNilWrong : ChangeSpec := { name := "membufNil", fn := fun _ => fun
  | [d] => { results := [.lit (.bool false)], args := [d] }
  | _ => none }
def MembufNilWrongFalsely : Prop := membufNilRow.holds Try.pinned (OpenSpec.ofChange membufNilWrong)

/-- 'millstreamlaw05.CopiesBack': WHATEVER THE INPUT: true; the input reads as it did. -/
def copiesBackSpec : ChangeSpec := { name := "copiesBack", fn := fun _ => fun
  | [d1, d2, d3] => { results := [.lit (.bool true)], args := [d1, d2, d3] }
  | _ => none }
def copiesBackRow : OpenClaim := { program := "ytkbjbpaeoopkfaa", sum := "7272d03279ee3fbab7098358a1256eb12d67f44ab8746796125aaded9a89b9af", func := "millstream/millstreamlaw05.CopiesBack", spec := "copiesBack", inPlace := ["sync/atomic.AddInt64", "sync/atomic.LoadUint64", "sync/atomic.CompareAndSwapUint64", "sync/atomic.AddUint64"], unfollowed := true, recurses := true, apart := false }
def CopiesBackSaid : Prop := copiesBackRow.holds Try.pinned (OpenSpec.ofChange copiesBackSpec)

/-- ITS FALSE NEIGHBOUR: 'it returns false'. Refute it at one input. -/
def copiesBackWrong : ChangeSpec := { name := "copiesBack", fn := fun _ => fun
  | [d1, d2, d3] => { results := [.lit (.bool false)], args := [d1, d2, d3] }
  | _ => none }
def CopiesBackWrongFalsely : Prop := copiesBackRow.holds Try.pinned (OpenSpec.ofChange copiesBackWrong)

/- THE SECOND FORM. 'bulk': how many values and letters a reading holds, each counted each time it is reached (what is shared counts as often as it is met; a slice's spare places count too). A statement '..UptoSaid' is the law's where the arguments, and the package variables that the reading takes, are together of bulk at most 1048576: NARROWER than '..Said'. Prove '..Said' where nothing that the law and all that it calls make is longer than what came in: it says more and counts as full. Else prove '..UptoSaid'. A law counts once. -/
mutual
def uptoBulk {H : Type} : DataW H → Nat
  | .lit (.string bytes) => bytes.length + 1
  | .lit _ => 1
  | .nil => 1
  | .ptr d => uptoBulk d + 1
  | .slice elems spare => uptoBulkAll elems + uptoBulkAll spare + 1
  | .agg parts => uptoBulkAll parts + 1
  | .iface _ d => uptoBulk d + 1
  | .map entries => uptoBulkEntries entries + 1
  | .held _ => 1
def uptoBulkAll {H : Type} : List (DataW H) → Nat
  | [] => 0
  | d :: r => uptoBulk d + uptoBulkAll r
def uptoBulkEntries {H : Type} : List (Lit × DataW H) → Nat
  | [] => 0
  | x :: r => uptoBulkEntry x + uptoBulkEntries r
def uptoBulkEntry {H : Type} : Lit × DataW H → Nat
  | (.string bytes, d) => bytes.length + uptoBulk d + 1
  | (_, d) => uptoBulk d + 1
 end
def uptoSmall : (H : Type) → List (DataW H) → Bool := fun _ ds => decide (uptoBulkAll ds ≤ 1048576)
def OpenSpec.upto (s : _root_.Go.ChangeSpec) : _root_.Go.OpenSpec := { _root_.Go.OpenSpec.ofChange s with cond := some uptoSmall }

/-- 'millstreamlaw34.CommandReads', WHERE WHAT IT READS IS OF BULK AT MOST 1048576: true; the input reads as it did. -/
def commandReadsUptoRow : OpenClaim := { program := "ytkbjbpaeoopkfaa", sum := "7272d03279ee3fbab7098358a1256eb12d67f44ab8746796125aaded9a89b9af", func := "millstream/millstreamlaw34.CommandReads", spec := "commandReads", unfollowed := true, recurses := true, apart := false, narrowed := true }
def CommandReadsUptoSaid : Prop := commandReadsUptoRow.holds Try.pinned (OpenSpec.upto commandReadsSpec)

/-- 'millstreamlaw34.CommandAnswers', WHERE WHAT IT READS IS OF BULK AT MOST 1048576: true; the input reads as it did. -/
def commandAnswersUptoRow : OpenClaim := { program := "ytkbjbpaeoopkfaa", sum := "7272d03279ee3fbab7098358a1256eb12d67f44ab8746796125aaded9a89b9af", func := "millstream/millstreamlaw34.CommandAnswers", spec := "commandAnswers", unfollowed := true, recurses := true, apart := false, narrowed := true }
def CommandAnswersUptoSaid : Prop := commandAnswersUptoRow.holds Try.pinned (OpenSpec.upto commandAnswersSpec)

/-- 'millstreamlaw34.CommandBytes', WHERE WHAT IT READS IS OF BULK AT MOST 1048576: true; the input reads as it did. -/
def commandBytesUptoRow : OpenClaim := { program := "ytkbjbpaeoopkfaa", sum := "7272d03279ee3fbab7098358a1256eb12d67f44ab8746796125aaded9a89b9af", func := "millstream/millstreamlaw34.CommandBytes", spec := "commandBytes", unfollowed := true, recurses := true, apart := false, narrowed := true }
def CommandBytesUptoSaid : Prop := commandBytesUptoRow.holds Try.pinned (OpenSpec.upto commandBytesSpec)

/-- 'millstreamlaw05.CopiesNil', WHERE WHAT IT READS IS OF BULK AT MOST 1048576: true; the input reads as it did. -/
def copiesNilUptoRow : OpenClaim := { program := "ytkbjbpaeoopkfaa", sum := "7272d03279ee3fbab7098358a1256eb12d67f44ab8746796125aaded9a89b9af", func := "millstream/millstreamlaw05.CopiesNil", spec := "copiesNil", unfollowed := true, recurses := true, apart := false, narrowed := true }
def CopiesNilUptoSaid : Prop := copiesNilUptoRow.holds Try.pinned (OpenSpec.upto copiesNilSpec)

/-- 'millstreamlaw05.CopiesSteps', WHERE WHAT IT READS IS OF BULK AT MOST 1048576: true; the input reads as it did. -/
def copiesStepsUptoRow : OpenClaim := { program := "ytkbjbpaeoopkfaa", sum := "7272d03279ee3fbab7098358a1256eb12d67f44ab8746796125aaded9a89b9af", func := "millstream/millstreamlaw05.CopiesSteps", spec := "copiesSteps", unfollowed := true, recurses := true, apart := false, narrowed := true }
def CopiesStepsUptoSaid : Prop := copiesStepsUptoRow.holds Try.pinned (OpenSpec.upto copiesStepsSpec)

/-- 'millstreamlaw02.MembufCas', WHERE WHAT IT READS IS OF BULK AT MOST 1048576: true; the input reads as it did. -/
def membufCasUptoRow : OpenClaim := { program := "ytkbjbpaeoopkfaa", sum := "7272d03279ee3fbab7098358a1256eb12d67f44ab8746796125aaded9a89b9af", func := "millstream/millstreamlaw02.MembufCas", spec := "membufCas", inPlace := ["sync/atomic.AddInt64", "sync/atomic.LoadUint64", "sync/atomic.CompareAndSwapUint64", "sync/atomic.AddUint64", "sync/atomic.LoadInt64"], apart := false, narrowed := true }
def MembufCasUptoSaid : Prop := membufCasUptoRow.holds Try.pinned (OpenSpec.upto membufCasSpec)

/-- 'millstreamlaw14.MetaInit', WHERE WHAT IT READS IS OF BULK AT MOST 1048576: true; the input reads as it did. -/
def metaInitUptoRow : OpenClaim := { program := "ytkbjbpaeoopkfaa", sum := "7272d03279ee3fbab7098358a1256eb12d67f44ab8746796125aaded9a89b9af", func := "millstream/millstreamlaw14.MetaInit", spec := "metaInit", unfollowed := true, recurses := true, apart := false, narrowed := true }
def MetaInitUptoSaid : Prop := metaInitUptoRow.holds Try.pinned (OpenSpec.upto metaInitSpec)

/-- 'millstreamlaw02.MembufOwn', WHERE WHAT IT READS IS OF BULK AT MOST 1048576: true; the input reads as it did. -/
def membufOwnUptoRow : OpenClaim := { program := "ytkbjbpaeoopkfaa", sum := "7272d03279ee3fbab7098358a1256eb12d67f44ab8746796125aaded9a89b9af", func := "millstream/millstreamlaw02.MembufOwn", spec := "membufOwn", inPlace := ["sync/atomic.AddInt64", "sync/atomic.LoadUint64", "sync/atomic.CompareAndSwapUint64", "sync/atomic.AddUint64", "sync/atomic.LoadInt64"], apart := false, narrowed := true }
def MembufOwnUptoSaid : Prop := membufOwnUptoRow.holds Try.pinned (OpenSpec.upto membufOwnSpec)

/-- 'millstreamlaw02.MembufNil', WHERE WHAT IT READS IS OF BULK AT MOST 1048576: true; the input reads as it did. -/
def membufNilUptoRow : OpenClaim := { program := "ytkbjbpaeoopkfaa", sum := "7272d03279ee3fbab7098358a1256eb12d67f44ab8746796125aaded9a89b9af", func := "millstream/millstreamlaw02.MembufNil", spec := "membufNil", inPlace := ["sync/atomic.AddInt64", "sync/atomic.LoadUint64", "sync/atomic.CompareAndSwapUint64", "sync/atomic.AddUint64", "sync/atomic.LoadInt64"], apart := false, narrowed := true }
def MembufNilUptoSaid : Prop := membufNilUptoRow.holds Try.pinned (OpenSpec.upto membufNilSpec)

/-- 'millstreamlaw05.CopiesBack', WHERE WHAT IT READS IS OF BULK AT MOST 1048576: true; the input reads as it did. -/
def copiesBackUptoRow : OpenClaim := { program := "ytkbjbpaeoopkfaa", sum := "7272d03279ee3fbab7098358a1256eb12d67f44ab8746796125aaded9a89b9af", func := "millstream/millstreamlaw05.CopiesBack", spec := "copiesBack", inPlace := ["sync/atomic.AddInt64", "sync/atomic.LoadUint64", "sync/atomic.CompareAndSwapUint64", "sync/atomic.AddUint64"], unfollowed := true, recurses := true, apart := false, narrowed := true }
def CopiesBackUptoSaid : Prop := copiesBackUptoRow.holds Try.pinned (OpenSpec.upto copiesBackSpec)

end Rows
end Go.Proofs.Ytkbjbpaeoopkfaa
