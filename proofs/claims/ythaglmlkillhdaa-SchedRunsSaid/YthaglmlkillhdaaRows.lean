/-
  No cell of these rows narrows 'for every input' (looked for: loops, veiled, ifaces, maps, wideKeys, modest, calm, conditions, laid).
  DERIVED. THE GIVEN ROWS OF THIS SEAT. 9 by the template 'for every input the law returns true; each argument reads behind the call as it read before'; 0 by the template 'total and deterministic' (their statements: YthaglmlkillhdaaTotals.lean).
  GIVEN WITH THE SEED: the statements are not yours to turn. If you find one false, say at which input.
  Laid BY PROGRAM, IN A SANDBOX (cutbox-rows.mjs): the forced cells as the released guide's own fill.sh prints them over the translation f3c2b7327fd55c2d… (all of the seat's roots in one cut). By AI agents, Wed Nov 11 2026. No macro, syntax, notation, axiom, sorry.
-/
import Derived.Test.YthaglmlkillhdaaChecked
import GoSem.Claim
import GoSem.ClaimJoined
import GoSem.ClaimMapViews
import Derived.JoinedTies
import Derived.KernelRfl
namespace Go.Proofs.Ythaglmlkillhdaa
/- THE CELL 'sum', in the pinned program and in every row, IS THE sha256 OF THE DUMP (.gsa) THAT YthaglmlkillhdaaProg.lean LOADS. Nothing in Lean hashes anything: it is a label: what it is worth is what the hold of that sum in a sandbox is worth. -/
noncomputable def Try.pinned : Pinned := { name := "ythaglmlkillhdaa", sum := "f3c2b7327fd55c2d03cf7bc9f277612a2b05c53598abbc818097e1bdf5587cf1", checked := Try.checked }
namespace Rows
def none {H : Type} : Left H := { results := [], args := [] }

/-- 'millstreamlaw05.CopiesSteps': WHATEVER THE INPUT: true; the input reads as it did. -/
def copiesStepsSpec : ChangeSpec := { name := "copiesSteps", fn := fun _ => fun
  | [d1, d2, d3, d4, d5] => { results := [.lit (.bool true)], args := [d1, d2, d3, d4, d5] }
  | _ => none }
def copiesStepsRow : OpenClaim := { program := "ythaglmlkillhdaa", sum := "f3c2b7327fd55c2d03cf7bc9f277612a2b05c53598abbc818097e1bdf5587cf1", func := "millstream/millstreamlaw05.CopiesSteps", spec := "copiesSteps", unfollowed := true, recurses := true, apart := false }
def CopiesStepsSaid : Prop := copiesStepsRow.holds Try.pinned (OpenSpec.ofChange copiesStepsSpec)

/-- ITS FALSE NEIGHBOUR: 'it returns false'. Refute it at one input. -/
def copiesStepsWrong : ChangeSpec := { name := "copiesSteps", fn := fun _ => fun
  | [d1, d2, d3, d4, d5] => { results := [.lit (.bool false)], args := [d1, d2, d3, d4, d5] }
  | _ => none }
def CopiesStepsWrongFalsely : Prop := copiesStepsRow.holds Try.pinned (OpenSpec.ofChange copiesStepsWrong)

/-- 'millstreamlaw02.MembufNil': WHATEVER THE INPUT: true; the input reads as it did. -/
def membufNilSpec : ChangeSpec := { name := "membufNil", fn := fun _ => fun
  | [d] => { results := [.lit (.bool true)], args := [d] }
  | _ => none }
def membufNilRow : OpenClaim := { program := "ythaglmlkillhdaa", sum := "f3c2b7327fd55c2d03cf7bc9f277612a2b05c53598abbc818097e1bdf5587cf1", func := "millstream/millstreamlaw02.MembufNil", spec := "membufNil", inPlace := ["sync/atomic.AddInt64", "sync/atomic.LoadUint64", "sync/atomic.CompareAndSwapUint64", "sync/atomic.AddUint64", "sync/atomic.LoadInt64"], apart := false }
def MembufNilSaid : Prop := membufNilRow.holds Try.pinned (OpenSpec.ofChange membufNilSpec)

/-- ITS FALSE NEIGHBOUR: 'it returns false'. Refute it at one input. -/
def membufNilWrong : ChangeSpec := { name := "membufNil", fn := fun _ => fun
  | [d] => { results := [.lit (.bool false)], args := [d] }
  | _ => none }
def MembufNilWrongFalsely : Prop := membufNilRow.holds Try.pinned (OpenSpec.ofChange membufNilWrong)

/-- 'millstreamlaw06.SchedSteps': WHATEVER THE INPUT: true; the input reads as it did. -/
def schedStepsSpec : ChangeSpec := { name := "schedSteps", fn := fun _ => fun
  | [d1, d2] => { results := [.lit (.bool true)], args := [d1, d2] }
  | _ => none }
def schedStepsRow : OpenClaim := { program := "ythaglmlkillhdaa", sum := "f3c2b7327fd55c2d03cf7bc9f277612a2b05c53598abbc818097e1bdf5587cf1", func := "millstream/millstreamlaw06.SchedSteps", spec := "schedSteps", inPlace := ["sync/atomic.AddInt64", "sync/atomic.LoadUint64", "sync/atomic.CompareAndSwapUint64", "sync/atomic.AddUint64", "sync/atomic.LoadInt64"], unfollowed := true, recurses := true, apart := false }
def SchedStepsSaid : Prop := schedStepsRow.holds Try.pinned (OpenSpec.ofChange schedStepsSpec)

/-- ITS FALSE NEIGHBOUR: 'it returns false'. Refute it at one input. -/
def schedStepsWrong : ChangeSpec := { name := "schedSteps", fn := fun _ => fun
  | [d1, d2] => { results := [.lit (.bool false)], args := [d1, d2] }
  | _ => none }
def SchedStepsWrongFalsely : Prop := schedStepsRow.holds Try.pinned (OpenSpec.ofChange schedStepsWrong)

/-- 'millstreamlaw06.SchedRuns': WHATEVER THE INPUT: true; the input reads as it did. -/
def schedRunsSpec : ChangeSpec := { name := "schedRuns", fn := fun _ => fun
  | [d1, d2] => { results := [.lit (.bool true)], args := [d1, d2] }
  | _ => none }
def schedRunsRow : OpenClaim := { program := "ythaglmlkillhdaa", sum := "f3c2b7327fd55c2d03cf7bc9f277612a2b05c53598abbc818097e1bdf5587cf1", func := "millstream/millstreamlaw06.SchedRuns", spec := "schedRuns", inPlace := ["sync/atomic.AddInt64", "sync/atomic.LoadUint64", "sync/atomic.CompareAndSwapUint64", "sync/atomic.AddUint64"], unfollowed := true, recurses := true, apart := false }
def SchedRunsSaid : Prop := schedRunsRow.holds Try.pinned (OpenSpec.ofChange schedRunsSpec)

/-- ITS FALSE NEIGHBOUR: 'it returns false'. Refute it at one input. -/
def schedRunsWrong : ChangeSpec := { name := "schedRuns", fn := fun _ => fun
  | [d1, d2] => { results := [.lit (.bool false)], args := [d1, d2] }
  | _ => none }
def SchedRunsWrongFalsely : Prop := schedRunsRow.holds Try.pinned (OpenSpec.ofChange schedRunsWrong)

/-- 'millstreamlaw06.SchedSilence': WHATEVER THE INPUT: true; the input reads as it did. -/
def schedSilenceSpec : ChangeSpec := { name := "schedSilence", fn := fun _ => fun
  | [d1, d2, d3] => { results := [.lit (.bool true)], args := [d1, d2, d3] }
  | _ => none }
def schedSilenceRow : OpenClaim := { program := "ythaglmlkillhdaa", sum := "f3c2b7327fd55c2d03cf7bc9f277612a2b05c53598abbc818097e1bdf5587cf1", func := "millstream/millstreamlaw06.SchedSilence", spec := "schedSilence", inPlace := ["sync/atomic.AddInt64", "sync/atomic.LoadUint64", "sync/atomic.CompareAndSwapUint64", "sync/atomic.AddUint64"], unfollowed := true, recurses := true, apart := false }
def SchedSilenceSaid : Prop := schedSilenceRow.holds Try.pinned (OpenSpec.ofChange schedSilenceSpec)

/-- ITS FALSE NEIGHBOUR: 'it returns false'. Refute it at one input. -/
def schedSilenceWrong : ChangeSpec := { name := "schedSilence", fn := fun _ => fun
  | [d1, d2, d3] => { results := [.lit (.bool false)], args := [d1, d2, d3] }
  | _ => none }
def SchedSilenceWrongFalsely : Prop := schedSilenceRow.holds Try.pinned (OpenSpec.ofChange schedSilenceWrong)

/-- 'millstreamlaw06.SchedPlays': WHATEVER THE INPUT: true; the input reads as it did. -/
def schedPlaysSpec : ChangeSpec := { name := "schedPlays", fn := fun _ => fun
  | [d1, d2, d3] => { results := [.lit (.bool true)], args := [d1, d2, d3] }
  | _ => none }
def schedPlaysRow : OpenClaim := { program := "ythaglmlkillhdaa", sum := "f3c2b7327fd55c2d03cf7bc9f277612a2b05c53598abbc818097e1bdf5587cf1", func := "millstream/millstreamlaw06.SchedPlays", spec := "schedPlays", inPlace := ["sync/atomic.AddInt64", "sync/atomic.LoadUint64", "sync/atomic.CompareAndSwapUint64", "sync/atomic.AddUint64"], unfollowed := true, recurses := true, apart := false }
def SchedPlaysSaid : Prop := schedPlaysRow.holds Try.pinned (OpenSpec.ofChange schedPlaysSpec)

/-- ITS FALSE NEIGHBOUR: 'it returns false'. Refute it at one input. -/
def schedPlaysWrong : ChangeSpec := { name := "schedPlays", fn := fun _ => fun
  | [d1, d2, d3] => { results := [.lit (.bool false)], args := [d1, d2, d3] }
  | _ => none }
def SchedPlaysWrongFalsely : Prop := schedPlaysRow.holds Try.pinned (OpenSpec.ofChange schedPlaysWrong)

/-- 'millstreamlaw07.RingputSteps': WHATEVER THE INPUT: true; the input reads as it did. -/
def ringputStepsSpec : ChangeSpec := { name := "ringputSteps", fn := fun _ => fun
  | [d1, d2, d3, d4] => { results := [.lit (.bool true)], args := [d1, d2, d3, d4] }
  | _ => none }
def ringputStepsRow : OpenClaim := { program := "ythaglmlkillhdaa", sum := "f3c2b7327fd55c2d03cf7bc9f277612a2b05c53598abbc818097e1bdf5587cf1", func := "millstream/millstreamlaw07.RingputSteps", spec := "ringputSteps", inPlace := ["sync/atomic.AddInt64", "sync/atomic.LoadUint64", "sync/atomic.CompareAndSwapUint64", "sync/atomic.AddUint64"], unfollowed := true, recurses := true, apart := false }
def RingputStepsSaid : Prop := ringputStepsRow.holds Try.pinned (OpenSpec.ofChange ringputStepsSpec)

/-- ITS FALSE NEIGHBOUR: 'it returns false'. Refute it at one input. -/
def ringputStepsWrong : ChangeSpec := { name := "ringputSteps", fn := fun _ => fun
  | [d1, d2, d3, d4] => { results := [.lit (.bool false)], args := [d1, d2, d3, d4] }
  | _ => none }
def RingputStepsWrongFalsely : Prop := ringputStepsRow.holds Try.pinned (OpenSpec.ofChange ringputStepsWrong)

/-- 'millstreamlaw07.RingputNil': WHATEVER THE INPUT: true; the input reads as it did. -/
def ringputNilSpec : ChangeSpec := { name := "ringputNil", fn := fun _ => fun
  | [d] => { results := [.lit (.bool true)], args := [d] }
  | _ => none }
def ringputNilRow : OpenClaim := { program := "ythaglmlkillhdaa", sum := "f3c2b7327fd55c2d03cf7bc9f277612a2b05c53598abbc818097e1bdf5587cf1", func := "millstream/millstreamlaw07.RingputNil", spec := "ringputNil", inPlace := ["sync/atomic.AddInt64", "sync/atomic.LoadUint64", "sync/atomic.CompareAndSwapUint64", "sync/atomic.AddUint64"], unfollowed := true, recurses := true, apart := false }
def RingputNilSaid : Prop := ringputNilRow.holds Try.pinned (OpenSpec.ofChange ringputNilSpec)

/-- ITS FALSE NEIGHBOUR: 'it returns false'. Refute it at one input. -/
def ringputNilWrong : ChangeSpec := { name := "ringputNil", fn := fun _ => fun
  | [d] => { results := [.lit (.bool false)], args := [d] }
  | _ => none }
def RingputNilWrongFalsely : Prop := ringputNilRow.holds Try.pinned (OpenSpec.ofChange ringputNilWrong)

/-- 'millstreamlaw07.RingputAlone': WHATEVER THE INPUT: true; the input reads as it did. -/
def ringputAloneSpec : ChangeSpec := { name := "ringputAlone", fn := fun _ => fun
  | [d1, d2] => { results := [.lit (.bool true)], args := [d1, d2] }
  | _ => none }
def ringputAloneRow : OpenClaim := { program := "ythaglmlkillhdaa", sum := "f3c2b7327fd55c2d03cf7bc9f277612a2b05c53598abbc818097e1bdf5587cf1", func := "millstream/millstreamlaw07.RingputAlone", spec := "ringputAlone", inPlace := ["sync/atomic.AddInt64", "sync/atomic.LoadUint64", "sync/atomic.CompareAndSwapUint64", "sync/atomic.AddUint64"], unfollowed := true, recurses := true, apart := false }
def RingputAloneSaid : Prop := ringputAloneRow.holds Try.pinned (OpenSpec.ofChange ringputAloneSpec)

/-- ITS FALSE NEIGHBOUR: 'it returns false'. Refute it at one input. -/
def ringputAloneWrong : ChangeSpec := { name := "ringputAlone", fn := fun _ => fun
  | [d1, d2] => { results := [.lit (.bool false)], args := [d1, d2] }
  | _ => none }
def RingputAloneWrongFalsely : Prop := ringputAloneRow.holds Try.pinned (OpenSpec.ofChange ringputAloneWrong)

/- THE SECOND FORM. 'bulk': how many values and letters a reading holds, each counted each time it is reached (what is shared counts as often as it is met; a slice's spare places count too). A statement '..UptoSaid' is the law's where the arguments, and the package variables that the reading takes, are together of bulk at most 1048576: NARROWER than '..Said'. Prove '..Said' where nothing that the law and all that it calls make is longer than what came in: it says more and counts as full. Else prove '..UptoSaid'. A law counts once. -/
mutual
def uptoBulk {H : Type} : DataW H → Nat
  | .lit (.string bytes) => bytes.length + 1
  | .lit _ => 1
  | .nil => 1
  | .ptr d => uptoBulk d + 1
  | .slice elems spare => uptoBulkAll elems + uptoBulkAll spare + 1
  | .agg parts => uptoBulkAll parts + 1
  | .iface _ d => uptoBulk d + 1
  | .map entries => uptoBulkEntries entries + 1
  | .held _ => 1
def uptoBulkAll {H : Type} : List (DataW H) → Nat
  | [] => 0
  | d :: r => uptoBulk d + uptoBulkAll r
def uptoBulkEntries {H : Type} : List (Lit × DataW H) → Nat
  | [] => 0
  | x :: r => uptoBulkEntry x + uptoBulkEntries r
def uptoBulkEntry {H : Type} : Lit × DataW H → Nat
  | (.string bytes, d) => bytes.length + uptoBulk d + 1
  | (_, d) => uptoBulk d + 1
 end
def uptoSmall : (H : Type) → List (DataW H) → Bool := fun _ ds => decide (uptoBulkAll ds ≤ 1048576)
def OpenSpec.upto (s : _root_.Go.ChangeSpec) : _root_.Go.OpenSpec := { _root_.Go.OpenSpec.ofChange s with cond := some uptoSmall }

/-- 'millstreamlaw05.CopiesSteps', WHERE WHAT IT READS IS OF BULK AT MOST 1048576: true; the input reads as it did. -/
def copiesStepsUptoRow : OpenClaim := { program := "ythaglmlkillhdaa", sum := "f3c2b7327fd55c2d03cf7bc9f277612a2b05c53598abbc818097e1bdf5587cf1", func := "millstream/millstreamlaw05.CopiesSteps", spec := "copiesSteps", unfollowed := true, recurses := true, apart := false, narrowed := true }
def CopiesStepsUptoSaid : Prop := copiesStepsUptoRow.holds Try.pinned (OpenSpec.upto copiesStepsSpec)

/-- 'millstreamlaw02.MembufNil', WHERE WHAT IT READS IS OF BULK AT MOST 1048576: true; the input reads as it did. -/
def membufNilUptoRow : OpenClaim := { program := "ythaglmlkillhdaa", sum := "f3c2b7327fd55c2d03cf7bc9f277612a2b05c53598abbc818097e1bdf5587cf1", func := "millstream/millstreamlaw02.MembufNil", spec := "membufNil", inPlace := ["sync/atomic.AddInt64", "sync/atomic.LoadUint64", "sync/atomic.CompareAndSwapUint64", "sync/atomic.AddUint64", "sync/atomic.LoadInt64"], apart := false, narrowed := true }
def MembufNilUptoSaid : Prop := membufNilUptoRow.holds Try.pinned (OpenSpec.upto membufNilSpec)

/-- 'millstreamlaw06.SchedSteps', WHERE WHAT IT READS IS OF BULK AT MOST 1048576: true; the input reads as it did. -/
def schedStepsUptoRow : OpenClaim := { program := "ythaglmlkillhdaa", sum := "f3c2b7327fd55c2d03cf7bc9f277612a2b05c53598abbc818097e1bdf5587cf1", func := "millstream/millstreamlaw06.SchedSteps", spec := "schedSteps", inPlace := ["sync/atomic.AddInt64", "sync/atomic.LoadUint64", "sync/atomic.CompareAndSwapUint64", "sync/atomic.AddUint64", "sync/atomic.LoadInt64"], unfollowed := true, recurses := true, apart := false, narrowed := true }
def SchedStepsUptoSaid : Prop := schedStepsUptoRow.holds Try.pinned (OpenSpec.upto schedStepsSpec)

/-- 'millstreamlaw06.SchedRuns', WHERE WHAT IT READS IS OF BULK AT MOST 1048576: true; the input reads as it did. -/
def schedRunsUptoRow : OpenClaim := { program := "ythaglmlkillhdaa", sum := "f3c2b7327fd55c2d03cf7bc9f277612a2b05c53598abbc818097e1bdf5587cf1", func := "millstream/millstreamlaw06.SchedRuns", spec := "schedRuns", inPlace := ["sync/atomic.AddInt64", "sync/atomic.LoadUint64", "sync/atomic.CompareAndSwapUint64", "sync/atomic.AddUint64"], unfollowed := true, recurses := true, apart := false, narrowed := true }
def SchedRunsUptoSaid : Prop := schedRunsUptoRow.holds Try.pinned (OpenSpec.upto schedRunsSpec)

/-- 'millstreamlaw06.SchedSilence', WHERE WHAT IT READS IS OF BULK AT MOST 1048576: true; the input reads as it did. -/
def schedSilenceUptoRow : OpenClaim := { program := "ythaglmlkillhdaa", sum := "f3c2b7327fd55c2d03cf7bc9f277612a2b05c53598abbc818097e1bdf5587cf1", func := "millstream/millstreamlaw06.SchedSilence", spec := "schedSilence", inPlace := ["sync/atomic.AddInt64", "sync/atomic.LoadUint64", "sync/atomic.CompareAndSwapUint64", "sync/atomic.AddUint64"], unfollowed := true, recurses := true, apart := false, narrowed := true }
def SchedSilenceUptoSaid : Prop := schedSilenceUptoRow.holds Try.pinned (OpenSpec.upto schedSilenceSpec)

/-- 'millstreamlaw06.SchedPlays', WHERE WHAT IT READS IS OF BULK AT MOST 1048576: true; the input reads as it did. -/
def schedPlaysUptoRow : OpenClaim := { program := "ythaglmlkillhdaa", sum := "f3c2b7327fd55c2d03cf7bc9f277612a2b05c53598abbc818097e1bdf5587cf1", func := "millstream/millstreamlaw06.SchedPlays", spec := "schedPlays", inPlace := ["sync/atomic.AddInt64", "sync/atomic.LoadUint64", "sync/atomic.CompareAndSwapUint64", "sync/atomic.AddUint64"], unfollowed := true, recurses := true, apart := false, narrowed := true }
def SchedPlaysUptoSaid : Prop := schedPlaysUptoRow.holds Try.pinned (OpenSpec.upto schedPlaysSpec)

/-- 'millstreamlaw07.RingputSteps', WHERE WHAT IT READS IS OF BULK AT MOST 1048576: true; the input reads as it did. -/
def ringputStepsUptoRow : OpenClaim := { program := "ythaglmlkillhdaa", sum := "f3c2b7327fd55c2d03cf7bc9f277612a2b05c53598abbc818097e1bdf5587cf1", func := "millstream/millstreamlaw07.RingputSteps", spec := "ringputSteps", inPlace := ["sync/atomic.AddInt64", "sync/atomic.LoadUint64", "sync/atomic.CompareAndSwapUint64", "sync/atomic.AddUint64"], unfollowed := true, recurses := true, apart := false, narrowed := true }
def RingputStepsUptoSaid : Prop := ringputStepsUptoRow.holds Try.pinned (OpenSpec.upto ringputStepsSpec)

/-- 'millstreamlaw07.RingputNil', WHERE WHAT IT READS IS OF BULK AT MOST 1048576: true; the input reads as it did. -/
def ringputNilUptoRow : OpenClaim := { program := "ythaglmlkillhdaa", sum := "f3c2b7327fd55c2d03cf7bc9f277612a2b05c53598abbc818097e1bdf5587cf1", func := "millstream/millstreamlaw07.RingputNil", spec := "ringputNil", inPlace := ["sync/atomic.AddInt64", "sync/atomic.LoadUint64", "sync/atomic.CompareAndSwapUint64", "sync/atomic.AddUint64"], unfollowed := true, recurses := true, apart := false, narrowed := true }
def RingputNilUptoSaid : Prop := ringputNilUptoRow.holds Try.pinned (OpenSpec.upto ringputNilSpec)

/-- 'millstreamlaw07.RingputAlone', WHERE WHAT IT READS IS OF BULK AT MOST 1048576: true; the input reads as it did. -/
def ringputAloneUptoRow : OpenClaim := { program := "ythaglmlkillhdaa", sum := "f3c2b7327fd55c2d03cf7bc9f277612a2b05c53598abbc818097e1bdf5587cf1", func := "millstream/millstreamlaw07.RingputAlone", spec := "ringputAlone", inPlace := ["sync/atomic.AddInt64", "sync/atomic.LoadUint64", "sync/atomic.CompareAndSwapUint64", "sync/atomic.AddUint64"], unfollowed := true, recurses := true, apart := false, narrowed := true }
def RingputAloneUptoSaid : Prop := ringputAloneUptoRow.holds Try.pinned (OpenSpec.upto ringputAloneSpec)

end Rows
end Go.Proofs.Ythaglmlkillhdaa
