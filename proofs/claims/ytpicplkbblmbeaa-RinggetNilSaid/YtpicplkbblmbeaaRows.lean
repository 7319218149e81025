/-
  No cell of these rows narrows 'for every input' (looked for: loops, veiled, ifaces, maps, wideKeys, modest, calm, conditions, laid).
  DERIVED. THE GIVEN ROWS OF THIS SEAT. 7 by the template 'for every input the law returns true; each argument reads behind the call as it read before'; 0 by the template 'total and deterministic' (their statements: YtpicplkbblmbeaaTotals.lean).
  GIVEN WITH THE SEED: the statements are not yours to turn. If you find one false, say at which input.
  Laid BY PROGRAM, IN A SANDBOX (cutbox-rows.mjs): the forced cells as the released guide's own fill.sh prints them over the translation ee02cf521e17d677… (all of the seat's roots in one cut). By AI agents, Wed Nov 11 2026. No macro, syntax, notation, axiom, sorry.
-/
import Derived.Test.YtpicplkbblmbeaaChecked
import GoSem.Claim
import GoSem.ClaimJoined
import GoSem.ClaimMapViews
import Derived.JoinedTies
import Derived.KernelRfl
namespace Go.Proofs.Ytpicplkbblmbeaa
/- THE CELL 'sum', in the pinned program and in every row, IS THE sha256 OF THE DUMP (.gsa) THAT YtpicplkbblmbeaaProg.lean LOADS. Nothing in Lean hashes anything: it is a label: what it is worth is what the hold of that sum in a sandbox is worth. -/
noncomputable def Try.pinned : Pinned := { name := "ytpicplkbblmbeaa", sum := "ee02cf521e17d677a10e4d73773ceab579f39634101783c1935ac24e96a52f94", checked := Try.checked }
namespace Rows
def none {H : Type} : Left H := { results := [], args := [] }

/-- 'millstreamlaw06.SchedPlays': WHATEVER THE INPUT: true; the input reads as it did. -/
def schedPlaysSpec : ChangeSpec := { name := "schedPlays", fn := fun _ => fun
  | [d1, d2, d3] => { results := [.lit (.bool true)], args := [d1, d2, d3] }
  | _ => none }
def schedPlaysRow : OpenClaim := { program := "ytpicplkbblmbeaa", sum := "ee02cf521e17d677a10e4d73773ceab579f39634101783c1935ac24e96a52f94", func := "millstream/millstreamlaw06.SchedPlays", spec := "schedPlays", inPlace := ["sync/atomic.AddInt64", "sync/atomic.LoadUint64", "sync/atomic.CompareAndSwapUint64", "sync/atomic.AddUint64"], unfollowed := true, recurses := true, apart := false }
def SchedPlaysSaid : Prop := schedPlaysRow.holds Try.pinned (OpenSpec.ofChange schedPlaysSpec)

/-- ITS FALSE NEIGHBOUR: 'it returns false'. Refute it at one input. -/
def schedPlaysWrong : ChangeSpec := { name := "schedPlays", fn := fun _ => fun
  | [d1, d2, d3] => { results := [.lit (.bool false)], args := [d1, d2, d3] }
  | _ => none }
def SchedPlaysWrongFalsely : Prop := schedPlaysRow.holds Try.pinned (OpenSpec.ofChange schedPlaysWrong)

/-- 'millstreamlaw07.RingputSteps': WHATEVER THE INPUT: true; the input reads as it did. -/
def ringputStepsSpec : ChangeSpec := { name := "ringputSteps", fn := fun _ => fun
  | [d1, d2, d3, d4] => { results := [.lit (.bool true)], args := [d1, d2, d3, d4] }
  | _ => none }
def ringputStepsRow : OpenClaim := { program := "ytpicplkbblmbeaa", sum := "ee02cf521e17d677a10e4d73773ceab579f39634101783c1935ac24e96a52f94", func := "millstream/millstreamlaw07.RingputSteps", spec := "ringputSteps", inPlace := ["sync/atomic.AddInt64", "sync/atomic.LoadUint64", "sync/atomic.CompareAndSwapUint64", "sync/atomic.AddUint64"], unfollowed := true, recurses := true, apart := false }
def RingputStepsSaid : Prop := ringputStepsRow.holds Try.pinned (OpenSpec.ofChange ringputStepsSpec)

/-- ITS FALSE NEIGHBOUR: 'it returns false'. Refute it at one input. -/
def ringputStepsWrong : ChangeSpec := { name := "ringputSteps", fn := fun _ => fun
  | [d1, d2, d3, d4] => { results := [.lit (.bool false)], args := [d1, d2, d3, d4] }
  | _ => none }
def RingputStepsWrongFalsely : Prop := ringputStepsRow.holds Try.pinned (OpenSpec.ofChange ringputStepsWrong)

/-- 'millstreamlaw07.RingputNil': WHATEVER THE INPUT: true; the input reads as it did. -/
def ringputNilSpec : ChangeSpec := { name := "ringputNil", fn := fun _ => fun
  | [d] => { results := [.lit (.bool true)], args := [d] }
  | _ => none }
def ringputNilRow : OpenClaim := { program := "ytpicplkbblmbeaa", sum := "ee02cf521e17d677a10e4d73773ceab579f39634101783c1935ac24e96a52f94", func := "millstream/millstreamlaw07.RingputNil", spec := "ringputNil", inPlace := ["sync/atomic.AddInt64", "sync/atomic.LoadUint64", "sync/atomic.CompareAndSwapUint64", "sync/atomic.AddUint64"], unfollowed := true, recurses := true, apart := false }
def RingputNilSaid : Prop := ringputNilRow.holds Try.pinned (OpenSpec.ofChange ringputNilSpec)

/-- ITS FALSE NEIGHBOUR: 'it returns false'. Refute it at one input. -/
def ringputNilWrong : ChangeSpec := { name := "ringputNil", fn := fun _ => fun
  | [d] => { results := [.lit (.bool false)], args := [d] }
  | _ => none }
def RingputNilWrongFalsely : Prop := ringputNilRow.holds Try.pinned (OpenSpec.ofChange ringputNilWrong)

/-- 'millstreamlaw07.RingputAlone': WHATEVER THE INPUT: true; the input reads as it did. -/
def ringputAloneSpec : ChangeSpec := { name := "ringputAlone", fn := fun _ => fun
  | [d1, d2] => { results := [.lit (.bool true)], args := [d1, d2] }
  | _ => none }
def ringputAloneRow : OpenClaim := { program := "ytpicplkbblmbeaa", sum := "ee02cf521e17d677a10e4d73773ceab579f39634101783c1935ac24e96a52f94", func := "millstream/millstreamlaw07.RingputAlone", spec := "ringputAlone", inPlace := ["sync/atomic.AddInt64", "sync/atomic.LoadUint64", "sync/atomic.CompareAndSwapUint64", "sync/atomic.AddUint64"], unfollowed := true, recurses := true, apart := false }
def RingputAloneSaid : Prop := ringputAloneRow.holds Try.pinned (OpenSpec.ofChange ringputAloneSpec)

/-- ITS FALSE NEIGHBOUR: 'it returns false'. Refute it at one input. -/
def ringputAloneWrong : ChangeSpec := { name := "ringputAlone", fn := fun _ => fun
  | [d1, d2] => { results := [.lit (.bool false)], args := [d1, d2] }
  | _ => none }
def RingputAloneWrongFalsely : Prop := ringputAloneRow.holds Try.pinned (OpenSpec.ofChange ringputAloneWrong)

/-- 'millstreamlaw09.RingfixNil': WHATEVER THE INPUT: true; the input reads as it did. -/
def ringfixNilSpec : ChangeSpec := { name := "ringfixNil", fn := fun _ => fun
  | [d] => { results := [.lit (.bool true)], args := [d] }
  | _ => none }
def ringfixNilRow : OpenClaim := { program := "ytpicplkbblmbeaa", sum := "ee02cf521e17d677a10e4d73773ceab579f39634101783c1935ac24e96a52f94", func := "millstream/millstreamlaw09.RingfixNil", spec := "ringfixNil", inPlace := ["sync/atomic.AddInt64", "sync/atomic.LoadUint64", "sync/atomic.CompareAndSwapUint64", "sync/atomic.AddUint64"], unfollowed := true, recurses := true, apart := false }
def RingfixNilSaid : Prop := ringfixNilRow.holds Try.pinned (OpenSpec.ofChange ringfixNilSpec)

/-- ITS FALSE NEIGHBOUR: 'it returns false'. Refute it at one input. -/
def ringfixNilWrong : ChangeSpec := { name := "ringfixNil", fn := fun _ => fun
  | [d] => { results := [.lit (.bool false)], args := [d] }
  | _ => none }
def RingfixNilWrongFalsely : Prop := ringfixNilRow.holds Try.pinned (OpenSpec.ofChange ringfixNilWrong)

/-- 'millstreamlaw08.RinggetNil': WHATEVER THE INPUT: true; the input reads as it did. -/
def ringgetNilSpec : ChangeSpec := { name := "ringgetNil", fn := fun _ => fun
  | [d1, d2] => { results := [.lit (.bool true)], args := [d1, d2] }
  | _ => none }
def ringgetNilRow : OpenClaim := { program := "ytpicplkbblmbeaa", sum := "ee02cf521e17d677a10e4d73773ceab579f39634101783c1935ac24e96a52f94", func := "millstream/millstreamlaw08.RinggetNil", spec := "ringgetNil", inPlace := ["sync/atomic.AddInt64", "sync/atomic.LoadUint64", "sync/atomic.CompareAndSwapUint64", "sync/atomic.AddUint64"], unfollowed := true, recurses := true, apart := false }
def RinggetNilSaid : Prop := ringgetNilRow.holds Try.pinned (OpenSpec.ofChange ringgetNilSpec)

/-- ITS FALSE NEIGHBOUR: 'it returns false'. Refute it at one input. -/
def ringgetNilWrong : ChangeSpec := { name := "ringgetNil", fn := fun _ => fun
  | [d1, d2] => { results := [.lit (.bool false)], args := [d1, d2] }
  | _ => none }
def RinggetNilWrongFalsely : Prop := ringgetNilRow.holds Try.pinned (OpenSpec.ofChange ringgetNilWrong)

/-- 'millstreamlaw08.RinggetOrder': WHATEVER THE INPUT: true; the input reads as it did. -/
def ringgetOrderSpec : ChangeSpec := { name := "ringgetOrder", fn := fun _ => fun
  | [d1, d2, d3, d4] => { results := [.lit (.bool true)], args := [d1, d2, d3, d4] }
  | _ => none }
def ringgetOrderRow : OpenClaim := { program := "ytpicplkbblmbeaa", sum := "ee02cf521e17d677a10e4d73773ceab579f39634101783c1935ac24e96a52f94", func := "millstream/millstreamlaw08.RinggetOrder", spec := "ringgetOrder", inPlace := ["sync/atomic.AddInt64", "sync/atomic.LoadUint64", "sync/atomic.CompareAndSwapUint64", "sync/atomic.AddUint64"], unfollowed := true, recurses := true, apart := false }
def RinggetOrderSaid : Prop := ringgetOrderRow.holds Try.pinned (OpenSpec.ofChange ringgetOrderSpec)

/-- ITS FALSE NEIGHBOUR: 'it returns false'. Refute it at one input. -/
def ringgetOrderWrong : ChangeSpec := { name := "ringgetOrder", fn := fun _ => fun
  | [d1, d2, d3, d4] => { results := [.lit (.bool false)], args := [d1, d2, d3, d4] }
  | _ => none }
def RinggetOrderWrongFalsely : Prop := ringgetOrderRow.holds Try.pinned (OpenSpec.ofChange ringgetOrderWrong)

/- THE SECOND FORM. 'bulk': how many values and letters a reading holds, each counted each time it is reached (what is shared counts as often as it is met; a slice's spare places count too). A statement '..UptoSaid' is the law's where the arguments, and the package variables that the reading takes, are together of bulk at most 1048576: NARROWER than '..Said'. Prove '..Said' where nothing that the law and all that it calls make is longer than what came in: it says more and counts as full. Else prove '..UptoSaid'. A law counts once. -/
mutual
def uptoBulk {H : Type} : DataW H → Nat
  | .lit (.string bytes) => bytes.length + 1
  | .lit _ => 1
  | .nil => 1
  | .ptr d => uptoBulk d + 1
  | .slice elems spare => uptoBulkAll elems + uptoBulkAll spare + 1
  | .agg parts => uptoBulkAll parts + 1
  | .iface _ d => uptoBulk d + 1
  | .map entries => uptoBulkEntries entries + 1
  | .held _ => 1
def uptoBulkAll {H : Type} : List (DataW H) → Nat
  | [] => 0
  | d :: r => uptoBulk d + uptoBulkAll r
def uptoBulkEntries {H : Type} : List (Lit × DataW H) → Nat
  | [] => 0
  | x :: r => uptoBulkEntry x + uptoBulkEntries r
def uptoBulkEntry {H : Type} : Lit × DataW H → Nat
  | (.string bytes, d) => bytes.length + uptoBulk d + 1
  | (_, d) => uptoBulk d + 1
 end
def uptoSmall : (H : Type) → List (DataW H) → Bool := fun _ ds => decide (uptoBulkAll ds ≤ 1048576)
def OpenSpec.upto (s : _root_.Go.ChangeSpec) : _root_.Go.OpenSpec := { _root_.Go.OpenSpec.ofChange s with cond := some uptoSmall }

/-- 'millstreamlaw06.SchedPlays', WHERE WHAT IT READS IS OF BULK AT MOST 1048576: true; the input reads as it did. -/
def schedPlaysUptoRow : OpenClaim := { program := "ytpicplkbblmbeaa", sum := "ee02cf521e17d677a10e4d73773ceab579f39634101783c1935ac24e96a52f94", func := "millstream/millstreamlaw06.SchedPlays", spec := "schedPlays", inPlace := ["sync/atomic.AddInt64", "sync/atomic.LoadUint64", "sync/atomic.CompareAndSwapUint64", "sync/atomic.AddUint64"], unfollowed := true, recurses := true, apart := false, narrowed := true }
def SchedPlaysUptoSaid : Prop := schedPlaysUptoRow.holds Try.pinned (OpenSpec.upto schedPlaysSpec)

/-- 'millstreamlaw07.RingputSteps', WHERE WHAT IT READS IS OF BULK AT MOST 1048576: true; the input reads as it did. -/
def ringputStepsUptoRow : OpenClaim := { program := "ytpicplkbblmbeaa", sum := "ee02cf521e17d677a10e4d73773ceab579f39634101783c1935ac24e96a52f94", func := "millstream/millstreamlaw07.RingputSteps", spec := "ringputSteps", inPlace := ["sync/atomic.AddInt64", "sync/atomic.LoadUint64", "sync/atomic.CompareAndSwapUint64", "sync/atomic.AddUint64"], unfollowed := true, recurses := true, apart := false, narrowed := true }
def RingputStepsUptoSaid : Prop := ringputStepsUptoRow.holds Try.pinned (OpenSpec.upto ringputStepsSpec)

/-- 'millstreamlaw07.RingputNil', WHERE WHAT IT READS IS OF BULK AT MOST 1048576: true; the input reads as it did. -/
def ringputNilUptoRow : OpenClaim := { program := "ytpicplkbblmbeaa", sum := "ee02cf521e17d677a10e4d73773ceab579f39634101783c1935ac24e96a52f94", func := "millstream/millstreamlaw07.RingputNil", spec := "ringputNil", inPlace := ["sync/atomic.AddInt64", "sync/atomic.LoadUint64", "sync/atomic.CompareAndSwapUint64", "sync/atomic.AddUint64"], unfollowed := true, recurses := true, apart := false, narrowed := true }
def RingputNilUptoSaid : Prop := ringputNilUptoRow.holds Try.pinned (OpenSpec.upto ringputNilSpec)

/-- 'millstreamlaw07.RingputAlone', WHERE WHAT IT READS IS OF BULK AT MOST 1048576: true; the input reads as it did. -/
def ringputAloneUptoRow : OpenClaim := { program := "ytpicplkbblmbeaa", sum := "ee02cf521e17d677a10e4d73773ceab579f39634101783c1935ac24e96a52f94", func := "millstream/millstreamlaw07.RingputAlone", spec := "ringputAlone", inPlace := ["sync/atomic.AddInt64", "sync/atomic.LoadUint64", "sync/atomic.CompareAndSwapUint64", "sync/atomic.AddUint64"], unfollowed := true, recurses := true, apart := false, narrowed := true }
def RingputAloneUptoSaid : Prop := ringputAloneUptoRow.holds Try.pinned (OpenSpec.upto ringputAloneSpec)

/-- 'millstreamlaw09.RingfixNil', WHERE WHAT IT READS IS OF BULK AT MOST 1048576: true; the input reads as it did. -/
def ringfixNilUptoRow : OpenClaim := { program := "ytpicplkbblmbeaa", sum := "ee02cf521e17d677a10e4d73773ceab579f39634101783c1935ac24e96a52f94", func := "millstream/millstreamlaw09.RingfixNil", spec := "ringfixNil", inPlace := ["sync/atomic.AddInt64", "sync/atomic.LoadUint64", "sync/atomic.CompareAndSwapUint64", "sync/atomic.AddUint64"], unfollowed := true, recurses := true, apart := false, narrowed := true }
def RingfixNilUptoSaid : Prop := ringfixNilUptoRow.holds Try.pinned (OpenSpec.upto ringfixNilSpec)

/-- 'millstreamlaw08.RinggetNil', WHERE WHAT IT READS IS OF BULK AT MOST 1048576: true; the input reads as it did. -/
def ringgetNilUptoRow : OpenClaim := { program := "ytpicplkbblmbeaa", sum := "ee02cf521e17d677a10e4d73773ceab579f39634101783c1935ac24e96a52f94", func := "millstream/millstreamlaw08.RinggetNil", spec := "ringgetNil", inPlace := ["sync/atomic.AddInt64", "sync/atomic.LoadUint64", "sync/atomic.CompareAndSwapUint64", "sync/atomic.AddUint64"], unfollowed := true, recurses := true, apart := false, narrowed := true }
def RinggetNilUptoSaid : Prop := ringgetNilUptoRow.holds Try.pinned (OpenSpec.upto ringgetNilSpec)

/-- 'millstreamlaw08.RinggetOrder', WHERE WHAT IT READS IS OF BULK AT MOST 1048576: true; the input reads as it did. -/
def ringgetOrderUptoRow : OpenClaim := { program := "ytpicplkbblmbeaa", sum := "ee02cf521e17d677a10e4d73773ceab579f39634101783c1935ac24e96a52f94", func := "millstream/millstreamlaw08.RinggetOrder", spec := "ringgetOrder", inPlace := ["sync/atomic.AddInt64", "sync/atomic.LoadUint64", "sync/atomic.CompareAndSwapUint64", "sync/atomic.AddUint64"], unfollowed := true, recurses := true, apart := false, narrowed := true }
def RinggetOrderUptoSaid : Prop := ringgetOrderUptoRow.holds Try.pinned (OpenSpec.upto ringgetOrderSpec)

end Rows
end Go.Proofs.Ytpicplkbblmbeaa
