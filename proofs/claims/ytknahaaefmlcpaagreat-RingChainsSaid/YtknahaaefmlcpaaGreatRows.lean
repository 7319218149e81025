/-
  No cell of these rows narrows 'for every input' (looked for: loops, veiled, ifaces, maps, wideKeys, modest, calm, conditions, laid).
  DERIVED. THE GIVEN ROWS OF THIS SEAT. 6 by the template 'for every input the law returns true; each argument reads behind the call as it read before'; 0 by the template 'total and deterministic' (their statements: YtknahaaefmlcpaaGreatTotals.lean).
  GIVEN WITH THE SEED: the statements are not yours to turn. If you find one false, say at which input.
  Laid BY PROGRAM, IN A SANDBOX (cutbox-rows.mjs): the forced cells as the released guide's own fill.sh prints them over the translation 2325d88275819f67… (all of the seat's roots in one cut). By AI agents, Wed Nov 11 2026. No macro, syntax, notation, axiom, sorry.
-/
import Derived.Test.YtknahaaefmlcpaaGreatChecked
import GoSem.Claim
import GoSem.ClaimJoined
import GoSem.ClaimMapViews
import Derived.JoinedTies
import Derived.KernelRfl
namespace Go.Proofs.YtknahaaefmlcpaaGreat
/- THE CELL 'sum', in the pinned program and in every row, IS THE sha256 OF THE DUMP (.gsa) THAT YtknahaaefmlcpaaGreatProg.lean LOADS. Nothing in Lean hashes anything: it is a label: what it is worth is what the hold of that sum in a sandbox is worth. -/
noncomputable def Tryz.pinned : Pinned := { name := "ytknahaaefmlcpaagreat", sum := "2325d88275819f673e745dacb4a230347c0bf95ff24e2311b52a12d57c5c132d", checked := Tryz.checked }
namespace Rows
def none {H : Type} : Left H := { results := [], args := [] }

/-- 'millstreamlaw07.RingputShares': WHATEVER THE INPUT: true; the input reads as it did. -/
def ringputSharesSpec : ChangeSpec := { name := "ringputShares", fn := fun _ => fun
  | [d1, d2, d3, d4, d5, d6] => { results := [.lit (.bool true)], args := [d1, d2, d3, d4, d5, d6] }
  | _ => none }
def ringputSharesRow : OpenClaim := { program := "ytknahaaefmlcpaagreat", sum := "2325d88275819f673e745dacb4a230347c0bf95ff24e2311b52a12d57c5c132d", func := "millstream/millstreamlaw07.RingputShares", spec := "ringputShares", inPlace := ["sync/atomic.AddInt64", "sync/atomic.LoadUint64", "sync/atomic.CompareAndSwapUint64", "sync/atomic.AddUint64"], unfollowed := true, recurses := true, apart := false }
def RingputSharesSaid : Prop := ringputSharesRow.holds Tryz.pinned (OpenSpec.ofChange ringputSharesSpec)

/-- ITS FALSE NEIGHBOUR: 'it returns false'. Refute it at one input. -/
def ringputSharesWrong : ChangeSpec := { name := "ringputShares", fn := fun _ => fun
  | [d1, d2, d3, d4, d5, d6] => { results := [.lit (.bool false)], args := [d1, d2, d3, d4, d5, d6] }
  | _ => none }
def RingputSharesWrongFalsely : Prop := ringputSharesRow.holds Tryz.pinned (OpenSpec.ofChange ringputSharesWrong)

/-- 'millstreamlaw09.RingfixGoes': WHATEVER THE INPUT: true; the input reads as it did. -/
def ringfixGoesSpec : ChangeSpec := { name := "ringfixGoes", fn := fun _ => fun
  | [d1, d2] => { results := [.lit (.bool true)], args := [d1, d2] }
  | _ => none }
def ringfixGoesRow : OpenClaim := { program := "ytknahaaefmlcpaagreat", sum := "2325d88275819f673e745dacb4a230347c0bf95ff24e2311b52a12d57c5c132d", func := "millstream/millstreamlaw09.RingfixGoes", spec := "ringfixGoes", inPlace := ["sync/atomic.AddInt64", "sync/atomic.LoadUint64", "sync/atomic.CompareAndSwapUint64", "sync/atomic.AddUint64"], unfollowed := true, recurses := true, apart := false }
def RingfixGoesSaid : Prop := ringfixGoesRow.holds Tryz.pinned (OpenSpec.ofChange ringfixGoesSpec)

/-- ITS FALSE NEIGHBOUR: 'it returns false'. Refute it at one input. -/
def ringfixGoesWrong : ChangeSpec := { name := "ringfixGoes", fn := fun _ => fun
  | [d1, d2] => { results := [.lit (.bool false)], args := [d1, d2] }
  | _ => none }
def RingfixGoesWrongFalsely : Prop := ringfixGoesRow.holds Tryz.pinned (OpenSpec.ofChange ringfixGoesWrong)

/-- 'millstreamlaw10.RingPlays': WHATEVER THE INPUT: true; the input reads as it did. -/
def ringPlaysSpec : ChangeSpec := { name := "ringPlays", fn := fun _ => fun
  | [d1, d2, d3, d4] => { results := [.lit (.bool true)], args := [d1, d2, d3, d4] }
  | _ => none }
def ringPlaysRow : OpenClaim := { program := "ytknahaaefmlcpaagreat", sum := "2325d88275819f673e745dacb4a230347c0bf95ff24e2311b52a12d57c5c132d", func := "millstream/millstreamlaw10.RingPlays", spec := "ringPlays", inPlace := ["sync/atomic.AddInt64", "sync/atomic.LoadUint64", "sync/atomic.CompareAndSwapUint64", "sync/atomic.AddUint64"], unfollowed := true, recurses := true, apart := false }
def RingPlaysSaid : Prop := ringPlaysRow.holds Tryz.pinned (OpenSpec.ofChange ringPlaysSpec)

/-- ITS FALSE NEIGHBOUR: 'it returns false'. Refute it at one input. -/
def ringPlaysWrong : ChangeSpec := { name := "ringPlays", fn := fun _ => fun
  | [d1, d2, d3, d4] => { results := [.lit (.bool false)], args := [d1, d2, d3, d4] }
  | _ => none }
def RingPlaysWrongFalsely : Prop := ringPlaysRow.holds Tryz.pinned (OpenSpec.ofChange ringPlaysWrong)

/-- 'millstreamlaw10.RingNil': WHATEVER THE INPUT: true; the input reads as it did. -/
def ringNilSpec : ChangeSpec := { name := "ringNil", fn := fun _ => fun
  | [d] => { results := [.lit (.bool true)], args := [d] }
  | _ => none }
def ringNilRow : OpenClaim := { program := "ytknahaaefmlcpaagreat", sum := "2325d88275819f673e745dacb4a230347c0bf95ff24e2311b52a12d57c5c132d", func := "millstream/millstreamlaw10.RingNil", spec := "ringNil", inPlace := ["sync/atomic.AddInt64", "sync/atomic.LoadUint64", "sync/atomic.CompareAndSwapUint64", "sync/atomic.AddUint64"], unfollowed := true, recurses := true, apart := false }
def RingNilSaid : Prop := ringNilRow.holds Tryz.pinned (OpenSpec.ofChange ringNilSpec)

/-- ITS FALSE NEIGHBOUR: 'it returns false'. Refute it at one input. -/
def ringNilWrong : ChangeSpec := { name := "ringNil", fn := fun _ => fun
  | [d] => { results := [.lit (.bool false)], args := [d] }
  | _ => none }
def RingNilWrongFalsely : Prop := ringNilRow.holds Tryz.pinned (OpenSpec.ofChange ringNilWrong)

/-- 'millstreamlaw10.RingMends': WHATEVER THE INPUT: true; the input reads as it did. -/
def ringMendsSpec : ChangeSpec := { name := "ringMends", fn := fun _ => fun
  | [d1, d2] => { results := [.lit (.bool true)], args := [d1, d2] }
  | _ => none }
def ringMendsRow : OpenClaim := { program := "ytknahaaefmlcpaagreat", sum := "2325d88275819f673e745dacb4a230347c0bf95ff24e2311b52a12d57c5c132d", func := "millstream/millstreamlaw10.RingMends", spec := "ringMends", inPlace := ["sync/atomic.AddInt64", "sync/atomic.LoadUint64", "sync/atomic.CompareAndSwapUint64", "sync/atomic.AddUint64"], unfollowed := true, recurses := true, apart := false }
def RingMendsSaid : Prop := ringMendsRow.holds Tryz.pinned (OpenSpec.ofChange ringMendsSpec)

/-- ITS FALSE NEIGHBOUR: 'it returns false'. Refute it at one input. -/
def ringMendsWrong : ChangeSpec := { name := "ringMends", fn := fun _ => fun
  | [d1, d2] => { results := [.lit (.bool false)], args := [d1, d2] }
  | _ => none }
def RingMendsWrongFalsely : Prop := ringMendsRow.holds Tryz.pinned (OpenSpec.ofChange ringMendsWrong)

/-- 'millstreamlaw10.RingChains': WHATEVER THE INPUT: true; the input reads as it did. -/
def ringChainsSpec : ChangeSpec := { name := "ringChains", fn := fun _ => fun
  | [d1, d2, d3, d4, d5, d6] => { results := [.lit (.bool true)], args := [d1, d2, d3, d4, d5, d6] }
  | _ => none }
def ringChainsRow : OpenClaim := { program := "ytknahaaefmlcpaagreat", sum := "2325d88275819f673e745dacb4a230347c0bf95ff24e2311b52a12d57c5c132d", func := "millstream/millstreamlaw10.RingChains", spec := "ringChains", inPlace := ["sync/atomic.AddInt64", "sync/atomic.LoadUint64", "sync/atomic.CompareAndSwapUint64", "sync/atomic.AddUint64"], unfollowed := true, recurses := true, apart := false }
def RingChainsSaid : Prop := ringChainsRow.holds Tryz.pinned (OpenSpec.ofChange ringChainsSpec)

/-- ITS FALSE NEIGHBOUR: 'it returns false'. Refute it at one input. -/
def ringChainsWrong : ChangeSpec := { name := "ringChains", fn := fun _ => fun
  | [d1, d2, d3, d4, d5, d6] => { results := [.lit (.bool false)], args := [d1, d2, d3, d4, d5, d6] }
  | _ => none }
def RingChainsWrongFalsely : Prop := ringChainsRow.holds Tryz.pinned (OpenSpec.ofChange ringChainsWrong)

/- THE SECOND FORM. 'bulk': how many values and letters a reading holds, each counted each time it is reached (what is shared counts as often as it is met; a slice's spare places count too). A statement '..UptoSaid' is the law's where the arguments, and the package variables that the reading takes, are together of bulk at most 1048576: NARROWER than '..Said'. Prove '..Said' where nothing that the law and all that it calls make is longer than what came in: it says more and counts as full. Else prove '..UptoSaid'. A law counts once. -/
mutual
def uptoBulk {H : Type} : DataW H → Nat
  | .lit (.string bytes) => bytes.length + 1
  | .lit _ => 1
  | .nil => 1
  | .ptr d => uptoBulk d + 1
  | .slice elems spare => uptoBulkAll elems + uptoBulkAll spare + 1
  | .agg parts => uptoBulkAll parts + 1
  | .iface _ d => uptoBulk d + 1
  | .map entries => uptoBulkEntries entries + 1
  | .held _ => 1
def uptoBulkAll {H : Type} : List (DataW H) → Nat
  | [] => 0
  | d :: r => uptoBulk d + uptoBulkAll r
def uptoBulkEntries {H : Type} : List (Lit × DataW H) → Nat
  | [] => 0
  | x :: r => uptoBulkEntry x + uptoBulkEntries r
def uptoBulkEntry {H : Type} : Lit × DataW H → Nat
  | (.string bytes, d) => bytes.length + uptoBulk d + 1
  | (_, d) => uptoBulk d + 1
 end
def uptoSmall : (H : Type) → List (DataW H) → Bool := fun _ ds => decide (uptoBulkAll ds ≤ 1048576)
def OpenSpec.upto (s : _root_.Go.ChangeSpec) : _root_.Go.OpenSpec := { _root_.Go.OpenSpec.ofChange s with cond := some uptoSmall }

/-- 'millstreamlaw07.RingputShares', WHERE WHAT IT READS IS OF BULK AT MOST 1048576: true; the input reads as it did. -/
def ringputSharesUptoRow : OpenClaim := { program := "ytknahaaefmlcpaagreat", sum := "2325d88275819f673e745dacb4a230347c0bf95ff24e2311b52a12d57c5c132d", func := "millstream/millstreamlaw07.RingputShares", spec := "ringputShares", inPlace := ["sync/atomic.AddInt64", "sync/atomic.LoadUint64", "sync/atomic.CompareAndSwapUint64", "sync/atomic.AddUint64"], unfollowed := true, recurses := true, apart := false, narrowed := true }
def RingputSharesUptoSaid : Prop := ringputSharesUptoRow.holds Tryz.pinned (OpenSpec.upto ringputSharesSpec)

/-- 'millstreamlaw09.RingfixGoes', WHERE WHAT IT READS IS OF BULK AT MOST 1048576: true; the input reads as it did. -/
def ringfixGoesUptoRow : OpenClaim := { program := "ytknahaaefmlcpaagreat", sum := "2325d88275819f673e745dacb4a230347c0bf95ff24e2311b52a12d57c5c132d", func := "millstream/millstreamlaw09.RingfixGoes", spec := "ringfixGoes", inPlace := ["sync/atomic.AddInt64", "sync/atomic.LoadUint64", "sync/atomic.CompareAndSwapUint64", "sync/atomic.AddUint64"], unfollowed := true, recurses := true, apart := false, narrowed := true }
def RingfixGoesUptoSaid : Prop := ringfixGoesUptoRow.holds Tryz.pinned (OpenSpec.upto ringfixGoesSpec)

/-- 'millstreamlaw10.RingPlays', WHERE WHAT IT READS IS OF BULK AT MOST 1048576: true; the input reads as it did. -/
def ringPlaysUptoRow : OpenClaim := { program := "ytknahaaefmlcpaagreat", sum := "2325d88275819f673e745dacb4a230347c0bf95ff24e2311b52a12d57c5c132d", func := "millstream/millstreamlaw10.RingPlays", spec := "ringPlays", inPlace := ["sync/atomic.AddInt64", "sync/atomic.LoadUint64", "sync/atomic.CompareAndSwapUint64", "sync/atomic.AddUint64"], unfollowed := true, recurses := true, apart := false, narrowed := true }
def RingPlaysUptoSaid : Prop := ringPlaysUptoRow.holds Tryz.pinned (OpenSpec.upto ringPlaysSpec)

/-- 'millstreamlaw10.RingNil', WHERE WHAT IT READS IS OF BULK AT MOST 1048576: true; the input reads as it did. -/
def ringNilUptoRow : OpenClaim := { program := "ytknahaaefmlcpaagreat", sum := "2325d88275819f673e745dacb4a230347c0bf95ff24e2311b52a12d57c5c132d", func := "millstream/millstreamlaw10.RingNil", spec := "ringNil", inPlace := ["sync/atomic.AddInt64", "sync/atomic.LoadUint64", "sync/atomic.CompareAndSwapUint64", "sync/atomic.AddUint64"], unfollowed := true, recurses := true, apart := false, narrowed := true }
def RingNilUptoSaid : Prop := ringNilUptoRow.holds Tryz.pinned (OpenSpec.upto ringNilSpec)

/-- 'millstreamlaw10.RingMends', WHERE WHAT IT READS IS OF BULK AT MOST 1048576: true; the input reads as it did. -/
def ringMendsUptoRow : OpenClaim := { program := "ytknahaaefmlcpaagreat", sum := "2325d88275819f673e745dacb4a230347c0bf95ff24e2311b52a12d57c5c132d", func := "millstream/millstreamlaw10.RingMends", spec := "ringMends", inPlace := ["sync/atomic.AddInt64", "sync/atomic.LoadUint64", "sync/atomic.CompareAndSwapUint64", "sync/atomic.AddUint64"], unfollowed := true, recurses := true, apart := false, narrowed := true }
def RingMendsUptoSaid : Prop := ringMendsUptoRow.holds Tryz.pinned (OpenSpec.upto ringMendsSpec)

/-- 'millstreamlaw10.RingChains', WHERE WHAT IT READS IS OF BULK AT MOST 1048576: true; the input reads as it did. -/
def ringChainsUptoRow : OpenClaim := { program := "ytknahaaefmlcpaagreat", sum := "2325d88275819f673e745dacb4a230347c0bf95ff24e2311b52a12d57c5c132d", func := "millstream/millstreamlaw10.RingChains", spec := "ringChains", inPlace := ["sync/atomic.AddInt64", "sync/atomic.LoadUint64", "sync/atomic.CompareAndSwapUint64", "sync/atomic.AddUint64"], unfollowed := true, recurses := true, apart := false, narrowed := true }
def RingChainsUptoSaid : Prop := ringChainsUptoRow.holds Tryz.pinned (OpenSpec.upto ringChainsSpec)

end Rows
end Go.Proofs.YtknahaaefmlcpaaGreat
