/-
  No cell of these rows narrows 'for every input' (looked for: loops, veiled, ifaces, maps, wideKeys, modest, calm, conditions, laid).
  DERIVED. THE GIVEN ROWS OF THIS SEAT. 4 by the template 'for every input the law returns true; each argument reads behind the call as it read before'; 0 by the template 'total and deterministic' (their statements: YtggjhleomocojaaGreatTotals.lean).
  GIVEN WITH THE SEED: the statements are not yours to turn. If you find one false, say at which input.
  Laid BY PROGRAM, IN A SANDBOX (cutbox-rows.mjs): the forced cells as the released guide's own fill.sh prints them over the translation 055ceae4f7e960c8… (all of the seat's roots in one cut). By AI agents, Wed Nov 11 2026. No macro, syntax, notation, axiom, sorry.
-/
import Derived.Test.YtggjhleomocojaaGreatChecked
import GoSem.Claim
import GoSem.ClaimJoined
import GoSem.ClaimMapViews
import Derived.JoinedTies
import Derived.KernelRfl
namespace Go.Proofs.YtggjhleomocojaaGreat
/- THE CELL 'sum', in the pinned program and in every row, IS THE sha256 OF THE DUMP (.gsa) THAT YtggjhleomocojaaGreatProg.lean LOADS. Nothing in Lean hashes anything: it is a label: what it is worth is what the hold of that sum in a sandbox is worth. -/
noncomputable def Tryz.pinned : Pinned := { name := "ytggjhleomocojaagreat", sum := "055ceae4f7e960c8b92d765b107b1a190daf40db52b4e892675a9af2e76581e4", checked := Tryz.checked }
namespace Rows
def none {H : Type} : Left H := { results := [], args := [] }

/-- 'millstreamtop.TopNear': WHATEVER THE INPUT: true; the input reads as it did. -/
def topNearSpec : ChangeSpec := { name := "topNear", fn := fun _ => fun
  | [d1, d2, d3] => { results := [.lit (.bool true)], args := [d1, d2, d3] }
  | _ => none }
def topNearRow : OpenClaim := { program := "ytggjhleomocojaagreat", sum := "055ceae4f7e960c8b92d765b107b1a190daf40db52b4e892675a9af2e76581e4", func := "millstream/millstreamtop.TopNear", spec := "topNear", inPlace := ["sync/atomic.AddInt64", "sync/atomic.LoadUint64", "sync/atomic.CompareAndSwapUint64", "sync/atomic.AddUint64"], unfollowed := true, recurses := true, apart := false }
def TopNearSaid : Prop := topNearRow.holds Tryz.pinned (OpenSpec.ofChange topNearSpec)

/-- ITS FALSE NEIGHBOUR: 'it returns false'. Refute it at one input. -/
def topNearWrong : ChangeSpec := { name := "topNear", fn := fun _ => fun
  | [d1, d2, d3] => { results := [.lit (.bool false)], args := [d1, d2, d3] }
  | _ => none }
def TopNearWrongFalsely : Prop := topNearRow.holds Tryz.pinned (OpenSpec.ofChange topNearWrong)

/-- 'millstreamtop.TopApart': WHATEVER THE INPUT: true; the input reads as it did. -/
def topApartSpec : ChangeSpec := { name := "topApart", fn := fun _ => fun
  | [d1, d2, d3] => { results := [.lit (.bool true)], args := [d1, d2, d3] }
  | _ => none }
def topApartRow : OpenClaim := { program := "ytggjhleomocojaagreat", sum := "055ceae4f7e960c8b92d765b107b1a190daf40db52b4e892675a9af2e76581e4", func := "millstream/millstreamtop.TopApart", spec := "topApart", inPlace := ["sync/atomic.AddInt64", "sync/atomic.LoadUint64", "sync/atomic.CompareAndSwapUint64", "sync/atomic.AddUint64"], unfollowed := true, recurses := true, apart := false }
def TopApartSaid : Prop := topApartRow.holds Tryz.pinned (OpenSpec.ofChange topApartSpec)

/-- ITS FALSE NEIGHBOUR: 'it returns false'. Refute it at one input. -/
def topApartWrong : ChangeSpec := { name := "topApart", fn := fun _ => fun
  | [d1, d2, d3] => { results := [.lit (.bool false)], args := [d1, d2, d3] }
  | _ => none }
def TopApartWrongFalsely : Prop := topApartRow.holds Tryz.pinned (OpenSpec.ofChange topApartWrong)

/-- 'millstreamlaw10.RingPlays': WHATEVER THE INPUT: true; the input reads as it did. -/
def ringPlaysSpec : ChangeSpec := { name := "ringPlays", fn := fun _ => fun
  | [d1, d2, d3, d4] => { results := [.lit (.bool true)], args := [d1, d2, d3, d4] }
  | _ => none }
def ringPlaysRow : OpenClaim := { program := "ytggjhleomocojaagreat", sum := "055ceae4f7e960c8b92d765b107b1a190daf40db52b4e892675a9af2e76581e4", func := "millstream/millstreamlaw10.RingPlays", spec := "ringPlays", inPlace := ["sync/atomic.AddInt64", "sync/atomic.LoadUint64", "sync/atomic.CompareAndSwapUint64", "sync/atomic.AddUint64"], unfollowed := true, recurses := true, apart := false }
def RingPlaysSaid : Prop := ringPlaysRow.holds Tryz.pinned (OpenSpec.ofChange ringPlaysSpec)

/-- ITS FALSE NEIGHBOUR: 'it returns false'. Refute it at one input. -/
def ringPlaysWrong : ChangeSpec := { name := "ringPlays", fn := fun _ => fun
  | [d1, d2, d3, d4] => { results := [.lit (.bool false)], args := [d1, d2, d3, d4] }
  | _ => none }
def RingPlaysWrongFalsely : Prop := ringPlaysRow.holds Tryz.pinned (OpenSpec.ofChange ringPlaysWrong)

/-- 'millstreamlaw10.RingMends': WHATEVER THE INPUT: true; the input reads as it did. -/
def ringMendsSpec : ChangeSpec := { name := "ringMends", fn := fun _ => fun
  | [d1, d2] => { results := [.lit (.bool true)], args := [d1, d2] }
  | _ => none }
def ringMendsRow : OpenClaim := { program := "ytggjhleomocojaagreat", sum := "055ceae4f7e960c8b92d765b107b1a190daf40db52b4e892675a9af2e76581e4", func := "millstream/millstreamlaw10.RingMends", spec := "ringMends", inPlace := ["sync/atomic.AddInt64", "sync/atomic.LoadUint64", "sync/atomic.CompareAndSwapUint64", "sync/atomic.AddUint64"], unfollowed := true, recurses := true, apart := false }
def RingMendsSaid : Prop := ringMendsRow.holds Tryz.pinned (OpenSpec.ofChange ringMendsSpec)

/-- ITS FALSE NEIGHBOUR: 'it returns false'. Refute it at one input. -/
def ringMendsWrong : ChangeSpec := { name := "ringMends", fn := fun _ => fun
  | [d1, d2] => { results := [.lit (.bool false)], args := [d1, d2] }
  | _ => none }
def RingMendsWrongFalsely : Prop := ringMendsRow.holds Tryz.pinned (OpenSpec.ofChange ringMendsWrong)

/- THE SECOND FORM. 'bulk': how many values and letters a reading holds, each counted each time it is reached (what is shared counts as often as it is met; a slice's spare places count too). A statement '..UptoSaid' is the law's where the arguments, and the package variables that the reading takes, are together of bulk at most 1048576: NARROWER than '..Said'. Prove '..Said' where nothing that the law and all that it calls make is longer than what came in: it says more and counts as full. Else prove '..UptoSaid'. A law counts once. -/
mutual
def uptoBulk {H : Type} : DataW H → Nat
  | .lit (.string bytes) => bytes.length + 1
  | .lit _ => 1
  | .nil => 1
  | .ptr d => uptoBulk d + 1
  | .slice elems spare => uptoBulkAll elems + uptoBulkAll spare + 1
  | .agg parts => uptoBulkAll parts + 1
  | .iface _ d => uptoBulk d + 1
  | .map entries => uptoBulkEntries entries + 1
  | .held _ => 1
def uptoBulkAll {H : Type} : List (DataW H) → Nat
  | [] => 0
  | d :: r => uptoBulk d + uptoBulkAll r
def uptoBulkEntries {H : Type} : List (Lit × DataW H) → Nat
  | [] => 0
  | x :: r => uptoBulkEntry x + uptoBulkEntries r
def uptoBulkEntry {H : Type} : Lit × DataW H → Nat
  | (.string bytes, d) => bytes.length + uptoBulk d + 1
  | (_, d) => uptoBulk d + 1
 end
def uptoSmall : (H : Type) → List (DataW H) → Bool := fun _ ds => decide (uptoBulkAll ds ≤ 1048576)
def OpenSpec.upto (s : _root_.Go.ChangeSpec) : _root_.Go.OpenSpec := { _root_.Go.OpenSpec.ofChange s with cond := some uptoSmall }

/-- 'millstreamtop.TopNear', WHERE WHAT IT READS IS OF BULK AT MOST 1048576: true; the input reads as it did. -/
def topNearUptoRow : OpenClaim := { program := "ytggjhleomocojaagreat", sum := "055ceae4f7e960c8b92d765b107b1a190daf40db52b4e892675a9af2e76581e4", func := "millstream/millstreamtop.TopNear", spec := "topNear", inPlace := ["sync/atomic.AddInt64", "sync/atomic.LoadUint64", "sync/atomic.CompareAndSwapUint64", "sync/atomic.AddUint64"], unfollowed := true, recurses := true, apart := false, narrowed := true }
def TopNearUptoSaid : Prop := topNearUptoRow.holds Tryz.pinned (OpenSpec.upto topNearSpec)

/-- 'millstreamtop.TopApart', WHERE WHAT IT READS IS OF BULK AT MOST 1048576: true; the input reads as it did. -/
def topApartUptoRow : OpenClaim := { program := "ytggjhleomocojaagreat", sum := "055ceae4f7e960c8b92d765b107b1a190daf40db52b4e892675a9af2e76581e4", func := "millstream/millstreamtop.TopApart", spec := "topApart", inPlace := ["sync/atomic.AddInt64", "sync/atomic.LoadUint64", "sync/atomic.CompareAndSwapUint64", "sync/atomic.AddUint64"], unfollowed := true, recurses := true, apart := false, narrowed := true }
def TopApartUptoSaid : Prop := topApartUptoRow.holds Tryz.pinned (OpenSpec.upto topApartSpec)

/-- 'millstreamlaw10.RingPlays', WHERE WHAT IT READS IS OF BULK AT MOST 1048576: true; the input reads as it did. -/
def ringPlaysUptoRow : OpenClaim := { program := "ytggjhleomocojaagreat", sum := "055ceae4f7e960c8b92d765b107b1a190daf40db52b4e892675a9af2e76581e4", func := "millstream/millstreamlaw10.RingPlays", spec := "ringPlays", inPlace := ["sync/atomic.AddInt64", "sync/atomic.LoadUint64", "sync/atomic.CompareAndSwapUint64", "sync/atomic.AddUint64"], unfollowed := true, recurses := true, apart := false, narrowed := true }
def RingPlaysUptoSaid : Prop := ringPlaysUptoRow.holds Tryz.pinned (OpenSpec.upto ringPlaysSpec)

/-- 'millstreamlaw10.RingMends', WHERE WHAT IT READS IS OF BULK AT MOST 1048576: true; the input reads as it did. -/
def ringMendsUptoRow : OpenClaim := { program := "ytggjhleomocojaagreat", sum := "055ceae4f7e960c8b92d765b107b1a190daf40db52b4e892675a9af2e76581e4", func := "millstream/millstreamlaw10.RingMends", spec := "ringMends", inPlace := ["sync/atomic.AddInt64", "sync/atomic.LoadUint64", "sync/atomic.CompareAndSwapUint64", "sync/atomic.AddUint64"], unfollowed := true, recurses := true, apart := false, narrowed := true }
def RingMendsUptoSaid : Prop := ringMendsUptoRow.holds Tryz.pinned (OpenSpec.upto ringMendsSpec)

end Rows
end Go.Proofs.YtggjhleomocojaaGreat
