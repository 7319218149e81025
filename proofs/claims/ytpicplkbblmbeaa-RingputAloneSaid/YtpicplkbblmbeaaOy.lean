/- How an argument of the type [][]byte is opened. Conditions: none. -/
import Derived.Test.YtpicplkbblmbeaaOr
import Derived.Test.YtpicplkbblmbeaaOs
namespace Go.Proofs.Ytpicplkbblmbeaa
set_option maxRecDepth 100000
open Go.ChangeShapes Go.WideShapes Go.ChangeAt Go.RowKit
set_option linter.unusedVariables false
theorem cellsBs : Try.prog.cellsOf 26 = 1 := by kernel_rfl
/-- A row of bytes among others: its slice, its bytes. -/
structure BytV where
  s : Value
  b : List Int
def BytV.cs (x : BytV) : List Value := [x.s]
structure BytV.Ok (w : World) (x : BytV) : Prop where
  s : ∃ a n c, x.s = .slice a n c
  r : RdB w x.s x.b
  b : IsB x.b
theorem open_rowsB {H : Type} {enc : TypeId × Value → H} {W : World} {base : Nat} {v : Value} {d : DataW H} {p : List MemPlace}
    (hval : Value.okWide Try.prog W .any base 80 v) (h : DataW.Trod enc Try.prog W 0 (fun _ => true) true 80 v d p) :
    ∃ L : List BytV, RdR W v 1 (L.map BytV.cs) ∧ ∀ x ∈ L, BytV.Ok W x := by
  obtain ⟨L, hr, hL⟩ := open_rows 1 Try.underlying80 cellsBs (by decide) hval h
  obtain ⟨Js, rfl, hJ⟩ := rows_map (BytV.Ok W) BytV.cs L (fun i l hi => by
    obtain ⟨hl, fuel, y, ht⟩ := hL i l hi
    obtain ⟨c0, rfl⟩ : ∃ c0, l = [c0] := by
      match l, hl with
      | [c0], _ => exact ⟨c0, rfl⟩
    obtain ⟨s0, sl, sc, b, rfl, hr, hb⟩ := bytes_at ht
    exact ⟨⟨.slice s0 sl sc, b⟩, rfl, ⟨_, _, _, rfl⟩, hr, hb⟩)
  exact ⟨Js, hr, hJ⟩
end Go.Proofs.Ytpicplkbblmbeaa
