/- How an argument of the type []api.Message is opened. Conditions: none. -/
import Derived.Test.YtknahaaefmlcpaaGreatOy
import Derived.Test.YtknahaaefmlcpaaGreatDd
namespace Go.Proofs.YtknahaaefmlcpaaGreat
set_option maxRecDepth 100000
open Go.ChangeShapes Go.WideShapes Go.ChangeAt Go.RowKit
set_option linter.unusedVariables false
theorem i32_bm {a : Int} (h : (Lit.int .i32 a).wf = true) : -2147483648 ≤ a ∧ a ≤ 2147483647 := by
 simpa [Lit.wf, IntKind.min, IntKind.max, IntKind.signed, IntKind.bits] using h
theorem cellsMi : Tryz.prog.cellsOf 21 = 1 := by kernel_rfl
theorem cellsMsg : Tryz.prog.cellsOf 84 = 2 := by kernel_rfl
structure MsgV where
 t : Int
 s : Value
 b : List Int
def MsgV.cs (x : MsgV) : List Value := [.int .i32 x.t, x.s]
structure MsgV.Ok (w : World) (x : MsgV) : Prop where
 t : -2147483648 ≤ x.t ∧ x.t ≤ 2147483647
 s : ∃ a n c, x.s = .slice a n c
 r : RdB w x.s x.b
 b : IsB x.b
theorem open_msgsV {H : Type} {enc : TypeId × Value → H} {W : World} {base : Nat} {v : Value} {d : DataW H} {p : List MemPlace}
  (hval : Value.okWide Tryz.prog W .any base 66 v) (h : DataW.Trod enc Tryz.prog W 0 (fun _ => true) true 66 v d p) :
  ∃ L : List MsgV, RdR W v 2 (L.map MsgV.cs) ∧ ∀ x ∈ L, MsgV.Ok W x := by
 obtain ⟨L, hr, hL⟩ := open_rows 2 Tryz.underlying66 cellsMsg (by decide) hval h
 obtain ⟨Js, rfl, hJ⟩ := rows_map (MsgV.Ok W) MsgV.cs L (fun i l hi => by
  obtain ⟨hl, fuel, y, ht⟩ := hL i l hi
  obtain ⟨c0, c1, rfl⟩ : ∃ c0 c1, l = [c0, c1] := by
   match l, hl with
   | [c0, c1], _ => exact ⟨c0, c1, rfl⟩
  obtain ⟨fu, hfs⟩ := fields_of Tryz.underlying84 ht
  simp only [List.mem_cons, List.not_mem_nil, or_false, forall_eq_or_imp, forall_eq, cellsMi, cellsAS] at hfs
  obtain ⟨⟨y0, h0⟩, ⟨y1, h1⟩⟩ := hfs
  simp at h0 h1
  obtain ⟨k, rfl, w0⟩ := int_of Tryz.underlying21 h0
  obtain ⟨s0, sl, sc, b, rfl, hr, hb⟩ := bytes_at h1
  exact ⟨⟨k, .slice s0 sl sc, b⟩, rfl, i32_bm w0, ⟨_, _, _, rfl⟩, hr, hb⟩)
 exact ⟨Js, hr, hJ⟩
theorem msgs_rd {W : World} {v : Value} {L : List MsgV} (h : RdR W v 2 (L.map MsgV.cs)) (hL : ∀ x ∈ L, MsgV.Ok W x) : RdMs W (fun i => i < W.heap.size) v (L.map fun x => (x.t, x.b)) := by
 rcases h with ⟨rfl, e⟩ | ⟨a, cap, rfl, e, hm⟩ | ⟨g, off, cap, e1, e2, e3, e4⟩
 ·have : L = [] := by simpa using e
  subst this
  exact .inl ⟨none, 0, rfl, rfl, Nat.zero_le _⟩
 ·have : L = [] := by simpa using e
  subst this
  exact .inl ⟨_, cap, rfl, rfl, hm⟩
 ·rw [List.length_map] at e1 e2
  by_cases h0 : L.length = 0
  ·have : L = [] := List.eq_nil_of_length_eq_zero h0
   subst this
   exact .inl ⟨_, cap, e1, rfl, e3⟩
  have hcell : ∀ i x, L[i]? = some x → W.cell? ⟨g, off + i * 2, none⟩ = some (.int .i32 x.t) ∧ W.cell? ⟨g, off + i * 2 + 1, none⟩ = some x.s := fun i x hx => by
   have h1 : (L.map MsgV.cs)[i]? = some x.cs := by rw [List.getElem?_map, hx]; rfl
   exact ⟨by have := e4 i _ h1 0 _ rfl; simpa using this, e4 i _ h1 1 _ rfl⟩
  have hg : g < W.heap.size := World.block_lt_of_cell? _ _ (hcell 0 (L[0]'(by omega)) (List.getElem?_eq_getElem (by omega))).1
  refine .inr ⟨g, off, cap, by rw [List.length_map]; exact e1, by rw [List.length_map]; exact e2, e3, hg, hg, fun i x hx => ?_⟩
  rw [List.getElem?_map] at hx
  obtain ⟨y, hy, rfl⟩ := Option.map_eq_some_iff.1 hx
  obtain ⟨c0, c1⟩ := hcell i y hy
  have ok := hL y (List.mem_of_getElem? hy)
  obtain ⟨s0, sl, sc, es⟩ := ok.s
  have hr := ok.r
  rw [es] at c1 hr
  exact ⟨s0, sl, sc, c0, c1, hr, fun hn j hj => hr.blk hn j hj⟩
theorem open_msgs {H : Type} {enc : TypeId × Value → H} {W : World} {base : Nat} {v : Value} {d : DataW H} {p : List MemPlace}
  (hval : Value.okWide Tryz.prog W .any base 66 v) (h : DataW.Trod enc Tryz.prog W 0 (fun _ => true) true 66 v d p) :
  ∃ l : List (Int × List Int), RdMs W (fun i => i < W.heap.size) v l ∧ ∀ x ∈ l, (-2147483648 ≤ x.1 ∧ x.1 ≤ 2147483647) ∧ IsB x.2 := by
 obtain ⟨L, hr, hL⟩ := open_msgsV hval h
 refine ⟨_, msgs_rd hr hL, fun x hx => ?_⟩
 obtain ⟨y, hy, rfl⟩ := List.mem_map.1 hx
 exact ⟨(hL y hy).t, (hL y hy).b⟩
end Go.Proofs.YtknahaaefmlcpaaGreat
