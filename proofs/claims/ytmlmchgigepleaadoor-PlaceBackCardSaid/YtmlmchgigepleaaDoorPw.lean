/- The laws PlaceTells, PlaceBack, PlaceTails walked: true, and nothing that was there has turned. Conditions: the arguments are in their kinds' ranges; the table of math/bits holds what the text of the library lays. -/
import Derived.Test.YtmlmchgigepleaaDoorPc
import Derived.Test.YtmlmchgigepleaaDoorLa
namespace Go.Proofs.YtmlmchgigepleaaDoor
open Go.RowKit
set_option linter.unusedVariables false
theorem i32_bd {a : Int} (h : (Lit.int .i32 a).wf = true) : -2147483648 ≤ a ∧ a ≤ 2147483647 := by
  simpa [Lit.wf, IntKind.min, IntKind.max, IntKind.signed, IntKind.bits] using h
theorem u32_bd {a : Int} (h : (Lit.int .u32 a).wf = true) : 0 ≤ a ∧ a ≤ 4294967295 := by
  simpa [Lit.wf, IntKind.min, IntKind.max, IntKind.signed, IntKind.bits] using h
theorem u8_bd' {a : Int} (h : (Lit.int .u8 a).wf = true) : 0 ≤ a ∧ a ≤ 255 := by
  simpa [Lit.wf, IntKind.min, IntKind.max, IntKind.signed, IntKind.bits] using h
set_option maxHeartbeats 2000000 in
theorem fixed04_any (w : World) (hT : TabOk w) : Calls Tryd.prog 23 #[] w fun e w' => e = .returned (.bool true) ∧ w = w' := by
  have e1 : poV 7 5 32 256 = 544 := by decide +kernel
  have e2 : poE 7 5 32 256 = 0 := by decide +kernel
  have e3 : teV 544 5 256 = 7 := by decide +kernel
  have e4 : teE 544 256 = 0 := by decide +kernel
  have e5 : ofV 544 256 = 32 := by decide +kernel
  have e6 : poE 0 0 0 100 = 1 := by decide +kernel
  have HT := Lib.hid hT
  clear hT
  go_enter Tryd.func23, Tryd.ntmps23
  go_wp2_with (first
    | (go_at_call 24; refine (position_any _ _ _ _ _ (by omega) (by omega) (by omega) (by omega) (by omega)).mono ?_; rintro e w' ⟨rfl, rfl⟩)
    | (go_at_call 26; refine (term_any _ _ _ _ (by omega) (by omega) (by omega) (by omega) (by omega) HT.out).mono ?_; rintro e w' ⟨rfl, rfl⟩)
    | (go_at_call 28; refine (offset_any _ _ _ (by omega)).mono ?_; rintro e w' ⟨rfl, rfl⟩)
    | (go_at_call 36; refine (part_any _ _ (by omega) (by omega)).mono ?_; rintro e w' ⟨rfl, rfl⟩))
  go_ret
  exact ⟨rfl, rfl⟩
set_option maxHeartbeats 4000000 in
/-- law04.PlaceTells -/
theorem placeTells_walk (t : Int) (wt : (Lit.int .i32 t).wf = true) (i : Int) (wi : (Lit.int .i32 i).wf = true) (o : Int) (wo : (Lit.int .i64 o).wf = true) (s : Int) (ws : (Lit.int .i64 s).wf = true) (p : Int) (wp : (Lit.int .i64 p).wf = true) (w : World) (hT : TabOk w) :
    Calls Tryd.prog 6 #[.int .i32 t, .int .i32 i, .int .i64 o, .int .i64 s, .int .i64 p] w fun e w' => e = .returned (.bool true) ∧ Below w.heap.size w w' := by
  obtain ⟨t0, t1⟩ := i32_bd wt
  obtain ⟨i0, i1⟩ := i32_bd wi
  obtain ⟨o0, o1⟩ := i64_bd wo
  obtain ⟨s0, s1⟩ := i64_bd ws
  obtain ⟨p0, p1⟩ := i64_bd wp
  obtain ⟨c0, c1⟩ := cnS_bd t i
  have HT := Lib.hid hT
  clear hT wt wi wo ws wp
  go_enter Tryd.func6, Tryd.ntmps6
  go_wp2_with (first
    | (go_at_call 23; refine (fixed04_any _ HT.out).mono ?_; rintro e w' ⟨rfl, rfl⟩)
    | (go_at_call 24; refine (position_any _ _ _ _ _ t0 t1 i0 i1 s1).mono ?_; rintro e w' ⟨rfl, rfl⟩)
    | (go_at_call 25; refine (refPosition_any _ _ _ _ _ t0 t1 i0 i1 s1).mono ?_; rintro e w' ⟨rfl, rfl⟩)
    | (go_at_call 26; refine (term_any _ _ _ _ p0 p1 i0 i1 s1 HT.out).mono ?_; rintro e w' ⟨rfl, rfl⟩)
    | (go_at_call 27; refine (refTerm_any _ _ _ _ p0 p1 s1 i0 i1).mono ?_; rintro e w' ⟨rfl, rfl⟩)
    | (go_at_call 28; refine (offset_any _ _ _ s1).mono ?_; rintro e w' ⟨rfl, rfl⟩)
    | (go_at_call 29; refine (refOffset_any _ _ _ p0 p1 s1).mono ?_; rintro e w' ⟨rfl, rfl⟩)
    | (go_at_call 30; refine (count_any _ _ _ t0 t1 i0 i1).mono ?_; rintro e w' ⟨rfl, rfl⟩)
    | (go_at_call 31; refine (refCount_any _ _ _ t0 t1 i0 i1).mono ?_; rintro e w' ⟨rfl, rfl⟩)
    | (go_at_call 32; refine (isTerm_any _ _ s1).mono ?_; rintro e w' ⟨rfl, rfl⟩)
    | (go_at_call 33; refine (refIsTerm_any _ _).mono ?_; rintro e w' ⟨rfl, rfl⟩)
    | (go_at_call 34; refine (maxPos_any _ _ s1).mono ?_; rintro e w' ⟨rfl, rfl⟩)
    | (go_at_call 35; refine (refMaxPos_any _ _ s1).mono ?_; rintro e w' ⟨rfl, rfl⟩)
    | (go_at_call 36; refine (part_any _ _ c0 c1).mono ?_; rintro e w' ⟨rfl, rfl⟩))
  go_ret
  exact ⟨rfl, Below.refl _ _⟩
theorem pkS_bd (t o : Int) (o0 : 0 ≤ o) (o1 : o ≤ 4294967295) : 0 ≤ pkS t o ∧ pkS t o ≤ 18446744073709551615 := by unfold pkS; omega
theorem hiS_bd (v : Int) : -2147483648 ≤ hiS v ∧ hiS v ≤ 2147483647 := by unfold hiS wrap32; omega
set_option maxHeartbeats 4000000 in
/-- law04.PlaceTails -/
theorem placeTails_walk (t : Int) (wt : (Lit.int .i32 t).wf = true) (o : Int) (wo : (Lit.int .u32 o).wf = true) (r : Int) (wr : (Lit.int .u64 r).wf = true) (w : World) (hT : TabOk w) :
    Calls Tryd.prog 9 #[.int .i32 t, .int .u32 o, .int .u64 r] w fun e w' => e = .returned (.bool true) ∧ Below w.heap.size w w' := by
  obtain ⟨t0, t1⟩ := i32_bd wt
  obtain ⟨o0, o1⟩ := u32_bd wo
  obtain ⟨r0, r1⟩ := u64_bd wr
  obtain ⟨b0, b1⟩ := pkS_bd t o o0 o1
  obtain ⟨g0, g1⟩ := hiS_bd r
  have e1 : hiS (pkS t o) = t := by unfold hiS pkS wrap32; omega
  have e2 : pkS t o % 4294967296 = o := by unfold pkS; omega
  have e3 : pkS (hiS r) (r % 4294967296) = r := by unfold hiS pkS wrap32; omega
  have HT := Lib.hid hT
  clear hT wt wo wr
  go_enter Tryd.func9, Tryd.ntmps9
  go_wp2_with (first
    | (go_at_call 23; refine (fixed04_any _ HT.out).mono ?_; rintro e w' ⟨rfl, rfl⟩)
    | (go_at_call 39; refine (pack_any _ _ _ (by omega) (by omega)).mono ?_; rintro e w' ⟨rfl, rfl⟩)
    | (go_at_call 42; refine (refPack_any _ _ _ t0 t1 o0 o1).mono ?_; rintro e w' ⟨rfl, rfl⟩)
    | (go_at_call 40; refine (unpack_any _ _ (by omega) (by omega)).mono ?_; rintro e w' ⟨rfl, rfl⟩)
    | (go_at_call 41; refine (refUnpack_any _ _ r0 r1).mono ?_; rintro e w' ⟨rfl, rfl⟩))
  go_ret
  exact ⟨rfl, Below.refl _ _⟩
end Go.Proofs.YtmlmchgigepleaaDoor
