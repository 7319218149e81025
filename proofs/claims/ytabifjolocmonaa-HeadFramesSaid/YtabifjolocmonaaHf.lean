/- Frames: contracts of head.Words, head.Frame. Conditions: the fields are in their kinds' ranges. -/
import Derived.Test.YtabifjolocmonaaHl
import Derived.Test.YtabifjolocmonaaAp
import Derived.Test.YtabifjolocmonaaKp
import Derived.Deep.RegionHeld3
import Derived.Laws.ResultCell
namespace Go.Proofs.Ytabifjolocmonaa
set_option maxRecDepth 100000
open Go.RowKit
set_option linter.unusedVariables false
set_option linter.unusedSimpArgs false
/-- A frame's header, field by field. -/
structure Frm where
  l : Int
  v : Int
  g : Int
  y : Int
  o : Int
  s : Int
  t : Int
  m : Int
  r : Int
def Frm.cs (f : Frm) : List Value := [.int .i32 f.l, .int .u8 f.v, .int .u8 f.g, .int .u16 f.y, .int .i32 f.o, .int .i32 f.s, .int .i32 f.t, .int .i32 f.m, .int .u64 f.r]
structure Frm.Ok (f : Frm) : Prop where
  l : -2147483648 ≤ f.l ∧ f.l ≤ 2147483647
  v : 0 ≤ f.v ∧ f.v ≤ 255
  g : 0 ≤ f.g ∧ f.g ≤ 255
  y : 0 ≤ f.y ∧ f.y ≤ 65535
  o : -2147483648 ≤ f.o ∧ f.o ≤ 2147483647
  s : -2147483648 ≤ f.s ∧ f.s ≤ 2147483647
  t : -2147483648 ≤ f.t ∧ f.t ≤ 2147483647
  m : -2147483648 ≤ f.m ∧ f.m ≤ 2147483647
  r : 0 ≤ f.r ∧ f.r ≤ 18446744073709551615
def wd0 (f : Frm) : Int := f.y * 281474976710656 + f.g * 1099511627776 + f.v * 4294967296 + f.l % 4294967296
def frmW (a b c d : Int) : Frm := ⟨loS a, a / 4294967296 % 256, a / 1099511627776 % 256, a / 281474976710656 % 65536, loS b, hiS b, loS c, hiS c, d⟩
theorem wd0_bd {f : Frm} (h : f.Ok) : 0 ≤ wd0 f ∧ wd0 f ≤ 18446744073709551615 := by
  obtain ⟨h1, h2, h3, h4, -, -, -, -, -⟩ := h
  unfold wd0
  omega
theorem frm_wds {f : Frm} (h : f.Ok) : frmW (wd0 f) (recS f.o f.s) (recS f.t f.m) f.r = f := by
  obtain ⟨h1, h2, h3, h4, h5, h6, h7, h8, h9⟩ := h
  obtain ⟨l, v, g, y, o, s, t, m, r⟩ := f
  dsimp only at *
  simp only [frmW, wd0, Frm.mk.injEq, loS_rec _ _ h5.1 h5.2, hiS_rec _ _ h6.1 h6.2, loS_rec _ _ h7.1 h7.2, hiS_rec _ _ h8.1 h8.2, and_true, true_and]
  refine ⟨?_, by omega, by omega, by omega⟩
  unfold loS wrap32
  omega
theorem wds_frm {a b c d : Int} (ha : 0 ≤ a ∧ a ≤ 18446744073709551615) (hb : 0 ≤ b ∧ b ≤ 18446744073709551615) (hc : 0 ≤ c ∧ c ≤ 18446744073709551615) : wd0 (frmW a b c d) = a ∧ recS (frmW a b c d).o (frmW a b c d).s = b ∧ recS (frmW a b c d).t (frmW a b c d).m = c ∧ (frmW a b c d).r = d := by
  refine ⟨?_, rec_lohi b hb.1 hb.2, rec_lohi c hc.1 hc.2, rfl⟩
  unfold wd0 frmW loS wrap32
  dsimp only
  omega
theorem loS_bd (a : Int) : -2147483648 ≤ loS a ∧ loS a ≤ 2147483647 := by unfold loS wrap32; omega
theorem hiS_bd (a : Int) : -2147483648 ≤ hiS a ∧ hiS a ≤ 2147483647 := by unfold hiS wrap32; omega
theorem frmW_ok {a b c d : Int} (hd : 0 ≤ d ∧ d ≤ 18446744073709551615) : (frmW a b c d).Ok :=
  ⟨loS_bd a, by dsimp only [frmW]; omega, by dsimp only [frmW]; omega, by dsimp only [frmW]; omega, loS_bd b, hiS_bd b, loS_bd c, hiS_bd c, hd⟩
/-- The words' or. -/
theorem wd0_or {f : Frm} (h : f.Ok) : bits .or .u64 (bits .or .u64 (bits .or .u64 (f.y * 281474976710656) (f.g * 1099511627776)) (f.v * 4294967296)) (f.l % 4294967296) = wd0 f := by
  obtain ⟨h1, h2, h3, h4, -, -, -, -, -⟩ := h
  rw [or_join (f.y * 281474976710656) (f.g * 1099511627776) 48 (by omega) (by omega) (by omega) (by omega) (by omega) (by omega)]
  rw [or_join _ (f.v * 4294967296) 40 (by omega) (by omega) (by omega) (by omega) (by omega) (by omega)]
  rw [or_join _ (f.l % 4294967296) 32 (by omega) (by omega) (by omega) (by omega) (by omega) (by omega)]
  rfl
theorem frm_cells {w : World} {B : Nat} {f : Frm} (h : Blk w B f.cs) : w.cell? ⟨B, 0, none⟩ = some (.int .i32 f.l) ∧ w.cell? ⟨B, 1, none⟩ = some (.int .u8 f.v) ∧ w.cell? ⟨B, 2, none⟩ = some (.int .u8 f.g) ∧ w.cell? ⟨B, 3, none⟩ = some (.int .u16 f.y) ∧ w.cell? ⟨B, 4, none⟩ = some (.int .i32 f.o) ∧ w.cell? ⟨B, 5, none⟩ = some (.int .i32 f.s) ∧ w.cell? ⟨B, 6, none⟩ = some (.int .i32 f.t) ∧ w.cell? ⟨B, 7, none⟩ = some (.int .i32 f.m) ∧ w.cell? ⟨B, 8, none⟩ = some (.int .u64 f.r) :=
  ⟨Blk.cell h 0, Blk.cell h 1, Blk.cell h 2, Blk.cell h 3, Blk.cell h 4, Blk.cell h 5, Blk.cell h 6, Blk.cell h 7, Blk.cell h 8⟩
theorem results_cell1f {fn : Func} {p : Tmp} {ty : TypeId} (h : fn.results = #[.cell p ty]) (tmps : Array Value) (P : Program) (w : World) :
    (results fn tmps).run P w = ((asAddr (tmps.getD p undef)).run P w).andThen fun a w₁ => (loadVar ty a).run P w₁ := by
  simp only [results, h]
  simp [Sem.run_bind, Result.andThen]
theorem res_words {fn : Func} {tmps : Array Value} {W : World} {q : Nat} {a b c d : Int} (hf : fn.results = #[.cell 2 36]) (hp : tmps.getD 2 undef = .pointer (some ⟨q, 0, none⟩)) (h : Blk W q [.int .u64 a, .int .u64 b, .int .u64 c, .int .u64 d]) :
    (results fn tmps).run Try.prog W = .ok (.agg #[.int .u64 a, .int .u64 b, .int .u64 c, .int .u64 d]) W := by
  have c0 := h.cell 0
  have c1 := h.cell 1
  have c2 := h.cell 2
  have c3 := h.cell 3
  simp only [List.getElem?_cons_zero, List.getElem?_cons_succ] at c0 c1 c2 c3
  rw [results_cell1f hf, hp]
  go_simp
  first | done | rfl
theorem res_frm {fn : Func} {tmps : Array Value} {W : World} {q : Nat} {f : Frm} (hf : fn.results = #[.cell 2 35]) (hp : tmps.getD 2 undef = .pointer (some ⟨q, 0, none⟩)) (h : Blk W q f.cs) :
    (results fn tmps).run Try.prog W = .ok (.agg #[.int .i32 f.l, .int .u8 f.v, .int .u8 f.g, .int .u16 f.y, .int .i32 f.o, .int .i32 f.s, .int .i32 f.t, .int .i32 f.m, .int .u64 f.r]) W := by
  obtain ⟨c0, c1, c2, c3, c4, c5, c6, c7, c8⟩ := frm_cells h
  rw [results_cell1f hf, hp]
  go_simp
  first | done | rfl
set_option maxHeartbeats 2000000 in
theorem hWords_any (f : Frm) (w : World) (h : f.Ok) :
    Calls Try.prog 21 #[.agg #[.int .i32 f.l, .int .u8 f.v, .int .u8 f.g, .int .u16 f.y, .int .i32 f.o, .int .i32 f.s, .int .i32 f.t, .int .i32 f.m, .int .u64 f.r]] w fun e w' => e = .returned (.agg #[.int .u64 (wd0 f), .int .u64 (recS f.o f.s), .int .u64 (recS f.t f.m), .int .u64 f.r]) ∧ Below w.heap.size w w' := by
  have HW := Lib.hid (wd0_or h)
  obtain ⟨h1, h2, h3, h4, h5, h6, h7, h8, h9⟩ := h
  go_enter Try.func21, Try.ntmps21
  go_wp2_with fail
  go_region_held3 (fun w' => w'.cell? ⟨w.heap.size, 4, none⟩ = some (.int .i32 f.o) ∧ w'.cell? ⟨w.heap.size, 5, none⟩ = some (.int .i32 f.s) ∧ w'.cell? ⟨w.heap.size, 6, none⟩ = some (.int .i32 f.t) ∧ w'.cell? ⟨w.heap.size, 7, none⟩ = some (.int .i32 f.m) ∧ w'.cell? ⟨w.heap.size, 8, none⟩ = some (.int .u64 f.r)) (first | go_keep | trivial)
    ((go_at_call 12; refine (record_any _ _ _).mono ?_; rintro e w' ⟨rfl, rfl⟩))
  all_goals
    go_wp2
    have e := Blk.made (w.alloc (Obj.cells #[Value.int IntKind.i32 f.l, Value.int IntKind.u8 f.v, Value.int IntKind.u8 f.g, Value.int IntKind.u16 f.y, Value.int IntKind.i32 f.o, Value.int IntKind.i32 f.s, Value.int IntKind.i32 f.t, Value.int IntKind.i32 f.m, Value.int IntKind.u64 f.r] 35)) #[Value.int IntKind.u64 (wd0 f), Value.int IntKind.u64 (recS f.o f.s), Value.int IntKind.u64 (recS f.t f.m), Value.int IntKind.u64 f.r] 36
    rw [World.size_alloc] at e
    have e2 := e.drew
    refine bodyPost_ret (v := .agg #[.int .u64 (wd0 f), .int .u64 (recS f.o f.s), .int .u64 (recS f.t f.m), .int .u64 f.r]) ?_ rfl ⟨rfl, by go_grown⟩
    rw [HW.out]
    exact res_words rfl rfl e2
theorem i32_conv (a : Int) : loS a = wrap32 (a % 4294967296) := rfl
set_option maxHeartbeats 2000000 in
theorem hFrame_any (a b c d : Int) (w : World) (ha : 0 ≤ a ∧ a ≤ 18446744073709551615) (hb : 0 ≤ b ∧ b ≤ 18446744073709551615) (hc : 0 ≤ c ∧ c ≤ 18446744073709551615) (hd : 0 ≤ d ∧ d ≤ 18446744073709551615) :
    Calls Try.prog 22 #[.agg #[.int .u64 a, .int .u64 b, .int .u64 c, .int .u64 d]] w fun e w' => e = .returned (.agg #[.int .i32 (frmW a b c d).l, .int .u8 (frmW a b c d).v, .int .u8 (frmW a b c d).g, .int .u16 (frmW a b c d).y, .int .i32 (frmW a b c d).o, .int .i32 (frmW a b c d).s, .int .i32 (frmW a b c d).t, .int .i32 (frmW a b c d).m, .int .u64 (frmW a b c d).r]) ∧ Below w.heap.size w w' := by
  obtain ⟨a0, a1⟩ := ha
  obtain ⟨b0, b1⟩ := hb
  obtain ⟨c0, c1⟩ := hc
  obtain ⟨d0, d1⟩ := hd
  go_enter Try.func22, Try.ntmps22
  go_wp2_with (go_at_call 13; refine (split_any _ _ (by omega) (by omega)).mono ?_; rintro e w' ⟨rfl, rfl⟩)
  have hy : a / 281474976710656 = a / 281474976710656 % 65536 := by omega
  rw [hy]
  refine bodyPost_ret (v := .agg #[.int .i32 (frmW a b c d).l, .int .u8 (frmW a b c d).v, .int .u8 (frmW a b c d).g, .int .u16 (frmW a b c d).y, .int .i32 (frmW a b c d).o, .int .i32 (frmW a b c d).s, .int .i32 (frmW a b c d).t, .int .i32 (frmW a b c d).m, .int .u64 (frmW a b c d).r]) ?_ rfl ⟨rfl, by go_grown⟩
  refine res_frm (q := w.heap.size + 1) rfl rfl ?_
  have e := Blk.made (w.alloc (Obj.cells #[Value.int IntKind.u64 a, Value.int IntKind.u64 b, Value.int IntKind.u64 c, Value.int IntKind.u64 d] 36)) #[Value.int IntKind.i32 (wrap32 (a % 4294967296)), Value.int IntKind.u8 (a / 4294967296 % 256), Value.int IntKind.u8 (a / 1099511627776 % 256), Value.int IntKind.u16 (a / 281474976710656 % 65536), Value.int IntKind.i32 (loS b), Value.int IntKind.i32 (hiS b), Value.int IntKind.i32 (loS c), Value.int IntKind.i32 (hiS c), Value.int IntKind.u64 d] 35
  rw [World.size_alloc] at e
  exact e.alloc _
end Go.Proofs.Ytabifjolocmonaa
