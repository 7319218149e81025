/- Contracts of cont.Cont's Do, Next and Take. Conditions: the machine's block is known whole. -/
import Derived.Test.YtpicplkbblmbeaaGreatRw
import Derived.Test.YtpicplkbblmbeaaGreatKp
import Derived.Laws.EntriesVeiled
import Derived.Laws.ResultCell
import Derived.Deep.RegionHeld3
namespace Go.Proofs.YtpicplkbblmbeaaGreat
set_option maxRecDepth 100000
open Go.RowKit
set_option linter.unusedVariables false
set_option linter.unusedSimpArgs false
/-- An access, field by field. -/
structure Acc where
  k : Int
  a : Int
  n : Int
  v : Int
  x : Int
  b : Value
def Acc.cs (c : Acc) : List Value := [.int .i64 c.k, .int .i64 c.a, .int .i64 c.n, .int .u64 c.v, .int .u64 c.x, c.b]
def Acc.V (c : Acc) : Value := .agg #[.int .i64 c.k, .int .i64 c.a, .int .i64 c.n, .int .u64 c.v, .int .u64 c.x, c.b]
def accZ : Acc := ⟨0, 0, 0, 0, 0, .slice none 0 0⟩
/-- A machine's block: what it does next, what it does then, and the rest. -/
def Mch (w : World) (q : Nat) (c : Acc) (t : Value) (r : List Value) : Prop := Blk w q (c.cs ++ t :: r)
theorem Mch.cells {w : World} {q : Nat} {c : Acc} {t : Value} {r : List Value} (h : Mch w q c t r) :
    w.cell? ⟨q, 0, none⟩ = some (.int .i64 c.k) ∧ w.cell? ⟨q, 1, none⟩ = some (.int .i64 c.a) ∧ w.cell? ⟨q, 2, none⟩ = some (.int .i64 c.n) ∧ w.cell? ⟨q, 3, none⟩ = some (.int .u64 c.v) ∧ w.cell? ⟨q, 4, none⟩ = some (.int .u64 c.x) ∧ w.cell? ⟨q, 5, none⟩ = some c.b ∧ w.cell? ⟨q, 6, none⟩ = some t :=
  ⟨Blk.cell h 0, Blk.cell h 1, Blk.cell h 2, Blk.cell h 3, Blk.cell h 4, Blk.cell h 5, Blk.cell h 6⟩
theorem Mch.frozens {w : World} {q : Nat} {c : Acc} {t : Value} {r : List Value} (h : Mch w q c t r) :
    w.frozen? ⟨q, 0, none⟩ = false ∧ w.frozen? ⟨q, 1, none⟩ = false ∧ w.frozen? ⟨q, 2, none⟩ = false ∧ w.frozen? ⟨q, 3, none⟩ = false ∧ w.frozen? ⟨q, 4, none⟩ = false ∧ w.frozen? ⟨q, 5, none⟩ = false ∧ w.frozen? ⟨q, 6, none⟩ = false :=
  ⟨Blk.frozen h 0, Blk.frozen h 1, Blk.frozen h 2, Blk.frozen h 3, Blk.frozen h 4, Blk.frozen h 5, Blk.frozen h 6⟩
theorem Mch.set {w : World} {q : Nat} {c : Acc} {t : Value} {r : List Value} (h : Mch w q c t r) (d : Acc) (u : Value) :
    Mch (((((((w.setCell ⟨q, 0, none⟩ (.int .i64 d.k)).setCell ⟨q, 1, none⟩ (.int .i64 d.a)).setCell ⟨q, 2, none⟩ (.int .i64 d.n)).setCell ⟨q, 3, none⟩ (.int .u64 d.v)).setCell ⟨q, 4, none⟩ (.int .u64 d.x)).setCell ⟨q, 5, none⟩ d.b).setCell ⟨q, 6, none⟩ u) q d u r :=
  Blk.set (Blk.set (Blk.set (Blk.set (Blk.set (Blk.set (Blk.set h 0 _) 1 _) 2 _) 3 _) 4 _) 5 _) 6 _
/-- A function value. -/
def fnV (f : Nat) (cap : List Value) : Value := .func (.func f) #[] cap.toArray
theorem qFn (w : World) (f : Fn) (a c : Array Value) : (binOp .eql 48 (.func f a c) .nilFunc).run Tryz.prog w = .ok (.bool false) w := by kernel_rfl
theorem qNil (w : World) : (binOp .eql 48 .nilFunc .nilFunc).run Tryz.prog w = .ok (.bool true) w := by kernel_rfl
set_option maxHeartbeats 1000000 in
theorem cDo_any (q : Nat) (c : Acc) (t : Value) (r : List Value) (k a n v x : Int) (s0 : Option Addr) (sl sc : Nat) (f : Nat) (cap : Array Value) (w : World) (h : Mch w q c t r) :
    Calls Tryz.prog 123 #[.pointer (some ⟨q, 0, none⟩), .agg #[.int .i64 k, .int .i64 a, .int .i64 n, .int .u64 v, .int .u64 x, .slice s0 sl sc], .func (.func f) #[] cap] w fun e w' => e = .returned (.tuple #[]) ∧ Mch w' q ⟨k, a, n, v, x, .slice s0 sl sc⟩ (.func (.func f) #[] cap) r ∧ Keep (· = q) w w' := by
  have hlt := h.lt
  have H := Lib.hid h
  obtain ⟨c0, c1, c2, c3, c4, c5, c6⟩ := h.cells
  obtain ⟨z0, z1, z2, z3, z4, z5, z6⟩ := h.frozens
  clear h
  go_enter Tryz.func123, Tryz.ntmps123
  go_wp2
  go_end0
  exact ⟨rfl, (H.out.set ⟨k, a, n, v, x, .slice s0 sl sc⟩ _).alloc _, Keep.alloc (Keep.setCell (Keep.setCell (Keep.setCell (Keep.setCell (Keep.setCell (Keep.setCell (Keep.setCell (M := (· = q)) (Keep.refl _ w) (p := ⟨q, 0, none⟩) (.inl rfl) _) (p := ⟨q, 1, none⟩) (.inl rfl) _) (p := ⟨q, 2, none⟩) (.inl rfl) _) (p := ⟨q, 3, none⟩) (.inl rfl) _) (p := ⟨q, 4, none⟩) (.inl rfl) _) (p := ⟨q, 5, none⟩) (.inl rfl) _) (p := ⟨q, 6, none⟩) (.inl rfl) _) _⟩
set_option maxHeartbeats 1000000 in
theorem cNext_end (q : Nat) (c : Acc) (r : List Value) (w : World) (h : Mch w q c .nilFunc r) :
    Calls Tryz.prog 71 #[.pointer (some ⟨q, 0, none⟩)] w fun e w' => e = .returned (.tuple #[accZ.V, .bool false]) ∧ Below w.heap.size w w' := by
  have hlt := h.lt
  obtain ⟨c0, c1, c2, c3, c4, c5, c6⟩ := h.cells
  clear h
  have qF := qFn
  have qN := qNil
  go_enter Tryz.func71, Tryz.ntmps71
  go_wp2
  refine bodyPost_ret (v := .tuple #[accZ.V, .bool false]) ?_ rfl ⟨rfl, by go_grown⟩
  rw [results_cell_tmp rfl]
  go_simp
  first | done | exact ⟨rfl, rfl⟩ | rfl
set_option maxHeartbeats 1000000 in
theorem cNext_more (q : Nat) (k a n v x : Int) (s0 : Option Addr) (sl sc : Nat) (f : Nat) (cap : Array Value) (r : List Value) (w : World) (h : Mch w q ⟨k, a, n, v, x, .slice s0 sl sc⟩ (.func (.func f) #[] cap) r) :
    Calls Tryz.prog 71 #[.pointer (some ⟨q, 0, none⟩)] w fun e w' => e = .returned (.tuple #[(Acc.mk k a n v x (.slice s0 sl sc)).V, .bool true]) ∧ Below w.heap.size w w' := by
  have hlt := h.lt
  obtain ⟨c0, c1, c2, c3, c4, c5, c6⟩ := h.cells
  clear h
  have qF := qFn
  have qN := qNil
  go_enter Tryz.func71, Tryz.ntmps71
  go_wp2
  refine bodyPost_ret (v := .tuple #[(Acc.mk k a n v x (.slice s0 sl sc)).V, .bool true]) ?_ rfl ⟨rfl, by go_grown⟩
  rw [results_cell_tmp rfl]
  go_simp
  first | done | exact ⟨rfl, rfl⟩ | rfl
set_option maxHeartbeats 1000000 in
theorem cTake_end (q : Nat) (c : Acc) (r : List Value) (v : Int) (d : Bool) (s0 : Option Addr) (sl sc : Nat) (w : World) (h : Mch w q c .nilFunc r) :
    Calls Tryz.prog 76 #[.pointer (some ⟨q, 0, none⟩), .agg #[.int .u64 v, .bool d, .slice s0 sl sc]] w fun e w' => e = .returned (.tuple #[]) ∧ Below w.heap.size w w' := by
  have hlt := h.lt
  obtain ⟨c0, c1, c2, c3, c4, c5, c6⟩ := h.cells
  clear h
  have qF := qFn
  have qN := qNil
  go_enter Tryz.func76, Tryz.ntmps76
  go_wp2
  exact bodyPost_ret (v := .tuple #[]) (results_none rfl _ _ _) rfl ⟨rfl, by go_grown⟩
set_option maxHeartbeats 1000000 in
theorem cTake_any (q : Nat) (c : Acc) (f : Nat) (cap : Array Value) (r : List Value) (v : Int) (d : Bool) (s0 : Option Addr) (sl sc : Nat) (w : World) (h : Mch w q c (.func (.func f) #[] cap) r)
    (hen : ∀ w1, (callFunc f (#[.agg #[.int .u64 v, .bool d, .slice s0 sl sc]] ++ cap)).run Tryz.prog w1 = .ok (.enter f (#[.agg #[.int .u64 v, .bool d, .slice s0 sl sc]] ++ cap)) w1) (Q : World → Prop)
    (hF : ∀ w1, Mch w1 q accZ .nilFunc r → Keep (· = q) w w1 → Calls Tryz.prog f (#[.agg #[.int .u64 v, .bool d, .slice s0 sl sc]] ++ cap) w1 fun e w' => e = .returned (.tuple #[]) ∧ Q w') :
    Calls Tryz.prog 76 #[.pointer (some ⟨q, 0, none⟩), .agg #[.int .u64 v, .bool d, .slice s0 sl sc]] w fun e w' => e = .returned (.tuple #[]) ∧ Q w' := by
  have hlt := h.lt
  have H := Lib.hid h
  have HF := Lib.hid hF
  obtain ⟨c0, c1, c2, c3, c4, c5, c6⟩ := h.cells
  obtain ⟨z0, z1, z2, z3, z4, z5, z6⟩ := h.frozens
  clear h hF
  have qF := qFn
  go_enter Tryz.func76, Tryz.ntmps76
  go_wp2_with fail
  refine (HF.out _ ((H.out.set accZ .nilFunc).alloc _) (Keep.alloc (Keep.setCell (Keep.setCell (Keep.setCell (Keep.setCell (Keep.setCell (Keep.setCell (Keep.setCell (M := (· = q)) (Keep.refl _ w) (p := ⟨q, 0, none⟩) (.inl rfl) _) (p := ⟨q, 1, none⟩) (.inl rfl) _) (p := ⟨q, 2, none⟩) (.inl rfl) _) (p := ⟨q, 3, none⟩) (.inl rfl) _) (p := ⟨q, 4, none⟩) (.inl rfl) _) (p := ⟨q, 5, none⟩) (.inl rfl) _) (p := ⟨q, 6, none⟩) (.inl rfl) _) _)).mono ?_
  rintro e w' ⟨rfl, hQ⟩
  go_wp2
  go_end0
  exact ⟨rfl, hQ⟩
end Go.Proofs.YtpicplkbblmbeaaGreat
