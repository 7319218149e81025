/- What a call may have written: blocks that are named, and new ones; rows of words. No program in sight. Conditions: none. -/
import Derived.Test.YtggjhleomocojaaGreatRw
import Derived.Laws.EntriesVeiled
import Derived.Laws.ResultCell
import Derived.Deep.RegionHeld3
section
namespace Go.Proofs.YtggjhleomocojaaGreat
open Go.RowKit
theorem tS : (∀ {α : Type} {xs : List α} {i : Nat} (h : i < xs.toArray.size), xs.toArray[i] = xs[i]'(by simpa using h)) ∧ (∀ {α : Type} {a : α} {l : List α} {h : 0 < (a :: l).length}, (a :: l)[0] = a) ∧ (∀ {α : Type} {a : α} {l : List α} {i : Nat} (h : i + 1 < (a :: l).length), (a :: l)[i + 1] = l[i]'(Nat.lt_of_succ_lt_succ h)) ∧ (∀ {α : Type} (l : List α) (i : Nat) (a : α), l.toArray.setIfInBounds i a = (l.set i a).toArray) ∧ (∀ {α : Type} {x a : α} {l : List α}, (x :: l).set 0 a = a :: l) ∧ (∀ {α : Type} {x a : α} {l : List α} {n : Nat}, (x :: l).set (n + 1) a = x :: l.set n a) :=
 ⟨by intros; rfl, by intros; rfl, by intros; rfl, by intros; exact List.setIfInBounds_toArray .., by intros; rfl, by intros; rfl⟩
theorem wpT {P : Program} {md : Region.Mode} {ops : Array Oper} {Q : Exit → Act → World → Prop} {S : World → Prop} {fuel : Nat} {listed : Array Bool} {a : Act} {w : World} (i : Nat) {oi : Oper} {v : Value} (hi : ops[i]? = some oi)
  (h : wpAnyH P md ops Q S fuel (listed.setIfInBounds i true) (a.put oi.dst v) w)
  (hs : Region.noSelect ops = true := by kernel_rfl) (hf : Region.free md ops listed i = true := by kernel_rfl) (hr : (Region.ready md ops listed).contains i = true := by kernel_rfl)
  (hQ : ∀ c a w, Q (.panic c) (a.put oi.dst v) w → Q (.panic c) a w := by exact fun _ _ _ h => h) (hw : Region.wanted oi (yielded ops a.tmps) = true := by rfl) (hS : S w := by assumption)
  (hy : ∀ w, S w → (execOp a.eval oi).run P w = .ok (.value v) w := by intro w0 hSw; (try dsimp only at hSw); go_simp; try with_reducible rfl) : wpAnyH P md ops Q S (fuel + 1) listed a w :=
 wpAnyH_take hi hs hf hr hQ (.inl ⟨hw, hy⟩) hS h
theorem wpR {P : Program} {md : Region.Mode} {ops : Array Oper} {Q : Exit → Act → World → Prop} {S : World → Prop} {fuel : Nat} {listed : Array Bool} {a : Act} {w : World} (i : Nat) {o : Oper} (ho : ops[i]? = some o)
  (h : ∀ K' : Act → World → Prop, Shut (∀ a w, S w → (S w → wpAnyH P md ops Q S fuel (listed.setIfInBounds i true) a w) → K' a w) → if Region.wanted o (yielded ops a.tmps) = true then Oper.wp P o a w K' Q else K' (a.put o.dst undef) w)
  (hr : Region.ready md ops listed = [i] := by kernel_rfl) : wpAnyH P md ops Q S (fuel + 1) listed a w :=
 wpAnyH_ready hr (by simp) (AllReadyH.cons ho h AllReadyH.nil)
structure Keep (M : Nat → Prop) (w w' : World) : Prop where
 os : w'.os = w.os
 tape : w'.tape = w.tape
 output : w'.output = w.output
 size : w.heap.size ≤ w'.heap.size
 block : ∀ k, k < w.heap.size → ¬ M k → w'.heap[k]? = w.heap[k]?
theorem Keep.refl (M : Nat → Prop) (w : World) : Keep M w w := ⟨rfl, rfl, rfl, Nat.le_refl _, fun _ _ _ => rfl⟩
variable {M : Nat → Prop}
theorem Keep.trans {a b c : World} (h : Keep M a b) (k : Keep M b c) : Keep M a c :=
 ⟨k.os.trans h.os, k.tape.trans h.tape, k.output.trans h.output, Nat.le_trans h.size k.size, fun i hi hm => (k.block i (Nat.lt_of_lt_of_le hi h.size) hm).trans (h.block i hi hm)⟩
theorem Keep.mono {M M' : Nat → Prop} {a b : World} (h : Keep M a b) (hm : ∀ k, k < a.heap.size → M k → M' k) : Keep M' a b :=
 ⟨h.os, h.tape, h.output, h.size, fun i hi hn => h.block i hi fun hi' => hn (hm i hi hi')⟩
theorem Keep.then {M M' : Nat → Prop} {a b c : World} (h : Keep M a b) (k : Keep M' b c) (hm : ∀ i, i < a.heap.size → M' i → M i) : Keep M a c :=
 ⟨k.os.trans h.os, k.tape.trans h.tape, k.output.trans h.output, Nat.le_trans h.size k.size, fun i hi hn => (k.block i (Nat.lt_of_lt_of_le hi h.size) fun hi' => hn (hm i hi hi')).trans (h.block i hi hn)⟩
theorem Below.keeps {w w' : World} (h : Below w.heap.size w w') : Keep M w w' := ⟨h.os, h.tape, h.output, h.size, fun k hk _ => h.block k hk⟩
theorem Keep.below {B : Nat} {w w' : World} (h : Keep M w w') (hB : B ≤ w.heap.size) (hm : ∀ k, k < B → ¬ M k) : Below B w w' := ⟨h.os, h.tape, h.output, h.size, fun k hk => h.block k (Nat.lt_of_lt_of_le hk hB) (hm k hk)⟩
theorem Keep.drew {w w' : World} (h : Keep M w w') : Keep M w w'.drew := ⟨h.os, h.tape, h.output, h.size, h.block⟩
theorem Keep.drewN {w w' : World} (n : Nat) (h : Keep M w w') : Keep M w (w'.drewN n) := ⟨h.os, h.tape, h.output, h.size, h.block⟩
theorem Keep.alloc {w w' : World} (h : Keep M w w') (o : Obj) : Keep M w (w'.alloc o) :=
 h.trans (Below.keeps ((Below.refl _ _).alloc (Nat.le_refl _) o))
theorem Keep.setCell {w w' : World} (h : Keep M w w') {p : Addr} (hp : M p.block ∨ w.heap.size ≤ p.block) (u : Value) : Keep M w (w'.setCell p u) := by
 refine ⟨h.os, h.tape, h.output, ?_, fun k hk hn => ?_⟩
 ·have := h.size
  simpa [World.setCell] using this
 ·rw [Below.heap_setCell _ _ _ _ ?_]
  ·exact h.block k hk hn
  ·rintro rfl
   rcases hp with hp | hp
   ·exact hn hp
   ·omega
theorem Keep.cell {w w' : World} (h : Keep M w w') {b : Nat} (o : Nat) (hb : b < w.heap.size) (hm : ¬ M b) : w'.cell? ⟨b, o, none⟩ = w.cell? ⟨b, o, none⟩ :=
 World.cell?_of_block (w := w) (h.block b hb hm)
theorem Keep.frozen {w w' : World} (h : Keep M w w') {b : Nat} (o : Nat) (hb : b < w.heap.size) (hm : ¬ M b) : w'.frozen? ⟨b, o, none⟩ = w.frozen? ⟨b, o, none⟩ :=
 World.frozen?_of_block (w := w) (h.block b hb hm)
def Blk (w : World) (b : Nat) (cs : List Value) : Prop := ∃ T, w.heap[b]? = some (.cells cs.toArray T (0, 0))
variable {w : World} {b : Nat}
theorem Blk.lt {cs : List Value} (h : Blk w b cs) : b < w.heap.size := by
 obtain ⟨T, h⟩ := h
 exact (Array.getElem?_eq_some_iff.1 h).1
theorem Blk.cell {cs : List Value} (h : Blk w b cs) (i : Nat) : w.cell? ⟨b, i, none⟩ = cs[i]? := by
 obtain ⟨T, h⟩ := h
 simp [World.cell?, h]
theorem Blk.frozen {cs : List Value} (h : Blk w b cs) (i : Nat) : w.frozen? ⟨b, i, none⟩ = false := by
 obtain ⟨T, h⟩ := h
 simp [World.frozen?, h]
theorem Blk.keep {w w' : World} {cs : List Value} (h : Blk w b cs) (k : Keep M w w') (hm : ¬ M b) : Blk w' b cs := by
 have hl := h.lt
 obtain ⟨T, h⟩ := h
 exact ⟨T, by rw [k.block b hl hm]; exact h⟩
theorem Blk.below {B : Nat} {w w' : World} {cs : List Value} (h : Blk w b cs) (k : Below B w w') (hb : b < B) : Blk w' b cs := by
 obtain ⟨T, h⟩ := h
 exact ⟨T, by rw [k.block b hb]; exact h⟩
theorem Blk.drew {cs : List Value} (h : Blk w b cs) : Blk w.drew b cs := h
theorem Blk.drewN {cs : List Value} (n : Nat) (h : Blk w b cs) : Blk (w.drewN n) b cs := h
theorem Blk.alloc {cs : List Value} (h : Blk w b cs) (o : Obj) : Blk (w.alloc o) b cs := by
 have hl := h.lt
 obtain ⟨T, h⟩ := h
 exact ⟨T, by rw [Below.heap_alloc _ _ _ hl]; exact h⟩
theorem Blk.made (w : World) (cs : Array Value) (T : TypeId) : Blk (w.alloc (.cells cs T)) w.heap.size cs.toList := ⟨T, by rw [(MapKept.heap_alloc w _).1]⟩
theorem Blk.set {cs : List Value} (h : Blk w b cs) (i : Nat) (v : Value) : Blk (w.setCell ⟨b, i, none⟩ v) b (cs.set i v) := by
 obtain ⟨T, h⟩ := h
 refine ⟨T, ?_⟩
 simp [World.setCell, Array.getElem?_modify, h]
theorem Blk.far {cs : List Value} (h : Blk w b cs) {a : Addr} (hne : b ≠ a.block) (v : Value) : Blk (w.setCell a v) b cs := by
 obtain ⟨T, h⟩ := h
 exact ⟨T, by rw [Below.heap_setCell _ _ _ _ hne]; exact h⟩
def WB (w : World) (c : Nat) (ws : List Int) : Prop := Blk w c (ws.map (Value.int .u64))
variable {c : Nat} {ws : List Int}
theorem WB.cell (h : WB w c ws) (i : Nat) (hi : i < ws.length) : w.cell? ⟨c, i, none⟩ = some (.int .u64 (gB ws i)) := by
 have := Blk.cell h i
 simp only [this]
 simp [gB, hi]
theorem WB.frozen (h : WB w c ws) (i : Nat) : w.frozen? ⟨c, i, none⟩ = false := Blk.frozen h i
theorem WB.set (h : WB w c ws) (i : Nat) (x : Int) : WB (w.setCell ⟨c, i, none⟩ (.int .u64 x)) c (ws.set i x) := by
 have := Blk.set h i (.int .u64 x)
 unfold WB
 rw [List.map_set]
 exact this
set_option maxRecDepth 100000
set_option linter.unusedVariables false
set_option linter.unusedSimpArgs false
structure Acc where
 k : Int
 a : Int
 n : Int
 v : Int
 x : Int
 b : Value
def Acc.cs (c : Acc) : List Value := [.int .i64 c.k, .int .i64 c.a, .int .i64 c.n, .int .u64 c.v, .int .u64 c.x, c.b]
def Acc.V (c : Acc) : Value := .agg #[.int .i64 c.k, .int .i64 c.a, .int .i64 c.n, .int .u64 c.v, .int .u64 c.x, c.b]
def accZ : Acc := ⟨0, 0, 0, 0, 0, .slice none 0 0⟩
def Mch (w : World) (q : Nat) (c : Acc) (t : Value) (r : List Value) : Prop := Blk w q (c.cs ++ t :: r)
variable {q : Nat} {t : Value} {r : List Value}
theorem Mch.cells {c : Acc} (h : Mch w q c t r) :
  w.cell? ⟨q, 0, none⟩ = some (.int .i64 c.k) ∧ w.cell? ⟨q, 1, none⟩ = some (.int .i64 c.a) ∧ w.cell? ⟨q, 2, none⟩ = some (.int .i64 c.n) ∧ w.cell? ⟨q, 3, none⟩ = some (.int .u64 c.v) ∧ w.cell? ⟨q, 4, none⟩ = some (.int .u64 c.x) ∧ w.cell? ⟨q, 5, none⟩ = some c.b ∧ w.cell? ⟨q, 6, none⟩ = some t :=
 ⟨Blk.cell h 0, Blk.cell h 1, Blk.cell h 2, Blk.cell h 3, Blk.cell h 4, Blk.cell h 5, Blk.cell h 6⟩
theorem Mch.frozens {c : Acc} (h : Mch w q c t r) :
  w.frozen? ⟨q, 0, none⟩ = false ∧ w.frozen? ⟨q, 1, none⟩ = false ∧ w.frozen? ⟨q, 2, none⟩ = false ∧ w.frozen? ⟨q, 3, none⟩ = false ∧ w.frozen? ⟨q, 4, none⟩ = false ∧ w.frozen? ⟨q, 5, none⟩ = false ∧ w.frozen? ⟨q, 6, none⟩ = false :=
 ⟨Blk.frozen h 0, Blk.frozen h 1, Blk.frozen h 2, Blk.frozen h 3, Blk.frozen h 4, Blk.frozen h 5, Blk.frozen h 6⟩
theorem Mch.set {c : Acc} (h : Mch w q c t r) (d : Acc) (u : Value) :
  Mch (((((((w.setCell ⟨q, 0, none⟩ (.int .i64 d.k)).setCell ⟨q, 1, none⟩ (.int .i64 d.a)).setCell ⟨q, 2, none⟩ (.int .i64 d.n)).setCell ⟨q, 3, none⟩ (.int .u64 d.v)).setCell ⟨q, 4, none⟩ (.int .u64 d.x)).setCell ⟨q, 5, none⟩ d.b).setCell ⟨q, 6, none⟩ u) q d u r :=
 Blk.set (Blk.set (Blk.set (Blk.set (Blk.set (Blk.set (Blk.set h 0 _) 1 _) 2 _) 3 _) 4 _) 5 _) 6 _
theorem qFn (w : World) (f : Fn) (a c : Array Value) : (binOp .eql 108 (.func f a c) .nilFunc).run Tryz.prog w = .ok (.bool false) w := by kernel_rfl
theorem qNil (w : World) : (binOp .eql 108 .nilFunc .nilFunc).run Tryz.prog w = .ok (.bool true) w := by kernel_rfl
set_option maxHeartbeats 1000000 in
theorem cDo_any (q : Nat) (c : Acc) (t : Value) (r : List Value) (k a n v x : Int) (s0 : Option Addr) (sl sc : Nat) (f : Nat) (cap : Array Value) (w : World) (h : Mch w q c t r) :
  Calls Tryz.prog 72 #[.pointer (some ⟨q, 0, none⟩), .agg #[.int .i64 k, .int .i64 a, .int .i64 n, .int .u64 v, .int .u64 x, .slice s0 sl sc], .func (.func f) #[] cap] w fun e w' => e = .returned (.tuple #[]) ∧ Mch w' q ⟨k, a, n, v, x, .slice s0 sl sc⟩ (.func (.func f) #[] cap) r ∧ Keep (· = q) w w' := by
 have hlt := h.lt
 have H := Lib.hid h
 obtain ⟨c0, c1, c2, c3, c4, c5, c6⟩ := h.cells
 obtain ⟨z0, z1, z2, z3, z4, z5, z6⟩ := h.frozens
 clear h
 go_enter Tryz.func72, Tryz.ntmps72
 go_wp2
 go_end0
 exact ⟨rfl, (H.out.set ⟨k, a, n, v, x, .slice s0 sl sc⟩ _).alloc _, Keep.alloc (Keep.setCell (Keep.setCell (Keep.setCell (Keep.setCell (Keep.setCell (Keep.setCell (Keep.setCell (M := (· = q)) (Keep.refl _ w) (p := ⟨q, 0, none⟩) (.inl rfl) _) (p := ⟨q, 1, none⟩) (.inl rfl) _) (p := ⟨q, 2, none⟩) (.inl rfl) _) (p := ⟨q, 3, none⟩) (.inl rfl) _) (p := ⟨q, 4, none⟩) (.inl rfl) _) (p := ⟨q, 5, none⟩) (.inl rfl) _) (p := ⟨q, 6, none⟩) (.inl rfl) _) _⟩
set_option maxHeartbeats 1000000 in
theorem cNext_end (q : Nat) (c : Acc) (r : List Value) (w : World) (h : Mch w q c .nilFunc r) :
  Calls Tryz.prog 113 #[.pointer (some ⟨q, 0, none⟩)] w fun e w' => e = .returned (.tuple #[accZ.V, .bool false]) ∧ Below w.heap.size w w' := by
 have hlt := h.lt
 obtain ⟨c0, c1, c2, c3, c4, c5, c6⟩ := h.cells
 clear h
 have qF := qFn
 have qN := qNil
 go_enter Tryz.func113, Tryz.ntmps113
 go_wp2
 refine bodyPost_ret (v := .tuple #[accZ.V, .bool false]) ?_ rfl ⟨rfl, by go_grown⟩
 rw [results_cell_tmp rfl]
 go_simp
 first | done | exact ⟨rfl, rfl⟩ | rfl
set_option maxHeartbeats 1000000 in
theorem cNext_more (q : Nat) (k a n v x : Int) (s0 : Option Addr) (sl sc : Nat) (f : Nat) (cap : Array Value) (r : List Value) (w : World) (h : Mch w q ⟨k, a, n, v, x, .slice s0 sl sc⟩ (.func (.func f) #[] cap) r) :
  Calls Tryz.prog 113 #[.pointer (some ⟨q, 0, none⟩)] w fun e w' => e = .returned (.tuple #[(Acc.mk k a n v x (.slice s0 sl sc)).V, .bool true]) ∧ Below w.heap.size w w' := by
 have hlt := h.lt
 obtain ⟨c0, c1, c2, c3, c4, c5, c6⟩ := h.cells
 clear h
 have qF := qFn
 have qN := qNil
 go_enter Tryz.func113, Tryz.ntmps113
 go_wp2
 refine bodyPost_ret (v := .tuple #[(Acc.mk k a n v x (.slice s0 sl sc)).V, .bool true]) ?_ rfl ⟨rfl, by go_grown⟩
 rw [results_cell_tmp rfl]
 go_simp
 first | done | exact ⟨rfl, rfl⟩ | rfl
set_option maxHeartbeats 1000000 in
theorem cTake_end (q : Nat) (c : Acc) (r : List Value) (v : Int) (d : Bool) (s0 : Option Addr) (sl sc : Nat) (w : World) (h : Mch w q c .nilFunc r) :
  Calls Tryz.prog 192 #[.pointer (some ⟨q, 0, none⟩), .agg #[.int .u64 v, .bool d, .slice s0 sl sc]] w fun e w' => e = .returned (.tuple #[]) ∧ Below w.heap.size w w' := by
 have hlt := h.lt
 obtain ⟨c0, c1, c2, c3, c4, c5, c6⟩ := h.cells
 clear h
 have qF := qFn
 have qN := qNil
 go_enter Tryz.func192, Tryz.ntmps192
 go_wp2
 exact bodyPost_ret (v := .tuple #[]) (results_none rfl _ _ _) rfl ⟨rfl, by go_grown⟩
set_option maxHeartbeats 1000000 in
theorem cTake_any (q : Nat) (c : Acc) (f : Nat) (cap : Array Value) (r : List Value) (v : Int) (d : Bool) (s0 : Option Addr) (sl sc : Nat) (w : World) (h : Mch w q c (.func (.func f) #[] cap) r)
  (hen : ∀ w1, (callFunc f (#[.agg #[.int .u64 v, .bool d, .slice s0 sl sc]] ++ cap)).run Tryz.prog w1 = .ok (.enter f (#[.agg #[.int .u64 v, .bool d, .slice s0 sl sc]] ++ cap)) w1) (Q : World → Prop)
  (hF : ∀ w1, Mch w1 q accZ .nilFunc r → Keep (· = q) w w1 → Calls Tryz.prog f (#[.agg #[.int .u64 v, .bool d, .slice s0 sl sc]] ++ cap) w1 fun e w' => e = .returned (.tuple #[]) ∧ Q w') :
  Calls Tryz.prog 192 #[.pointer (some ⟨q, 0, none⟩), .agg #[.int .u64 v, .bool d, .slice s0 sl sc]] w fun e w' => e = .returned (.tuple #[]) ∧ Q w' := by
 have hlt := h.lt
 have H := Lib.hid h
 have HF := Lib.hid hF
 obtain ⟨c0, c1, c2, c3, c4, c5, c6⟩ := h.cells
 obtain ⟨z0, z1, z2, z3, z4, z5, z6⟩ := h.frozens
 clear h hF
 have qF := qFn
 go_enter Tryz.func192, Tryz.ntmps192
 go_wp2_with fail
 refine (HF.out _ ((H.out.set accZ .nilFunc).alloc _) (Keep.alloc (Keep.setCell (Keep.setCell (Keep.setCell (Keep.setCell (Keep.setCell (Keep.setCell (Keep.setCell (M := (· = q)) (Keep.refl _ w) (p := ⟨q, 0, none⟩) (.inl rfl) _) (p := ⟨q, 1, none⟩) (.inl rfl) _) (p := ⟨q, 2, none⟩) (.inl rfl) _) (p := ⟨q, 3, none⟩) (.inl rfl) _) (p := ⟨q, 4, none⟩) (.inl rfl) _) (p := ⟨q, 5, none⟩) (.inl rfl) _) (p := ⟨q, 6, none⟩) (.inl rfl) _) _)).mono ?_
 rintro e w' ⟨rfl, hQ⟩
 go_wp2
 go_end0
 exact ⟨rfl, hQ⟩
end Go.Proofs.YtggjhleomocojaaGreat
end
