/- What a call may have written: blocks that are named, and new ones; rows of words. No program in sight. Conditions: none. -/
import Derived.Test.YtpicplkbblmbeaaGreatPl
namespace Go.Proofs.YtpicplkbblmbeaaGreat
open Go.RowKit
/-- Of what was there only the blocks that M names may have turned. -/
structure Keep (M : Nat → Prop) (w w' : World) : Prop where
  os : w'.os = w.os
  tape : w'.tape = w.tape
  output : w'.output = w.output
  size : w.heap.size ≤ w'.heap.size
  block : ∀ k, k < w.heap.size → ¬ M k → w'.heap[k]? = w.heap[k]?
theorem Keep.refl (M : Nat → Prop) (w : World) : Keep M w w := ⟨rfl, rfl, rfl, Nat.le_refl _, fun _ _ _ => rfl⟩
theorem Keep.trans {M : Nat → Prop} {a b c : World} (h : Keep M a b) (k : Keep M b c) : Keep M a c :=
  ⟨k.os.trans h.os, k.tape.trans h.tape, k.output.trans h.output, Nat.le_trans h.size k.size, fun i hi hm => (k.block i (Nat.lt_of_lt_of_le hi h.size) hm).trans (h.block i hi hm)⟩
theorem Keep.mono {M M' : Nat → Prop} {a b : World} (h : Keep M a b) (hm : ∀ k, k < a.heap.size → M k → M' k) : Keep M' a b :=
  ⟨h.os, h.tape, h.output, h.size, fun i hi hn => h.block i hi fun hi' => hn (hm i hi hi')⟩
/-- What may turn in the second step is named in the first one's, or is new. -/
theorem Keep.then {M M' : Nat → Prop} {a b c : World} (h : Keep M a b) (k : Keep M' b c) (hm : ∀ i, i < a.heap.size → M' i → M i) : Keep M a c :=
  ⟨k.os.trans h.os, k.tape.trans h.tape, k.output.trans h.output, Nat.le_trans h.size k.size, fun i hi hn => (k.block i (Nat.lt_of_lt_of_le hi h.size) fun hi' => hn (hm i hi hi')).trans (h.block i hi hn)⟩
theorem Below.keep {B : Nat} {w w' : World} (h : Below B w w') : Keep (fun k => B ≤ k) w w' := ⟨h.os, h.tape, h.output, h.size, fun k _ hm => h.block k (Nat.lt_of_not_le hm)⟩
theorem Below.keeps {M : Nat → Prop} {w w' : World} (h : Below w.heap.size w w') : Keep M w w' := ⟨h.os, h.tape, h.output, h.size, fun k hk _ => h.block k hk⟩
theorem Keep.below {M : Nat → Prop} {B : Nat} {w w' : World} (h : Keep M w w') (hB : B ≤ w.heap.size) (hm : ∀ k, k < B → ¬ M k) : Below B w w' := ⟨h.os, h.tape, h.output, h.size, fun k hk => h.block k (Nat.lt_of_lt_of_le hk hB) (hm k hk)⟩
theorem Keep.drew {M : Nat → Prop} {w w' : World} (h : Keep M w w') : Keep M w w'.drew := ⟨h.os, h.tape, h.output, h.size, h.block⟩
theorem Keep.drewN {M : Nat → Prop} {w w' : World} (n : Nat) (h : Keep M w w') : Keep M w (w'.drewN n) := ⟨h.os, h.tape, h.output, h.size, h.block⟩
theorem Keep.alloc {M : Nat → Prop} {w w' : World} (h : Keep M w w') (o : Obj) : Keep M w (w'.alloc o) :=
  h.trans (Below.keeps ((Below.refl _ _).alloc (Nat.le_refl _) o))
theorem Keep.setCell {M : Nat → Prop} {w w' : World} (h : Keep M w w') {p : Addr} (hp : M p.block ∨ w.heap.size ≤ p.block) (u : Value) : Keep M w (w'.setCell p u) := by
  refine ⟨h.os, h.tape, h.output, ?_, fun k hk hn => ?_⟩
  · have := h.size
    simpa [World.setCell] using this
  · rw [Below.heap_setCell _ _ _ _ ?_]
    · exact h.block k hk hn
    · rintro rfl
      rcases hp with hp | hp
      · exact hn hp
      · omega
theorem Keep.cell {M : Nat → Prop} {w w' : World} (h : Keep M w w') {b : Nat} (o : Nat) (hb : b < w.heap.size) (hm : ¬ M b) : w'.cell? ⟨b, o, none⟩ = w.cell? ⟨b, o, none⟩ :=
  World.cell?_of_block (w := w) (h.block b hb hm)
theorem Keep.frozen {M : Nat → Prop} {w w' : World} (h : Keep M w w') {b : Nat} (o : Nat) (hb : b < w.heap.size) (hm : ¬ M b) : w'.frozen? ⟨b, o, none⟩ = w.frozen? ⟨b, o, none⟩ :=
  World.frozen?_of_block (w := w) (h.block b hb hm)
/-- A block is a row of known values, none of it frozen. -/
def Blk (w : World) (b : Nat) (cs : List Value) : Prop := ∃ T, w.heap[b]? = some (.cells cs.toArray T (0, 0))
theorem Blk.lt {w : World} {b : Nat} {cs : List Value} (h : Blk w b cs) : b < w.heap.size := by
  obtain ⟨T, h⟩ := h
  exact (Array.getElem?_eq_some_iff.1 h).1
theorem Blk.cell {w : World} {b : Nat} {cs : List Value} (h : Blk w b cs) (i : Nat) : w.cell? ⟨b, i, none⟩ = cs[i]? := by
  obtain ⟨T, h⟩ := h
  simp [World.cell?, h]
theorem Blk.frozen {w : World} {b : Nat} {cs : List Value} (h : Blk w b cs) (i : Nat) : w.frozen? ⟨b, i, none⟩ = false := by
  obtain ⟨T, h⟩ := h
  simp [World.frozen?, h]
theorem Blk.keep {M : Nat → Prop} {w w' : World} {b : Nat} {cs : List Value} (h : Blk w b cs) (k : Keep M w w') (hm : ¬ M b) : Blk w' b cs := by
  have hl := h.lt
  obtain ⟨T, h⟩ := h
  exact ⟨T, by rw [k.block b hl hm]; exact h⟩
theorem Blk.below {B : Nat} {w w' : World} {b : Nat} {cs : List Value} (h : Blk w b cs) (k : Below B w w') (hb : b < B) : Blk w' b cs := by
  obtain ⟨T, h⟩ := h
  exact ⟨T, by rw [k.block b hb]; exact h⟩
theorem Blk.drew {w : World} {b : Nat} {cs : List Value} (h : Blk w b cs) : Blk w.drew b cs := h
theorem Blk.drewN {w : World} {b : Nat} {cs : List Value} (n : Nat) (h : Blk w b cs) : Blk (w.drewN n) b cs := h
theorem Blk.alloc {w : World} {b : Nat} {cs : List Value} (h : Blk w b cs) (o : Obj) : Blk (w.alloc o) b cs := by
  have hl := h.lt
  obtain ⟨T, h⟩ := h
  exact ⟨T, by rw [Below.heap_alloc _ _ _ hl]; exact h⟩
theorem Blk.made (w : World) (cs : Array Value) (T : TypeId) : Blk (w.alloc (.cells cs T)) w.heap.size cs.toList := ⟨T, by rw [(MapKept.heap_alloc w _).1]⟩
theorem Blk.set {w : World} {b : Nat} {cs : List Value} (h : Blk w b cs) (i : Nat) (v : Value) : Blk (w.setCell ⟨b, i, none⟩ v) b (cs.set i v) := by
  obtain ⟨T, h⟩ := h
  refine ⟨T, ?_⟩
  simp [World.setCell, Array.getElem?_modify, h]
theorem Blk.far {w : World} {b : Nat} {cs : List Value} (h : Blk w b cs) {a : Addr} (hne : b ≠ a.block) (v : Value) : Blk (w.setCell a v) b cs := by
  obtain ⟨T, h⟩ := h
  exact ⟨T, by rw [Below.heap_setCell _ _ _ _ hne]; exact h⟩
/-- A row of words. -/
def WB (w : World) (c : Nat) (ws : List Int) : Prop := Blk w c (ws.map (Value.int .u64))
theorem WB.cell {w : World} {c : Nat} {ws : List Int} (h : WB w c ws) (i : Nat) (hi : i < ws.length) : w.cell? ⟨c, i, none⟩ = some (.int .u64 (gB ws i)) := by
  have := Blk.cell h i
  simp only [this]
  simp [gB, hi]
theorem WB.frozen {w : World} {c : Nat} {ws : List Int} (h : WB w c ws) (i : Nat) : w.frozen? ⟨c, i, none⟩ = false := Blk.frozen h i
theorem WB.set {w : World} {c : Nat} {ws : List Int} (h : WB w c ws) (i : Nat) (x : Int) : WB (w.setCell ⟨c, i, none⟩ (.int .u64 x)) c (ws.set i x) := by
  have := Blk.set h i (.int .u64 x)
  unfold WB
  rw [List.map_set]
  exact this
end Go.Proofs.YtpicplkbblmbeaaGreat
