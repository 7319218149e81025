/- meta.Init: a machine that stores numbers, one behind the other. Conditions: as each says. -/
import Derived.Test.YtabifjolocmonaaKc
import Derived.Shelf.Abstract
import Derived.Laws.AppendOwn
namespace Go.Proofs.Ytabifjolocmonaa
set_option maxRecDepth 100000
open Go.RowKit
set_option linter.unusedVariables false
set_option linter.unusedSimpArgs false
/-- A number to be stored: where, how wide, which. -/
structure Sto where
  a : Int
  n : Int
  v : Int
def Sto.cs (x : Sto) : List Value := [.int .i64 2, .int .i64 x.a, .int .i64 x.n, .int .u64 x.v, .int .u64 0, .slice none 0 0]
def Sto.acc (x : Sto) : Acc := ⟨2, x.a, x.n, x.v, 0, .slice none 0 0⟩
def rowS (L : List Sto) : List Value := L.flatMap Sto.cs
theorem rowS_len (L : List Sto) : (rowS L).length = L.length * 6 := by
  induction L with
  | nil => rfl
  | cons x L ih => simp [rowS, Sto.cs] at ih ⊢; omega
theorem rowS_snoc (L : List Sto) (x : Sto) : rowS (L ++ [x]) = rowS L ++ x.cs := by simp [rowS]
theorem rowS_cons (x : Sto) (L : List Sto) : rowS (x :: L) = x.cs ++ rowS L := by simp [rowS]
def ptrM (b : Nat) : Value := .pointer (some ⟨b, 0, none⟩)
/-- A slice value holds accesses that store. -/
def RdS (w : World) (v : Value) (L : List Sto) : Prop :=
  (∃ a c, v = .slice a 0 c ∧ L = []) ∨ ∃ g off cap, v = .slice (some ⟨g, off, none⟩) L.length cap ∧ L.length ≤ cap ∧ ∀ j u, (rowS L)[j]? = some u → w.cell? ⟨g, off + j, none⟩ = some u
theorem RdS.keep {M : Nat → Prop} {w w' : World} {v : Value} {L : List Sto} (h : RdS w v L) (k : Keep M w w') (hm : L ≠ [] → ∀ i, v.ownBlock = some i → ¬ M i) : RdS w' v L := by
  rcases h with h | ⟨g, off, cap, rfl, hc, hcell⟩
  · exact .inl h
  · refine .inr ⟨g, off, cap, rfl, hc, fun j u hj => ?_⟩
    have e := hcell j u hj
    rw [k.cell _ (World.block_lt_of_cell? w _ e) (hm (fun e => by subst e; simp [rowS] at hj) g rfl)]
    exact e
/-- A machine that is about to store L. -/
def IniSt (w : World) (F : Nat → Prop) (q : Nat) (L : List Sto) : Prop :=
  F q ∧ (∀ i, F i → i < w.heap.size) ∧ ((L = [] ∧ Mch w q accZ .nilFunc []) ∨ ∃ x L' cb tb v, L = x :: L' ∧ Mch w q x.acc (.func (.func 109) #[] #[ptrM cb, ptrM tb]) [] ∧ Blk w cb [ptrM q] ∧ Blk w tb [v] ∧ RdS w v L ∧ F cb ∧ F tb ∧ cb ≠ q ∧ tb ≠ q ∧ (∀ i, v.ownBlock = some i → F i ∧ i ≠ q))
theorem IniSt.keep {M F : Nat → Prop} {w w' : World} {q : Nat} {L : List Sto} (h : IniSt w F q L) (k : Keep M w w') (hm : ∀ i, F i → ¬ M i) : IniSt w' F q L := by
  obtain ⟨h1, h2, h3⟩ := h
  refine ⟨h1, fun i hi => Nat.lt_of_lt_of_le (h2 i hi) k.size, ?_⟩
  rcases h3 with ⟨e, m⟩ | ⟨x, L', cb, tb, v, e, m, b1, b2, hr, f1, f2, n1, n2, hv⟩
  · exact .inl ⟨e, Blk.keep m k (hm q h1)⟩
  · exact .inr ⟨x, L', cb, tb, v, e, Blk.keep m k (hm q h1), b1.keep k (hm _ f1), b2.keep k (hm _ f2), hr.keep k (fun _ i hi => hm i (hv i hi).1), f1, f2, n1, n2, hv⟩
theorem IniSt.mono {F F' : Nat → Prop} {w : World} {q : Nat} {L : List Sto} (h : IniSt w F q L) (hf : ∀ i, F i → F' i) (hb : ∀ i, F' i → i < w.heap.size) : IniSt w F' q L := by
  obtain ⟨h1, h2, h3⟩ := h
  refine ⟨hf q h1, hb, ?_⟩
  rcases h3 with h3 | ⟨x, L', cb, tb, v, e, m, b1, b2, hr, f1, f2, n1, n2, hv⟩
  · exact .inl h3
  · exact .inr ⟨x, L', cb, tb, v, e, m, b1, b2, hr, hf _ f1, hf _ f2, n1, n2, fun i hi => ⟨hf _ (hv i hi).1, (hv i hi).2⟩⟩
theorem accinfo : (Try.prog.info? 60).map (fun i => (i.zero, i.size, i.bytes)) = some (some (.agg #[.int .i64 0, .int .i64 0, .int .i64 0, .int .u64 0, .int .u64 0, .slice none 0 0]), 6, 64) := by kernel_rfl
theorem enAll (args : Array Value) (w : World) : (callFunc 109 args).run Try.prog w = .ok (.enter 109 args) w :=
  enters_of Try.func109 (by kernel_rfl) rfl args w
set_option maxHeartbeats 2000000 in
/-- all: of no accesses. -/
theorem all_nil (q : Nat) (a : Option Addr) (c : Nat) (w : World) :
    Calls Try.prog 84 #[.pointer (some ⟨q, 0, none⟩), .slice a 0 c] w fun e w' => e = .returned (.tuple #[]) ∧ Below w.heap.size w w' := by
  go_enter Try.func84, Try.ntmps84
  go_wp2
  go_end0
  exact ⟨rfl, by go_grown⟩
set_option maxHeartbeats 2000000 in
/-- all: of some. -/
theorem all_more (q : Nat) (x : Sto) (L : List Sto) (g off cap : Nat) (w : World) (F : Nat → Prop) (hm : Mch w q accZ .nilFunc []) (hF : F q ∧ F g ∧ g ≠ q) (hFl : ∀ i, F i → i < w.heap.size) (hr : RdS w (.slice (some ⟨g, off, none⟩) (L.length + 1) cap) (x :: L)) :
    Calls Try.prog 84 #[.pointer (some ⟨q, 0, none⟩), .slice (some ⟨g, off, none⟩) (L.length + 1) cap] w fun e w' => e = .returned (.tuple #[]) ∧ IniSt w' (fun i => F i ∨ (w.heap.size ≤ i ∧ i < w'.heap.size)) q (x :: L) ∧ Keep (· = q) w w' := by
  have hlt := hm.lt
  have H := Lib.hid hm
  have HR := Lib.hid hr
  have hgl := hFl g hF.2.1
  have HFL := Lib.hid hFl
  obtain ⟨c0, c1, c2, c3, c4, c5⟩ : w.cell? ⟨g, off, none⟩ = some (.int .i64 2) ∧ w.cell? ⟨g, off + 1, none⟩ = some (.int .i64 x.a) ∧ w.cell? ⟨g, off + 2, none⟩ = some (.int .i64 x.n) ∧ w.cell? ⟨g, off + 3, none⟩ = some (.int .u64 x.v) ∧ w.cell? ⟨g, off + 4, none⟩ = some (.int .u64 0) ∧ w.cell? ⟨g, off + 5, none⟩ = some (.slice none 0 0) := by
    rcases hr with ⟨_, _, _, e⟩ | ⟨g', off', cap', e, hc, hcell⟩
    · cases e
    · cases e
      rw [rowS_cons] at hcell
      exact ⟨hcell 0 _ rfl, hcell 1 _ rfl, hcell 2 _ rfl, hcell 3 _ rfl, hcell 4 _ rfl, hcell 5 _ rfl⟩
  have hpos : (0 : Int) < (L.length : Int) + 1 := by omega
  have hne := hF.2.2
  clear hm hr hFl
  go_enter Try.func84, Try.ntmps84
  go_wp2_with fail
  go_region_held3 (fun w' => w'.cell? ⟨w.heap.size, 0, none⟩ = some (.pointer (some ⟨q, 0, none⟩)) ∧ w'.cell? ⟨w.heap.size + 1, 0, none⟩ = some (.slice (some ⟨g, off, none⟩) (L.length + 1) cap) ∧ w'.cell? ⟨g, off, none⟩ = some (.int .i64 2) ∧ w'.cell? ⟨g, off + 1, none⟩ = some (.int .i64 x.a) ∧ w'.cell? ⟨g, off + 2, none⟩ = some (.int .i64 x.n) ∧ w'.cell? ⟨g, off + 3, none⟩ = some (.int .u64 x.v) ∧ w'.cell? ⟨g, off + 4, none⟩ = some (.int .u64 0) ∧ w'.cell? ⟨g, off + 5, none⟩ = some (.slice none 0 0)) (first | go_keep | trivial)
    ((go_at_call 108; refine (cDo_any q accZ .nilFunc [] 2 x.a x.n x.v 0 none 0 0 _ _ _ (Blk.drew (Blk.alloc (Blk.alloc H.out _) _))).mono ?_; rintro e w2 ⟨rfl, m2, k2⟩; have hc0 := fun o => k2.cell (b := w.heap.size) o (by simp; omega) (by show ¬ w.heap.size = q; omega); have hc1 := fun o => k2.cell (b := w.heap.size + 1) o (by simp) (by show ¬ w.heap.size + 1 = q; omega); have hcg := fun o => k2.cell (b := g) o (by simp; omega) (by show ¬ g = q; exact hne)))
  clear hc0 hc1 hcg
  have z2 := k2.size
  simp at z2
  go_wp2
  go_end0
  have K2 : Keep (· = q) w w2 := ((((Keep.refl _ w).alloc _).alloc _).drew).trans k2
  have b0 : Blk w2 w.heap.size [ptrM q] := Blk.keep (Blk.drew (Blk.alloc (Blk.made w #[ptrM q] 72) _)) k2 (by show ¬ w.heap.size = q; omega)
  have b1 : Blk w2 (w.heap.size + 1) [.slice (some ⟨g, off, none⟩) (L.length + 1) cap] := by
    have e := Blk.made (w.alloc (Obj.cells #[ptrM q] 72)) #[Value.slice (some ⟨g, off, none⟩) (L.length + 1) cap] 105
    rw [World.size_alloc] at e
    exact Blk.keep (Blk.drew e) k2 (by show ¬ w.heap.size + 1 = q; omega)
  refine ⟨rfl, ⟨.inl hF.1, fun i hi => ?_, .inr ⟨x, L, w.heap.size, w.heap.size + 1, _, rfl, m2, b0, b1, HR.out.keep K2 (fun _ i hi e => ?_), .inr ⟨by omega, by omega⟩, .inr ⟨by omega, by omega⟩, by omega, by omega, fun i hi => ?_⟩⟩, K2⟩
  · rcases hi with hi | hi
    · have := HFL.out i hi
      omega
    · exact hi.2
  · obtain rfl : g = i := by simpa [Value.ownBlock] using hi
    exact hne e
  · obtain rfl : g = i := by simpa [Value.ownBlock] using hi
    exact ⟨.inl hF.2.1, hne⟩
set_option maxHeartbeats 2000000 in
/-- What it goes on with, where some are left. -/
theorem allK_more (q : Nat) (x y : Sto) (L : List Sto) (g off cap cb tb : Nat) (v : Int) (d : Bool) (s0 : Option Addr) (sl sc : Nat) (w : World) (F : Nat → Prop) (hm : Mch w q accZ .nilFunc []) (hF : F q ∧ F g ∧ g ≠ q) (hFl : ∀ i, F i → i < w.heap.size) (b0 : Blk w cb [ptrM q]) (b1 : Blk w tb [.slice (some ⟨g, off, none⟩) (L.length + 2) cap]) (hcq : cb ≠ q) (htq : tb ≠ q) (hc : L.length + 2 ≤ cap)
    (hr : RdS w (.slice (some ⟨g, off, none⟩) (L.length + 2) cap) (x :: y :: L)) :
    Calls Try.prog 109 #[.agg #[.int .u64 v, .bool d, .slice s0 sl sc], ptrM cb, ptrM tb] w fun e w' => e = .returned (.tuple #[]) ∧ IniSt w' (fun i => F i ∨ (w.heap.size ≤ i ∧ i < w'.heap.size)) q (y :: L) ∧ Keep (· = q) w w' := by
  have l0 := b0.lt
  have l1 := b1.lt
  have c0 := b0.cell 0
  have c1 := b1.cell 0
  simp only [List.getElem?_cons_zero, ptrM] at c0 c1
  have H := Lib.hid hm
  have qlt := hm.lt
  have HF := Lib.hid hF
  have HFL := Lib.hid hFl
  have hr2 : RdS w (.slice (some ⟨g, off + 6, none⟩) (L.length + 1) (cap - 1)) (y :: L) := by
    rcases hr with ⟨_, _, _, e⟩ | ⟨g', off', cap', e, hc, hcell⟩
    · cases e
    · cases e
      refine .inr ⟨g, off + 6, cap - 1, rfl, by simp; omega, fun j u hj => ?_⟩
      rw [Nat.add_assoc]
      exact hcell (6 + j) u (by rw [rowS_cons, List.getElem?_append_right (by simp [Sto.cs])]; simpa [Sto.cs] using hj)
  have HR := Lib.hid hr2
  have n1 : (1 : Int) ≤ ((L.length + 2 : Nat) : Int) := by omega
  have n2 : ¬ cap = 1 := by omega
  have n3 : (1 : Int) ≤ (L.length : Int) + 2 := by omega
  unfold ptrM
  clear hm b0 b1 hr hr2 hF hFl
  go_enter Try.func109, Try.ntmps109
  go_wp2_with fail
  go_region_held3 (fun w' => w'.cell? ⟨cb, 0, none⟩ = some (.pointer (some ⟨q, 0, none⟩)) ∧ w'.cell? ⟨tb, 0, none⟩ = some (.slice (some ⟨g, off, none⟩) (L.length + 2) cap)) (first | go_keep | trivial)
    ((go_at_call 84; refine (all_more q y L g (off + 6) (cap - 1) _ F (Blk.drew (Blk.alloc H.out _)) HF.out (fun i hi => by have := HFL.out i hi; simp; omega) ((HR.out.keep (M := fun _ => False) ((Keep.refl _ _).alloc _) (fun _ _ _ => id)).keep (M := fun _ => False) (Keep.drew (Keep.refl _ _)) (fun _ _ _ => id))).mono ?_; rintro e w2 ⟨rfl, st2, k2⟩; have hc0 := fun o => k2.cell (b := cb) o (by simp; omega) (by show ¬ cb = q; omega); have hc1 := fun o => k2.cell (b := tb) o (by simp; omega) (by show ¬ tb = q; omega)))
  clear hc0 hc1
  go_wp2
  go_end0
  have z2 := k2.size
  simp at z2
  refine ⟨rfl, st2.mono (fun i hi => ?_) (fun i hi => ?_), (((Keep.refl _ w).alloc _).drew).trans k2⟩
  · rcases hi with hi | hi
    · exact .inl hi
    · simp at hi
      exact .inr (by omega)
  · rcases hi with hi | hi
    · have := HFL.out i hi
      omega
    · exact hi.2
set_option maxHeartbeats 2000000 in
/-- What it goes on with, where none is left. -/
theorem allK_last (q g off cap cb tb : Nat) (v : Int) (d : Bool) (s0 : Option Addr) (sl sc : Nat) (w : World) (b0 : Blk w cb [ptrM q]) (b1 : Blk w tb [.slice (some ⟨g, off, none⟩) 1 cap]) (hc : 1 ≤ cap) :
    Calls Try.prog 109 #[.agg #[.int .u64 v, .bool d, .slice s0 sl sc], ptrM cb, ptrM tb] w fun e w' => e = .returned (.tuple #[]) ∧ Below w.heap.size w w' := by
  have l0 := b0.lt
  have l1 := b1.lt
  have c0 := b0.cell 0
  have c1 := b1.cell 0
  simp only [List.getElem?_cons_zero, ptrM] at c0 c1
  unfold ptrM
  clear b0 b1
  by_cases h1 : cap = 1
  · subst h1
    go_enter Try.func109, Try.ntmps109
    go_wp2_with fail
    go_region_held3 (fun w' => w'.cell? ⟨cb, 0, none⟩ = some (.pointer (some ⟨q, 0, none⟩)) ∧ w'.cell? ⟨tb, 0, none⟩ = some (.slice (some ⟨g, off, none⟩) 1 1)) (first | go_keep | trivial)
      ((go_at_call 84; refine (all_nil q _ _ _).mono ?_; rintro e w2 ⟨rfl, b2⟩; have hc0 := fun o => b2.cell (p := ⟨cb, o, none⟩) (by simp; omega); have hc1 := fun o => b2.cell (p := ⟨tb, o, none⟩) (by simp; omega)))
    clear hc0 hc1
    go_wp2
    go_end0
    exact ⟨rfl, Below.trans (by go_grown) (b2.mono (by simp))⟩
  · have h2 : ¬ cap = 1 := h1
    go_enter Try.func109, Try.ntmps109
    go_wp2_with fail
    go_region_held3 (fun w' => w'.cell? ⟨cb, 0, none⟩ = some (.pointer (some ⟨q, 0, none⟩)) ∧ w'.cell? ⟨tb, 0, none⟩ = some (.slice (some ⟨g, off, none⟩) 1 cap)) (first | go_keep | trivial)
      ((go_at_call 84; refine (all_nil q _ _ _).mono ?_; rintro e w2 ⟨rfl, b2⟩; have hc0 := fun o => b2.cell (p := ⟨cb, o, none⟩) (by simp; omega); have hc1 := fun o => b2.cell (p := ⟨tb, o, none⟩) (by simp; omega)))
    clear hc0 hc1
    go_wp2
    go_end0
    exact ⟨rfl, Below.trans (by go_grown) (b2.mono (by simp))⟩
theorem rdS_slice {w : World} {v : Value} {x : Sto} {L : List Sto} (h : RdS w v (x :: L)) : ∃ g off cap, v = .slice (some ⟨g, off, none⟩) (L.length + 1) cap ∧ L.length + 1 ≤ cap := by
  rcases h with ⟨_, _, _, e⟩ | ⟨g, off, cap, rfl, hc, _⟩
  · cases e
  · exact ⟨g, off, cap, rfl, hc⟩
theorem res_accM {fn : Func} {tmps : Array Value} {W : World} {q : Nat} {c : Acc} {E : Value} (hf : fn.results = #[.cell 2 60, .tmp 3]) (hp : tmps.getD 2 undef = .pointer (some ⟨q, 0, none⟩)) (he : tmps.getD 3 undef = E) (h : Blk W q c.cs) :
    (results fn tmps).run Try.prog W = .ok (.tuple #[c.V, E]) W := by
  have c0 := Blk.cell h 0
  have c1 := Blk.cell h 1
  have c2 := Blk.cell h 2
  have c3 := Blk.cell h 3
  have c4 := Blk.cell h 4
  have c5 := Blk.cell h 5
  simp only [Acc.cs, List.getElem?_cons_zero, List.getElem?_cons_succ] at c0 c1 c2 c3 c4 c5
  rw [results_cell_tmp hf, hp, he]
  go_simp
  rfl
set_option maxHeartbeats 1000000 in
theorem iNext_nil (w : World) : Calls Try.prog 53 #[.pointer none] w fun e w' => e = .returned (.tuple #[accZ.V, .bool false]) ∧ Below w.heap.size w w' := by
  go_enter Try.func53, Try.ntmps53
  go_wp2
  refine bodyPost_ret (v := .tuple #[accZ.V, .bool false]) ?_ rfl ⟨rfl, ?_⟩
  · rw [results_cell_tmp rfl]
    go_simp
    first | done | exact ⟨rfl, rfl⟩ | rfl
  · go_grown
set_option maxHeartbeats 1000000 in
theorem iNext_any (F : Nat → Prop) (q : Nat) (L : List Sto) (w : World) (h : IniSt w F q L) :
    Calls Try.prog 53 #[.pointer (some ⟨q, 0, none⟩)] w fun e w' => e = .returned (.tuple #[((L.head?.map Sto.acc).getD accZ).V, .bool (L.head?.isSome)]) ∧ Below w.heap.size w w' := by
  obtain ⟨h1, h2, h3⟩ := h
  have hlt := h2 q h1
  rcases h3 with ⟨rfl, m⟩ | ⟨x, L', cb, tb, v, rfl, m, _⟩
  · have H := Lib.hid m
    dsimp only [List.head?_nil, Option.map_none, Option.getD_none, Option.isSome_none]
    clear m h1 h2
    go_enter Try.func53, Try.ntmps53
    go_wp2_with fail
    refine (cNext_end q accZ [] _ (Blk.alloc H.out _)).mono ?_
    rintro e w1 ⟨rfl, b1⟩
    unfold Acc.V accZ
    dsimp only
    have A1 := Blk.below (Blk.made w #[.int .i64 0, .int .i64 0, .int .i64 0, .int .u64 0, .int .u64 0, .slice none 0 0] 60) b1 (by simp)
    have a0 := A1.cell 0
    have a1 := A1.cell 1
    have a2 := A1.cell 2
    have a3 := A1.cell 3
    have a4 := A1.cell 4
    have a5 := A1.cell 5
    have e0 := A1.frozen 0
    have e1 := A1.frozen 1
    have e2 := A1.frozen 2
    have e3 := A1.frozen 3
    have e4 := A1.frozen 4
    have e5 := A1.frozen 5
    simp only [List.getElem?_toArray, List.getElem?_cons_zero, List.getElem?_cons_succ] at a0 a1 a2 a3 a4 a5
    have HA := Lib.hid A1
    have B1 : Below w.heap.size w w1 := ((Below.refl w.heap.size w).alloc (Nat.le_refl _) _).trans (b1.mono (by simp))
    clear A1 b1
    go_wp2
    have e := (((((HA.out.set 0 (.int .i64 0)).set 1 (.int .i64 0)).set 2 (.int .i64 0)).set 3 (.int .u64 0)).set 4 (.int .u64 0)).set 5 (.slice none 0 0)
    refine bodyPost_ret (v := .tuple #[accZ.V, .bool false]) ?_ rfl ⟨rfl, ?_⟩
    · exact res_accM rfl rfl rfl e
    · repeat' (refine Below.setCell ?_ (by simp) _)
      exact B1
  · have H := Lib.hid m
    dsimp only [List.head?_cons, Option.map_some, Option.getD_some, Option.isSome_some]
    clear m h1 h2
    go_enter Try.func53, Try.ntmps53
    go_wp2_with fail
    refine (cNext_more q 2 x.a x.n x.v 0 none 0 0 _ _ [] _ (Blk.alloc H.out _)).mono ?_
    rintro e w1 ⟨rfl, b1⟩
    unfold Acc.V
    dsimp only
    have A1 := Blk.below (Blk.made w #[.int .i64 0, .int .i64 0, .int .i64 0, .int .u64 0, .int .u64 0, .slice none 0 0] 60) b1 (by simp)
    have a0 := A1.cell 0
    have a1 := A1.cell 1
    have a2 := A1.cell 2
    have a3 := A1.cell 3
    have a4 := A1.cell 4
    have a5 := A1.cell 5
    have e0 := A1.frozen 0
    have e1 := A1.frozen 1
    have e2 := A1.frozen 2
    have e3 := A1.frozen 3
    have e4 := A1.frozen 4
    have e5 := A1.frozen 5
    simp only [List.getElem?_toArray, List.getElem?_cons_zero, List.getElem?_cons_succ] at a0 a1 a2 a3 a4 a5
    have HA := Lib.hid A1
    have B1 : Below w.heap.size w w1 := ((Below.refl w.heap.size w).alloc (Nat.le_refl _) _).trans (b1.mono (by simp))
    clear A1 b1
    go_wp2
    have e := (((((HA.out.set 0 (.int .i64 2)).set 1 (.int .i64 x.a)).set 2 (.int .i64 x.n)).set 3 (.int .u64 x.v)).set 4 (.int .u64 0)).set 5 (.slice none 0 0)
    refine bodyPost_ret (v := .tuple #[(Sto.acc x).V, .bool true]) ?_ rfl ⟨rfl, ?_⟩
    · exact res_accM rfl rfl rfl e
    · repeat' (refine Below.setCell ?_ (by simp) _)
      exact B1
set_option maxHeartbeats 1000000 in
theorem iTake_nil (x : Int) (d : Bool) (s0 : Option Addr) (sl sc : Nat) (w : World) : Calls Try.prog 54 #[.pointer none, .agg #[.int .u64 x, .bool d, .slice s0 sl sc]] w fun e w' => e = .returned (.tuple #[]) ∧ Below w.heap.size w w' := by
  go_enter Try.func54, Try.ntmps54
  go_wp2
  go_end0
  exact ⟨rfl, by go_grown⟩
set_option maxHeartbeats 1000000 in
theorem iTake_lift (q : Nat) (v : Int) (d : Bool) (s0 : Option Addr) (sl sc : Nat) (w : World) (Q : World → Prop)
    (hF : ∀ w1, Below w.heap.size w w1 → Calls Try.prog 81 #[.pointer (some ⟨q, 0, none⟩), .agg #[.int .u64 v, .bool d, .slice s0 sl sc]] w1 fun e w' => e = .returned (.tuple #[]) ∧ Q w') :
    Calls Try.prog 54 #[.pointer (some ⟨q, 0, none⟩), .agg #[.int .u64 v, .bool d, .slice s0 sl sc]] w fun e w' => e = .returned (.tuple #[]) ∧ Q w' := by
  have HF := Lib.hid hF
  clear hF
  go_enter Try.func54, Try.ntmps54
  go_wp2_with fail
  go_region_with ((go_at_call 81; refine (HF.out _ (by go_grown)).mono ?_; rintro e w' ⟨rfl, hQ⟩))
  go_wp2
  go_end0
  exact ⟨rfl, hQ⟩
theorem iTake_any (F : Nat → Prop) (q : Nat) (L : List Sto) (v : Int) (d : Bool) (s0 : Option Addr) (sl sc : Nat) (w : World) (h : IniSt w F q L) :
    Calls Try.prog 54 #[.pointer (some ⟨q, 0, none⟩), .agg #[.int .u64 v, .bool d, .slice s0 sl sc]] w fun e w' => e = .returned (.tuple #[]) ∧ ∃ F', IniSt w' F' q L.tail ∧ (∀ i, F' i → F i ∨ w.heap.size ≤ i) ∧ Keep F w w' := by
  refine iTake_lift q v d s0 sl sc w _ ?_
  intro w1 b1
  have z1 := b1.size
  obtain ⟨h1, h2, h3⟩ := h.keep (M := fun _ => False) (Below.keeps b1) (fun _ _ => id)
  have h2w := h.2.1
  rcases h3 with ⟨rfl, m⟩ | ⟨x, L', cb, tb, vv, rfl, m, c0, c1, hr, f1, f2, n1, n2, hv⟩
  · refine (cTake_end q accZ [] v d s0 sl sc w1 m).mono ?_
    rintro e w' ⟨rfl, b⟩
    exact ⟨rfl, F, ⟨h1, fun i hi => Nat.lt_of_lt_of_le (h2 i hi) b.size, .inl ⟨rfl, Blk.below m b m.lt⟩⟩, fun i hi => .inl hi, (Below.keeps b1).trans (Below.keeps b)⟩
  · obtain ⟨g, off, cap, rfl, hcap⟩ := rdS_slice hr
    have hg := hv g rfl
    refine (cTake_any q _ _ _ [] v d s0 sl sc w1 m (fun w1 => enAll _ w1) (fun w' => ∃ F', IniSt w' F' q L' ∧ (∀ i, F' i → F i ∨ w.heap.size ≤ i) ∧ Keep F w w') ?_)
    intro w2 m2 k2
    have z2 := k2.size
    have K12 : Keep F w w2 := (Below.keeps b1).trans (k2.mono (fun i _ e => e ▸ h1))
    cases L' with
    | nil =>
      refine (allK_last q g off cap cb tb v d s0 sl sc w2 (c0.keep k2 n1) (c1.keep k2 n2) (by simpa using hcap)).mono ?_
      rintro e w' ⟨rfl, b⟩
      have := b.size
      exact ⟨rfl, F, ⟨h1, fun i hi => by have := h2 i hi; omega, .inl ⟨rfl, Blk.below m2 b m2.lt⟩⟩, fun i hi => .inl hi, K12.trans (Below.keeps b)⟩
    | cons y L'' =>
      refine (allK_more q x y L'' g off cap cb tb v d s0 sl sc w2 F m2 ⟨h1, hg.1, hg.2⟩ (fun i hi => Nat.lt_of_lt_of_le (h2 i hi) k2.size) (c0.keep k2 n1) (c1.keep k2 n2) n1 n2 (by simpa using hcap) (hr.keep k2 (fun _ i hi => (hv i hi).2))).mono ?_
      rintro e w' ⟨rfl, st, k⟩
      refine ⟨rfl, _, st, fun i hi => ?_, K12.trans (k.mono (fun i _ e => e ▸ h1))⟩
      rcases hi with hi | hi
      · exact .inl hi
      · exact .inr (by omega)
end Go.Proofs.Ytabifjolocmonaa
