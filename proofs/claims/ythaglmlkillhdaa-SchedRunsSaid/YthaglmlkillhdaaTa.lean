/- Lists of answers; the reference's tape: its Do. Conditions: as each says. -/
import Derived.Test.YthaglmlkillhdaaKc
import Derived.Deep.RegionHeld3
namespace Go.Proofs.Ythaglmlkillhdaa
set_option maxRecDepth 100000
open Go.RowKit
set_option linter.unusedVariables false
set_option linter.unusedSimpArgs false
/-- An answer: what was there, whether it stored, the slice of what was read, and its bytes. -/
structure AnsV where
  v : Int
  d : Bool
  s : Value
  b : List Int
def ansZ : AnsV := ⟨0, false, .slice none 0 0, []⟩
def gA (T : List AnsV) (i : Nat) : AnsV := T.getD i ansZ
def AnsV.V (x : AnsV) : Value := .agg #[.int .u64 x.v, .bool x.d, x.s]
/-- A slice value holds a list of answers. -/
def RdA (w : World) (v : Value) (T : List AnsV) : Prop :=
  (v = .slice none 0 0 ∧ T = []) ∨ (∃ a cap, v = .slice (some a) 0 cap ∧ T = [] ∧ cap ≤ maxLen) ∨
  ∃ b off cap, v = .slice (some ⟨b, off, none⟩) T.length cap ∧ T.length ≤ cap ∧ cap ≤ maxLen ∧ ∀ i, i < T.length →
    w.cell? ⟨b, off + i * 3, none⟩ = some (.int .u64 (gA T i).v) ∧ w.cell? ⟨b, off + i * 3 + 1, none⟩ = some (.bool (gA T i).d) ∧ w.cell? ⟨b, off + i * 3 + 2, none⟩ = some (gA T i).s
/-- The bytes of each answer. -/
def RdAs (w : World) (T : List AnsV) : Prop := ∀ i, i < T.length → RdB w (gA T i).s (gA T i).b
/-- What each answer is: a slice, its bytes. -/
def AnsIs (W : World) (T : List AnsV) : Prop := ∀ i, i < T.length → (∃ a n c, (gA T i).s = .slice a n c) ∧ RdB W (gA T i).s (gA T i).b ∧ IsB (gA T i).b ∧ (Lit.int .u64 (gA T i).v).wf = true
theorem gA_take (T : List AnsV) (m k : Nat) (hk : k < m) : gA (T.take m) k = gA T k := by simp [gA, hk]
theorem rdA_slice {w : World} {v : Value} {T : List AnsV} (h : RdA w v T) : ∃ a c, v = .slice a T.length c := by
  rcases h with ⟨rfl, rfl⟩ | ⟨a, cap, rfl, rfl, hm⟩ | ⟨b, off, cap, rfl, hc, hm, hcell⟩
  · exact ⟨_, _, rfl⟩
  · exact ⟨_, _, rfl⟩
  · exact ⟨_, _, rfl⟩
theorem rdA_take {w : World} {a : Option Addr} {n c : Nat} {T : List AnsV} (h : RdA w (.slice a n c) T) (i : Nat) (hi : i ≤ T.length) : RdA w (.slice a i c) (T.take i) := by
  rcases h with ⟨e, rfl⟩ | ⟨a', cap, e, rfl, hm⟩ | ⟨b, off, cap, e, hc, hm, hcell⟩
  · cases e
    simp at hi
    subst hi
    exact .inl ⟨rfl, rfl⟩
  · cases e
    simp at hi
    subst hi
    exact .inr (.inl ⟨a', _, rfl, rfl, hm⟩)
  · cases e
    have hl : (T.take i).length = i := by simp; omega
    refine .inr <| .inr ⟨b, off, c, by rw [hl], by omega, hm, fun j hj => ?_⟩
    rw [hl] at hj
    rw [gA_take _ _ _ hj]
    exact hcell j (by omega)
theorem RdA.keep {M : Nat → Prop} {w w' : World} {v : Value} {T : List AnsV} (h : RdA w v T) (k : Keep M w w') (hm : 0 < T.length → ∀ i, v.ownBlock = some i → ¬ M i) : RdA w' v T := by
  rcases h with h | h | ⟨b, off, cap, e1, e2, e3, e4⟩
  · exact .inl h
  · exact .inr (.inl h)
  · refine .inr <| .inr ⟨b, off, cap, e1, e2, e3, fun i hi => ?_⟩
    obtain ⟨h1, h2, h3⟩ := e4 i hi
    have hb := World.block_lt_of_cell? w _ h1
    have hn := hm (by omega) b (by rw [e1]; rfl)
    exact ⟨(k.cell _ hb hn).trans h1, (k.cell _ hb hn).trans h2, (k.cell _ hb hn).trans h3⟩
theorem RdA.below {w w' : World} {v : Value} {T : List AnsV} (h : RdA w v T) (hb : Below w.heap.size w w') : RdA w' v T :=
  h.keep (M := fun _ => False) (Below.keeps hb) (fun _ _ _ => id)
theorem RdA.blk {w : World} {v : Value} {T : List AnsV} (h : RdA w v T) (h0 : 0 < T.length) : ∀ i, v.ownBlock = some i → i < w.heap.size := by
  rcases h with ⟨_, rfl⟩ | ⟨_, _, _, rfl, _⟩ | ⟨b, off, cap, e1, e2, e3, e4⟩
  · cases h0
  · cases h0
  · intro i hi
    rw [e1] at hi
    obtain rfl : b = i := by simpa [Value.ownBlock] using hi
    exact World.block_lt_of_cell? w _ (e4 0 h0).1
theorem RdB.blk {w : World} {v : Value} {l : List Int} (h : RdB w v l) (h0 : l.length ≠ 0) : ∀ i, v.ownBlock = some i → i < w.heap.size := by
  rcases h with ⟨_, rfl⟩ | ⟨_, _, _, rfl, _⟩ | ⟨b, off, cap, e1, e2, e3, e4⟩
  · exact absurd rfl h0
  · exact absurd rfl h0
  · intro i hi
    rw [e1] at hi
    obtain rfl : b = i := by simpa [Value.ownBlock] using hi
    exact World.block_lt_of_cell? w _ (e4 0 (by omega))
theorem RdAs.below {w w' : World} {T : List AnsV} (h : RdAs w T) (hb : Below w.heap.size w w') : RdAs w' T := fun i hi => (h i hi).below hb
theorem RdAs.take {w : World} {T : List AnsV} (h : RdAs w T) (m : Nat) : RdAs w (T.take m) := by
  intro i hi
  simp at hi
  rw [gA_take _ _ _ (by omega)]
  exact h i (by omega)
/-- A tape: what it was told, how far it is, what it wants, whether it wants something. -/
def Tp (w : World) (tb : Nat) (tv : Value) (k : Nat) (c : Acc) (e : Bool) : Prop := Blk w tb (tv :: .int .i64 k :: (c.cs ++ [.bool e]))
theorem Tp.cells {w : World} {tb k : Nat} {tv : Value} {c : Acc} {e : Bool} (h : Tp w tb tv k c e) :
    w.cell? ⟨tb, 0, none⟩ = some tv ∧ w.cell? ⟨tb, 1, none⟩ = some (.int .i64 k) ∧ w.cell? ⟨tb, 2, none⟩ = some (.int .i64 c.k) ∧ w.cell? ⟨tb, 3, none⟩ = some (.int .i64 c.a) ∧ w.cell? ⟨tb, 4, none⟩ = some (.int .i64 c.n) ∧ w.cell? ⟨tb, 5, none⟩ = some (.int .u64 c.v) ∧ w.cell? ⟨tb, 6, none⟩ = some (.int .u64 c.x) ∧ w.cell? ⟨tb, 7, none⟩ = some c.b ∧ w.cell? ⟨tb, 8, none⟩ = some (.bool e) :=
  ⟨Blk.cell h 0, Blk.cell h 1, Blk.cell h 2, Blk.cell h 3, Blk.cell h 4, Blk.cell h 5, Blk.cell h 6, Blk.cell h 7, Blk.cell h 8⟩
theorem Tp.frozens {w : World} {tb k : Nat} {tv : Value} {c : Acc} {e : Bool} (h : Tp w tb tv k c e) :
    w.frozen? ⟨tb, 1, none⟩ = false ∧ w.frozen? ⟨tb, 2, none⟩ = false ∧ w.frozen? ⟨tb, 3, none⟩ = false ∧ w.frozen? ⟨tb, 4, none⟩ = false ∧ w.frozen? ⟨tb, 5, none⟩ = false ∧ w.frozen? ⟨tb, 6, none⟩ = false ∧ w.frozen? ⟨tb, 7, none⟩ = false ∧ w.frozen? ⟨tb, 8, none⟩ = false :=
  ⟨Blk.frozen h 1, Blk.frozen h 2, Blk.frozen h 3, Blk.frozen h 4, Blk.frozen h 5, Blk.frozen h 6, Blk.frozen h 7, Blk.frozen h 8⟩
theorem Tp.want {w : World} {tb k : Nat} {tv : Value} {c : Acc} {e : Bool} (h : Tp w tb tv k c e) (d : Acc) :
    Tp (((((((w.setCell ⟨tb, 2, none⟩ (.int .i64 d.k)).setCell ⟨tb, 3, none⟩ (.int .i64 d.a)).setCell ⟨tb, 4, none⟩ (.int .i64 d.n)).setCell ⟨tb, 5, none⟩ (.int .u64 d.v)).setCell ⟨tb, 6, none⟩ (.int .u64 d.x)).setCell ⟨tb, 7, none⟩ d.b).setCell ⟨tb, 8, none⟩ (.bool true)) tb tv k d true :=
  Blk.set (Blk.set (Blk.set (Blk.set (Blk.set (Blk.set (Blk.set h 2 _) 3 _) 4 _) 5 _) 6 _) 7 _) 8 _
theorem res_told {fn : Func} {tmps : Array Value} {W : World} {q : Nat} {K : Int} {D : Bool} {S E : Value} (hf : fn.results = #[.cell 4 39, .tmp 5]) (hp : tmps.getD 4 undef = .pointer (some ⟨q, 0, none⟩)) (he : tmps.getD 5 undef = E)
    (c0 : W.cell? ⟨q, 0, none⟩ = some (.int .u64 K)) (c1 : W.cell? ⟨q, 1, none⟩ = some (.bool D)) (c2 : W.cell? ⟨q, 2, none⟩ = some S) :
    (results fn tmps).run Try.prog W = .ok (.tuple #[.agg #[.int .u64 K, .bool D, S], E]) W := by
  rw [results_cell_tmp hf, hp, he]
  go_simp
  first | done | rfl
set_option maxHeartbeats 1000000 in
theorem tDo_ended (tb k : Nat) (tv : Value) (c : Acc) (a : Value) (w : World) (h : Tp w tb tv k c true) (x0 x1 x2 x3 x4 : Int) (s0 : Option Addr) (sl sc : Nat) :
    Calls Try.prog 94 #[.pointer (some ⟨tb, 0, none⟩), .agg #[.int .i64 x0, .int .i64 x1, .int .i64 x2, .int .u64 x3, .int .u64 x4, .slice s0 sl sc]] w fun e w' => e = .returned (.tuple #[ansZ.V, .bool false]) ∧ Below w.heap.size w w' := by
  have hlt := h.lt
  obtain ⟨c0, c1, c2, c3, c4, c5, c6, c7, c8⟩ := h.cells
  clear h c2 c3 c4 c5 c6 c7
  unfold ansZ AnsV.V
  dsimp only
  go_enter Try.func94, Try.ntmps94
  go_wp2
  refine bodyPost_ret (v := .tuple #[.agg #[.int .u64 0, .bool false, .slice none 0 0], .bool false]) ?_ rfl ⟨rfl, ?_⟩
  · rw [results_cell_tmp rfl]
    go_simp
    first | done | rfl
  · first | done | go_grown
set_option maxHeartbeats 1000000 in
theorem tDo_end (tb : Nat) (tv : Value) (T : List AnsV) (c : Acc) (w : World) (h : Tp w tb tv T.length c false) (hT : RdA w tv T) (x0 x1 x2 x3 x4 : Int) (s0 : Option Addr) (sl sc : Nat) :
    Calls Try.prog 94 #[.pointer (some ⟨tb, 0, none⟩), .agg #[.int .i64 x0, .int .i64 x1, .int .i64 x2, .int .u64 x3, .int .u64 x4, .slice s0 sl sc]] w fun e w' => e = .returned (.tuple #[ansZ.V, .bool false]) ∧ Tp w' tb tv T.length ⟨x0, x1, x2, x3, x4, .slice s0 sl sc⟩ true ∧ Keep (· = tb) w w' := by
  have hlt := h.lt
  have H := Lib.hid h
  obtain ⟨c0, c1, c2, c3, c4, c5, c6, c7, c8⟩ := h.cells
  obtain ⟨z1, z2, z3, z4, z5, z6, z7, z8⟩ := h.frozens
  obtain ⟨a, cap, rfl⟩ := rdA_slice hT
  clear h hT
  go_enter Try.func94, Try.ntmps94
  go_wp2
  go_quiet (fail)
  go_wp2
  have E0 : Blk ((w.alloc (Obj.cells #[Value.int IntKind.i64 x0, Value.int IntKind.i64 x1, Value.int IntKind.i64 x2, Value.int IntKind.u64 x3, Value.int IntKind.u64 x4, Value.slice s0 sl sc] 30)).alloc (Obj.cells #[Value.int IntKind.u64 0, Value.bool false, Value.slice none 0 0] 39)) (w.heap.size + 1) [.int .u64 0, .bool false, .slice none 0 0] := by
    simpa using Blk.made (w.alloc (Obj.cells #[Value.int IntKind.i64 x0, Value.int IntKind.i64 x1, Value.int IntKind.i64 x2, Value.int IntKind.u64 x3, Value.int IntKind.u64 x4, Value.slice s0 sl sc] 30)) #[Value.int IntKind.u64 0, Value.bool false, Value.slice none 0 0] 39
  have ne1 : w.heap.size + 1 ≠ tb := by omega
  have ne2 : tb ≠ w.heap.size + 1 := by omega
  unfold ansZ AnsV.V
  dsimp only
  obtain ⟨wx, hwx⟩ : ∃ wx, wx = ((((((((((w.alloc (Obj.cells #[Value.int IntKind.i64 x0, Value.int IntKind.i64 x1, Value.int IntKind.i64 x2, Value.int IntKind.u64 x3, Value.int IntKind.u64 x4, Value.slice s0 sl sc] 30)).alloc (Obj.cells #[Value.int IntKind.u64 0, Value.bool false, Value.slice none 0 0] 39)).drewN nq).setCell ⟨tb, 2, none⟩ (.int .i64 x0)).setCell ⟨tb, 3, none⟩ (.int .i64 x1)).setCell ⟨tb, 4, none⟩ (.int .i64 x2)).setCell ⟨tb, 5, none⟩ (.int .u64 x3)).setCell ⟨tb, 6, none⟩ (.int .u64 x4)).setCell ⟨tb, 7, none⟩ (.slice s0 sl sc)).setCell ⟨tb, 8, none⟩ (.bool true)) := ⟨_, rfl⟩
  rw [← hwx]
  have KX : Keep (fun i => i = tb) w wx := by
    rw [hwx]
    iterate 7 (refine Keep.setCell (M := (· = tb)) ?_ (p := ⟨tb, _, none⟩) (.inl rfl) _)
    exact (((Keep.refl _ w).alloc _).alloc _).drewN nq
  have EX : Blk wx (w.heap.size + 1) [.int .u64 0, .bool false, .slice none 0 0] := by
    rw [hwx]
    iterate 7 (refine Blk.far ?_ (by exact ne1) _)
    exact E0.drewN nq
  have TX : Tp wx tb (.slice a T.length cap) T.length ⟨x0, x1, x2, x3, x4, .slice s0 sl sc⟩ true := by
    rw [hwx]
    exact Tp.want (Blk.drewN nq (Blk.alloc (Blk.alloc H.out _) _)) ⟨x0, x1, x2, x3, x4, .slice s0 sl sc⟩
  clear hwx E0
  have e0 := ((EX.set 0 (.int .u64 0)).set 1 (.bool false)).set 2 (.slice none 0 0)
  refine bodyPost_ret (v := .tuple #[.agg #[.int .u64 0, .bool false, .slice none 0 0], .bool false]) ?_ rfl ⟨rfl, ?_, ?_⟩
  · exact res_told rfl rfl rfl (e0.cell 0) (e0.cell 1) (e0.cell 2)
  · exact ((Blk.far TX (a := ⟨w.heap.size + 1, 0, none⟩) ne2 _).far (a := ⟨w.heap.size + 1, 1, none⟩) ne2 _).far (a := ⟨w.heap.size + 1, 2, none⟩) ne2 _
  · exact ((KX.setCell (p := ⟨w.heap.size + 1, 0, none⟩) (.inr (by simp)) _).setCell (p := ⟨w.heap.size + 1, 1, none⟩) (.inr (by simp)) _).setCell (p := ⟨w.heap.size + 1, 2, none⟩) (.inr (by simp)) _
set_option maxHeartbeats 1000000 in
theorem tDo_told (tb k : Nat) (tv : Value) (T : List AnsV) (c : Acc) (w : World) (h : Tp w tb tv k c false) (hT : RdA w tv T) (hk : k < T.length) (hl : T.length ≤ 1000000) (htb0 : tv.ownBlock ≠ some tb) (hs : ∃ a n c, (gA T k).s = .slice a n c) (x0 x1 x2 x3 x4 : Int) (s0 : Option Addr) (sl sc : Nat) :
    Calls Try.prog 94 #[.pointer (some ⟨tb, 0, none⟩), .agg #[.int .i64 x0, .int .i64 x1, .int .i64 x2, .int .u64 x3, .int .u64 x4, .slice s0 sl sc]] w fun e w' => e = .returned (.tuple #[(gA T k).V, .bool true]) ∧ Tp w' tb tv (k + 1) c false ∧ Keep (· = tb) w w' := by
  have hlt := h.lt
  have H := Lib.hid h
  obtain ⟨c0, c1, c2, c3, c4, c5, c6, c7, c8⟩ := h.cells
  obtain ⟨z1, z2, z3, z4, z5, z6, z7, z8⟩ := h.frozens
  rcases hT with ⟨rfl, rfl⟩ | ⟨a, cap, rfl, rfl, hm⟩ | ⟨b, off, cap, rfl, hc, hm, hcell⟩
  · simp at hk
  · simp at hk
  obtain ⟨y0, y1, y2⟩ := hcell k hk
  obtain ⟨sa, sn, scc, hsv⟩ := hs
  unfold AnsV.V
  rw [hsv] at y2 ⊢
  have hbl := World.block_lt_of_cell? w _ y0
  simp at hbl
  have htb : b ≠ tb := fun e => htb0 (e ▸ rfl)
  have htk : (k : Int) < (T.length : Int) := by omega
  clear h hcell hsv htb0
  go_enter Try.func94, Try.ntmps94
  go_wp2
  go_quiet (fail)
  go_wp2
  obtain ⟨wx, hwx⟩ : ∃ wx, wx = ((((w.alloc (Obj.cells #[Value.int IntKind.i64 x0, Value.int IntKind.i64 x1, Value.int IntKind.i64 x2, Value.int IntKind.u64 x3, Value.int IntKind.u64 x4, Value.slice s0 sl sc] 30)).alloc (Obj.cells #[Value.int IntKind.u64 0, Value.bool false, Value.slice none 0 0] 39)).drewN nq).setCell ⟨tb, 1, none⟩ (.int .i64 ((k : Int) + 1))) := ⟨_, rfl⟩
  rw [← hwx]
  have E0 : Blk ((w.alloc (Obj.cells #[Value.int IntKind.i64 x0, Value.int IntKind.i64 x1, Value.int IntKind.i64 x2, Value.int IntKind.u64 x3, Value.int IntKind.u64 x4, Value.slice s0 sl sc] 30)).alloc (Obj.cells #[Value.int IntKind.u64 0, Value.bool false, Value.slice none 0 0] 39)) (w.heap.size + 1) [.int .u64 0, .bool false, .slice none 0 0] := by
    simpa using Blk.made (w.alloc (Obj.cells #[Value.int IntKind.i64 x0, Value.int IntKind.i64 x1, Value.int IntKind.i64 x2, Value.int IntKind.u64 x3, Value.int IntKind.u64 x4, Value.slice s0 sl sc] 30)) #[Value.int IntKind.u64 0, Value.bool false, Value.slice none 0 0] 39
  have ne1 : w.heap.size + 1 ≠ tb := by omega
  have ne2 : tb ≠ w.heap.size + 1 := by omega
  have KX : Keep (fun i => i = tb) w wx := by
    rw [hwx]
    refine Keep.setCell (M := (· = tb)) ?_ (p := ⟨tb, _, none⟩) (.inl rfl) _
    exact (((Keep.refl _ w).alloc _).alloc _).drewN nq
  have EX : Blk wx (w.heap.size + 1) [.int .u64 0, .bool false, .slice none 0 0] := by
    rw [hwx]
    exact (E0.drewN nq).far (a := ⟨tb, 1, none⟩) ne1 _
  have TX : Tp wx tb (.slice (some ⟨b, off, none⟩) T.length cap) (k + 1) c false := by
    rw [hwx]
    exact Blk.set (Blk.drewN nq (Blk.alloc (Blk.alloc H.out _) _)) 1 _
  have d0 := TX.cells.1
  have d1 := TX.cells.2.1
  rw [← KX.cell _ hbl htb] at y0 y1 y2
  have e0 := EX.cell 0
  have e1 := EX.cell 1
  have e2 := EX.cell 2
  have f0 := EX.frozen 0
  have f1 := EX.frozen 1
  have f2 := EX.frozen 2
  simp only [List.getElem?_cons_zero, List.getElem?_cons_succ] at e0 e1 e2
  have W1 : IntKind.i64.wrap (((k + 1 : Nat) : Int) - 1) = (k : Int) := by rw [IntWalk.i64_in _ ⟨by omega, by omega⟩]; omega
  have HE := Lib.hid EX
  have HT := Lib.hid TX
  have HK := Lib.hid KX
  clear hwx E0 EX TX KX c0 c1 c2 c3 c4 c5 c6 c7 c8 z1 z2 z3 z4 z5 z6 z7 z8 H
  go_region
  go_wp2
  have g0 := ((HE.out.set 0 (.int .u64 (gA T k).v)).set 1 (.bool (gA T k).d)).set 2 (.slice sa sn scc)
  refine bodyPost_ret (v := .tuple #[.agg #[.int .u64 (gA T k).v, .bool (gA T k).d, .slice sa sn scc], .bool true]) ?_ rfl ⟨rfl, ?_, ?_⟩
  · exact res_told rfl rfl rfl (g0.cell 0) (g0.cell 1) (g0.cell 2)
  · exact ((Blk.far HT.out (a := ⟨w.heap.size + 1, 0, none⟩) ne2 _).far (a := ⟨w.heap.size + 1, 1, none⟩) ne2 _).far (a := ⟨w.heap.size + 1, 2, none⟩) ne2 _
  · exact (((HK.out.setCell (p := ⟨w.heap.size + 1, 0, none⟩) (.inr (by simp)) _).setCell (p := ⟨w.heap.size + 1, 1, none⟩) (.inr (by simp)) _).setCell (p := ⟨w.heap.size + 1, 2, none⟩) (.inr (by simp)) _).drew
end Go.Proofs.Ythaglmlkillhdaa
