/- Lists of answers; the reference's tape: its Do. Conditions: as each says. The reference's tape: its In, Zero, Out. Conditions: as each says. -/
import Derived.Test.YtknahaaefmlcpaaGreatKc
import Derived.Deep.RegionHeld3
import Derived.Test.YtknahaaefmlcpaaGreatKi
section
namespace Go.Proofs.YtknahaaefmlcpaaGreat
set_option maxRecDepth 100000
open Go.RowKit
set_option linter.unusedVariables false
set_option linter.unusedSimpArgs false
structure AnsV where
 v : Int
 d : Bool
 s : Value
 b : List Int
def ansZ : AnsV := ⟨0, false, .slice none 0 0, []⟩
def gA (T : List AnsV) (i : Nat) : AnsV := T.getD i ansZ
def AnsV.V (x : AnsV) : Value := .agg #[.int .u64 x.v, .bool x.d, x.s]
def RdA (w : World) (v : Value) (T : List AnsV) : Prop :=
 (v = .slice none 0 0 ∧ T = []) ∨ (∃ a cap, v = .slice (some a) 0 cap ∧ T = [] ∧ cap ≤ maxLen) ∨
 ∃ b off cap, v = .slice (some ⟨b, off, none⟩) T.length cap ∧ T.length ≤ cap ∧ cap ≤ maxLen ∧ ∀ i, i < T.length →
  w.cell? ⟨b, off + i * 3, none⟩ = some (.int .u64 (gA T i).v) ∧ w.cell? ⟨b, off + i * 3 + 1, none⟩ = some (.bool (gA T i).d) ∧ w.cell? ⟨b, off + i * 3 + 2, none⟩ = some (gA T i).s
def RdAs (w : World) (T : List AnsV) : Prop := ∀ i, i < T.length → RdB w (gA T i).s (gA T i).b
def AnsIs (W : World) (T : List AnsV) : Prop := ∀ i, i < T.length → (∃ a n c, (gA T i).s = .slice a n c) ∧ RdB W (gA T i).s (gA T i).b ∧ IsB (gA T i).b ∧ (Lit.int .u64 (gA T i).v).wf = true
theorem gA_take (T : List AnsV) (m k : Nat) (hk : k < m) : gA (T.take m) k = gA T k := by simp [gA, hk]
theorem rdA_slice {w : World} {v : Value} {T : List AnsV} (h : RdA w v T) : ∃ a c, v = .slice a T.length c := by
 rcases h with ⟨rfl, rfl⟩ | ⟨a, cap, rfl, rfl, hm⟩ | ⟨b, off, cap, rfl, hc, hm, hcell⟩
 ·exact ⟨_, _, rfl⟩
 ·exact ⟨_, _, rfl⟩
 ·exact ⟨_, _, rfl⟩
theorem rdA_take {w : World} {a : Option Addr} {n c : Nat} {T : List AnsV} (h : RdA w (.slice a n c) T) (i : Nat) (hi : i ≤ T.length) : RdA w (.slice a i c) (T.take i) := by
 rcases h with ⟨e, rfl⟩ | ⟨a', cap, e, rfl, hm⟩ | ⟨b, off, cap, e, hc, hm, hcell⟩
 ·cases e
  simp at hi
  subst hi
  exact .inl ⟨rfl, rfl⟩
 ·cases e
  simp at hi
  subst hi
  exact .inr (.inl ⟨a', _, rfl, rfl, hm⟩)
 ·cases e
  have hl : (T.take i).length = i := by simp; omega
  refine .inr <| .inr ⟨b, off, c, by rw [hl], by omega, hm, fun j hj => ?_⟩
  rw [hl] at hj
  rw [gA_take _ _ _ hj]
  exact hcell j (by omega)
theorem RdA.keep {M : Nat → Prop} {w w' : World} {v : Value} {T : List AnsV} (h : RdA w v T) (k : Keep M w w') (hm : 0 < T.length → ∀ i, v.ownBlock = some i → ¬ M i) : RdA w' v T := by
 rcases h with h | h | ⟨b, off, cap, e1, e2, e3, e4⟩
 ·exact .inl h
 ·exact .inr (.inl h)
 ·refine .inr <| .inr ⟨b, off, cap, e1, e2, e3, fun i hi => ?_⟩
  obtain ⟨h1, h2, h3⟩ := e4 i hi
  have hb := World.block_lt_of_cell? w _ h1
  have hn := hm (by omega) b (by rw [e1]; rfl)
  exact ⟨(k.cell _ hb hn).trans h1, (k.cell _ hb hn).trans h2, (k.cell _ hb hn).trans h3⟩
theorem RdA.below {w w' : World} {v : Value} {T : List AnsV} (h : RdA w v T) (hb : Below w.heap.size w w') : RdA w' v T :=
 h.keep (M := fun _ => False) (Below.keeps hb) (fun _ _ _ => id)
theorem RdA.blk {w : World} {v : Value} {T : List AnsV} (h : RdA w v T) (h0 : 0 < T.length) : ∀ i, v.ownBlock = some i → i < w.heap.size := by
 rcases h with ⟨_, rfl⟩ | ⟨_, _, _, rfl, _⟩ | ⟨b, off, cap, e1, e2, e3, e4⟩
 ·cases h0
 ·cases h0
 ·intro i hi
  rw [e1] at hi
  obtain rfl : b = i := by simpa [Value.ownBlock] using hi
  exact World.block_lt_of_cell? w _ (e4 0 h0).1
theorem RdB.blk {w : World} {v : Value} {l : List Int} (h : RdB w v l) (h0 : l.length ≠ 0) : ∀ i, v.ownBlock = some i → i < w.heap.size := by
 rcases h with ⟨_, rfl⟩ | ⟨_, _, _, rfl, _⟩ | ⟨b, off, cap, e1, e2, e3, e4⟩
 ·exact absurd rfl h0
 ·exact absurd rfl h0
 ·intro i hi
  rw [e1] at hi
  obtain rfl : b = i := by simpa [Value.ownBlock] using hi
  exact World.block_lt_of_cell? w _ (e4 0 (by omega))
theorem RdAs.below {w w' : World} {T : List AnsV} (h : RdAs w T) (hb : Below w.heap.size w w') : RdAs w' T := fun i hi => (h i hi).below hb
theorem RdAs.take {w : World} {T : List AnsV} (h : RdAs w T) (m : Nat) : RdAs w (T.take m) := by
 intro i hi
 simp at hi
 rw [gA_take _ _ _ (by omega)]
 exact h i (by omega)
def Tp (w : World) (tb : Nat) (tv : Value) (k : Nat) (c : Acc) (e : Bool) : Prop := Blk w tb (tv :: .int .i64 k :: (c.cs ++ [.bool e]))
theorem Tp.cells {w : World} {tb k : Nat} {tv : Value} {c : Acc} {e : Bool} (h : Tp w tb tv k c e) :
  w.cell? ⟨tb, 0, none⟩ = some tv ∧ w.cell? ⟨tb, 1, none⟩ = some (.int .i64 k) ∧ w.cell? ⟨tb, 2, none⟩ = some (.int .i64 c.k) ∧ w.cell? ⟨tb, 3, none⟩ = some (.int .i64 c.a) ∧ w.cell? ⟨tb, 4, none⟩ = some (.int .i64 c.n) ∧ w.cell? ⟨tb, 5, none⟩ = some (.int .u64 c.v) ∧ w.cell? ⟨tb, 6, none⟩ = some (.int .u64 c.x) ∧ w.cell? ⟨tb, 7, none⟩ = some c.b ∧ w.cell? ⟨tb, 8, none⟩ = some (.bool e) :=
 ⟨Blk.cell h 0, Blk.cell h 1, Blk.cell h 2, Blk.cell h 3, Blk.cell h 4, Blk.cell h 5, Blk.cell h 6, Blk.cell h 7, Blk.cell h 8⟩
theorem Tp.frozens {w : World} {tb k : Nat} {tv : Value} {c : Acc} {e : Bool} (h : Tp w tb tv k c e) :
  w.frozen? ⟨tb, 1, none⟩ = false ∧ w.frozen? ⟨tb, 2, none⟩ = false ∧ w.frozen? ⟨tb, 3, none⟩ = false ∧ w.frozen? ⟨tb, 4, none⟩ = false ∧ w.frozen? ⟨tb, 5, none⟩ = false ∧ w.frozen? ⟨tb, 6, none⟩ = false ∧ w.frozen? ⟨tb, 7, none⟩ = false ∧ w.frozen? ⟨tb, 8, none⟩ = false :=
 ⟨Blk.frozen h 1, Blk.frozen h 2, Blk.frozen h 3, Blk.frozen h 4, Blk.frozen h 5, Blk.frozen h 6, Blk.frozen h 7, Blk.frozen h 8⟩
theorem Tp.want {w : World} {tb k : Nat} {tv : Value} {c : Acc} {e : Bool} (h : Tp w tb tv k c e) (d : Acc) :
  Tp (((((((w.setCell ⟨tb, 2, none⟩ (.int .i64 d.k)).setCell ⟨tb, 3, none⟩ (.int .i64 d.a)).setCell ⟨tb, 4, none⟩ (.int .i64 d.n)).setCell ⟨tb, 5, none⟩ (.int .u64 d.v)).setCell ⟨tb, 6, none⟩ (.int .u64 d.x)).setCell ⟨tb, 7, none⟩ d.b).setCell ⟨tb, 8, none⟩ (.bool true)) tb tv k d true :=
 Blk.set (Blk.set (Blk.set (Blk.set (Blk.set (Blk.set (Blk.set h 2 _) 3 _) 4 _) 5 _) 6 _) 7 _) 8 _
theorem res_told {fn : Func} {tmps : Array Value} {W : World} {q : Nat} {K : Int} {D : Bool} {S E : Value} (hf : fn.results = #[.cell 4 33, .tmp 5]) (hp : tmps.getD 4 undef = .pointer (some ⟨q, 0, none⟩)) (he : tmps.getD 5 undef = E)
  (c0 : W.cell? ⟨q, 0, none⟩ = some (.int .u64 K)) (c1 : W.cell? ⟨q, 1, none⟩ = some (.bool D)) (c2 : W.cell? ⟨q, 2, none⟩ = some S) :
  (results fn tmps).run Tryz.prog W = .ok (.tuple #[.agg #[.int .u64 K, .bool D, S], E]) W := by
 rw [results_cell_tmp hf, hp, he]
 go_simp
 first | done | rfl
set_option maxHeartbeats 1000000 in
theorem tDo_ended (tb k : Nat) (tv : Value) (c : Acc) (a : Value) (w : World) (h : Tp w tb tv k c true) (x0 x1 x2 x3 x4 : Int) (s0 : Option Addr) (sl sc : Nat) :
  Calls Tryz.prog 163 #[.pointer (some ⟨tb, 0, none⟩), .agg #[.int .i64 x0, .int .i64 x1, .int .i64 x2, .int .u64 x3, .int .u64 x4, .slice s0 sl sc]] w fun e w' => e = .returned (.tuple #[ansZ.V, .bool false]) ∧ Below w.heap.size w w' := by
 have hlt := h.lt
 obtain ⟨c0, c1, c2, c3, c4, c5, c6, c7, c8⟩ := h.cells
 clear h c2 c3 c4 c5 c6 c7
 unfold ansZ AnsV.V
 dsimp only
 go_enter Tryz.func163, Tryz.ntmps163
 go_wp2
 refine bodyPost_ret (v := .tuple #[.agg #[.int .u64 0, .bool false, .slice none 0 0], .bool false]) ?_ rfl ⟨rfl, ?_⟩
 ·rw [results_cell_tmp rfl]
  go_simp
  first | done | rfl
 ·first | done | go_grown
set_option maxHeartbeats 1000000 in
theorem tDo_end (tb : Nat) (tv : Value) (T : List AnsV) (c : Acc) (w : World) (h : Tp w tb tv T.length c false) (hT : RdA w tv T) (x0 x1 x2 x3 x4 : Int) (s0 : Option Addr) (sl sc : Nat) :
  Calls Tryz.prog 163 #[.pointer (some ⟨tb, 0, none⟩), .agg #[.int .i64 x0, .int .i64 x1, .int .i64 x2, .int .u64 x3, .int .u64 x4, .slice s0 sl sc]] w fun e w' => e = .returned (.tuple #[ansZ.V, .bool false]) ∧ Tp w' tb tv T.length ⟨x0, x1, x2, x3, x4, .slice s0 sl sc⟩ true ∧ Keep (· = tb) w w' := by
 have hlt := h.lt
 have H := Lib.hid h
 obtain ⟨c0, c1, c2, c3, c4, c5, c6, c7, c8⟩ := h.cells
 obtain ⟨z1, z2, z3, z4, z5, z6, z7, z8⟩ := h.frozens
 obtain ⟨a, cap, rfl⟩ := rdA_slice hT
 clear h hT
 go_enter Tryz.func163, Tryz.ntmps163
 go_wp2
 go_quiet (fail)
 go_wp2
 have E0 : Blk ((w.alloc (Obj.cells #[Value.int IntKind.i64 x0, Value.int IntKind.i64 x1, Value.int IntKind.i64 x2, Value.int IntKind.u64 x3, Value.int IntKind.u64 x4, Value.slice s0 sl sc] 37)).alloc (Obj.cells #[Value.int IntKind.u64 0, Value.bool false, Value.slice none 0 0] 33)) (w.heap.size + 1) [.int .u64 0, .bool false, .slice none 0 0] := by
  simpa using Blk.made (w.alloc (Obj.cells #[Value.int IntKind.i64 x0, Value.int IntKind.i64 x1, Value.int IntKind.i64 x2, Value.int IntKind.u64 x3, Value.int IntKind.u64 x4, Value.slice s0 sl sc] 37)) #[Value.int IntKind.u64 0, Value.bool false, Value.slice none 0 0] 33
 have ne1 : w.heap.size + 1 ≠ tb := by omega
 have ne2 : tb ≠ w.heap.size + 1 := by omega
 unfold ansZ AnsV.V
 dsimp only
 obtain ⟨wx, hwx⟩ : ∃ wx, wx = ((((((((((w.alloc (Obj.cells #[Value.int IntKind.i64 x0, Value.int IntKind.i64 x1, Value.int IntKind.i64 x2, Value.int IntKind.u64 x3, Value.int IntKind.u64 x4, Value.slice s0 sl sc] 37)).alloc (Obj.cells #[Value.int IntKind.u64 0, Value.bool false, Value.slice none 0 0] 33)).drewN nq).setCell ⟨tb, 2, none⟩ (.int .i64 x0)).setCell ⟨tb, 3, none⟩ (.int .i64 x1)).setCell ⟨tb, 4, none⟩ (.int .i64 x2)).setCell ⟨tb, 5, none⟩ (.int .u64 x3)).setCell ⟨tb, 6, none⟩ (.int .u64 x4)).setCell ⟨tb, 7, none⟩ (.slice s0 sl sc)).setCell ⟨tb, 8, none⟩ (.bool true)) := ⟨_, rfl⟩
 rw [← hwx]
 have KX : Keep (fun i => i = tb) w wx := by
  rw [hwx]
  iterate 7 (refine Keep.setCell (M := (· = tb)) ?_ (p := ⟨tb, _, none⟩) (.inl rfl) _)
  exact (((Keep.refl _ w).alloc _).alloc _).drewN nq
 have EX : Blk wx (w.heap.size + 1) [.int .u64 0, .bool false, .slice none 0 0] := by
  rw [hwx]
  iterate 7 (refine Blk.far ?_ (by exact ne1) _)
  exact E0.drewN nq
 have TX : Tp wx tb (.slice a T.length cap) T.length ⟨x0, x1, x2, x3, x4, .slice s0 sl sc⟩ true := by
  rw [hwx]
  exact Tp.want (Blk.drewN nq (Blk.alloc (Blk.alloc H.out _) _)) ⟨x0, x1, x2, x3, x4, .slice s0 sl sc⟩
 clear hwx E0
 have e0 := ((EX.set 0 (.int .u64 0)).set 1 (.bool false)).set 2 (.slice none 0 0)
 refine bodyPost_ret (v := .tuple #[.agg #[.int .u64 0, .bool false, .slice none 0 0], .bool false]) ?_ rfl ⟨rfl, ?_, ?_⟩
 ·exact res_told rfl rfl rfl (e0.cell 0) (e0.cell 1) (e0.cell 2)
 ·exact ((Blk.far TX (a := ⟨w.heap.size + 1, 0, none⟩) ne2 _).far (a := ⟨w.heap.size + 1, 1, none⟩) ne2 _).far (a := ⟨w.heap.size + 1, 2, none⟩) ne2 _
 ·exact ((KX.setCell (p := ⟨w.heap.size + 1, 0, none⟩) (.inr (by simp)) _).setCell (p := ⟨w.heap.size + 1, 1, none⟩) (.inr (by simp)) _).setCell (p := ⟨w.heap.size + 1, 2, none⟩) (.inr (by simp)) _
set_option maxHeartbeats 1000000 in
theorem tDo_told (tb k : Nat) (tv : Value) (T : List AnsV) (c : Acc) (w : World) (h : Tp w tb tv k c false) (hT : RdA w tv T) (hk : k < T.length) (hl : T.length ≤ 1000000) (htb0 : tv.ownBlock ≠ some tb) (hs : ∃ a n c, (gA T k).s = .slice a n c) (x0 x1 x2 x3 x4 : Int) (s0 : Option Addr) (sl sc : Nat) :
  Calls Tryz.prog 163 #[.pointer (some ⟨tb, 0, none⟩), .agg #[.int .i64 x0, .int .i64 x1, .int .i64 x2, .int .u64 x3, .int .u64 x4, .slice s0 sl sc]] w fun e w' => e = .returned (.tuple #[(gA T k).V, .bool true]) ∧ Tp w' tb tv (k + 1) c false ∧ Keep (· = tb) w w' := by
 have hlt := h.lt
 have H := Lib.hid h
 obtain ⟨c0, c1, c2, c3, c4, c5, c6, c7, c8⟩ := h.cells
 obtain ⟨z1, z2, z3, z4, z5, z6, z7, z8⟩ := h.frozens
 rcases hT with ⟨rfl, rfl⟩ | ⟨a, cap, rfl, rfl, hm⟩ | ⟨b, off, cap, rfl, hc, hm, hcell⟩
 ·simp at hk
 ·simp at hk
 obtain ⟨y0, y1, y2⟩ := hcell k hk
 obtain ⟨sa, sn, scc, hsv⟩ := hs
 unfold AnsV.V
 rw [hsv] at y2 ⊢
 have hbl := World.block_lt_of_cell? w _ y0
 simp at hbl
 have htb : b ≠ tb := fun e => htb0 (e ▸ rfl)
 have htk : (k : Int) < (T.length : Int) := by omega
 clear h hcell hsv htb0
 go_enter Tryz.func163, Tryz.ntmps163
 go_wp2
 go_quiet (fail)
 go_wp2
 obtain ⟨wx, hwx⟩ : ∃ wx, wx = ((((w.alloc (Obj.cells #[Value.int IntKind.i64 x0, Value.int IntKind.i64 x1, Value.int IntKind.i64 x2, Value.int IntKind.u64 x3, Value.int IntKind.u64 x4, Value.slice s0 sl sc] 37)).alloc (Obj.cells #[Value.int IntKind.u64 0, Value.bool false, Value.slice none 0 0] 33)).drewN nq).setCell ⟨tb, 1, none⟩ (.int .i64 ((k : Int) + 1))) := ⟨_, rfl⟩
 rw [← hwx]
 have E0 : Blk ((w.alloc (Obj.cells #[Value.int IntKind.i64 x0, Value.int IntKind.i64 x1, Value.int IntKind.i64 x2, Value.int IntKind.u64 x3, Value.int IntKind.u64 x4, Value.slice s0 sl sc] 37)).alloc (Obj.cells #[Value.int IntKind.u64 0, Value.bool false, Value.slice none 0 0] 33)) (w.heap.size + 1) [.int .u64 0, .bool false, .slice none 0 0] := by
  simpa using Blk.made (w.alloc (Obj.cells #[Value.int IntKind.i64 x0, Value.int IntKind.i64 x1, Value.int IntKind.i64 x2, Value.int IntKind.u64 x3, Value.int IntKind.u64 x4, Value.slice s0 sl sc] 37)) #[Value.int IntKind.u64 0, Value.bool false, Value.slice none 0 0] 33
 have ne1 : w.heap.size + 1 ≠ tb := by omega
 have ne2 : tb ≠ w.heap.size + 1 := by omega
 have KX : Keep (fun i => i = tb) w wx := by
  rw [hwx]
  refine Keep.setCell (M := (· = tb)) ?_ (p := ⟨tb, _, none⟩) (.inl rfl) _
  exact (((Keep.refl _ w).alloc _).alloc _).drewN nq
 have EX : Blk wx (w.heap.size + 1) [.int .u64 0, .bool false, .slice none 0 0] := by
  rw [hwx]
  exact (E0.drewN nq).far (a := ⟨tb, 1, none⟩) ne1 _
 have TX : Tp wx tb (.slice (some ⟨b, off, none⟩) T.length cap) (k + 1) c false := by
  rw [hwx]
  exact Blk.set (Blk.drewN nq (Blk.alloc (Blk.alloc H.out _) _)) 1 _
 have d0 := TX.cells.1
 have d1 := TX.cells.2.1
 rw [← KX.cell _ hbl htb] at y0 y1 y2
 have e0 := EX.cell 0
 have e1 := EX.cell 1
 have e2 := EX.cell 2
 have f0 := EX.frozen 0
 have f1 := EX.frozen 1
 have f2 := EX.frozen 2
 simp only [List.getElem?_cons_zero, List.getElem?_cons_succ] at e0 e1 e2
 have W1 : IntKind.i64.wrap (((k + 1 : Nat) : Int) - 1) = (k : Int) := by rw [IntWalk.i64_in _ ⟨by omega, by omega⟩]; omega
 have HE := Lib.hid EX
 have HT := Lib.hid TX
 have HK := Lib.hid KX
 clear hwx E0 EX TX KX c0 c1 c2 c3 c4 c5 c6 c7 c8 z1 z2 z3 z4 z5 z6 z7 z8 H
 go_region
 go_wp2
 have g0 := ((HE.out.set 0 (.int .u64 (gA T k).v)).set 1 (.bool (gA T k).d)).set 2 (.slice sa sn scc)
 refine bodyPost_ret (v := .tuple #[.agg #[.int .u64 (gA T k).v, .bool (gA T k).d, .slice sa sn scc], .bool true]) ?_ rfl ⟨rfl, ?_, ?_⟩
 ·exact res_told rfl rfl rfl (g0.cell 0) (g0.cell 1) (g0.cell 2)
 ·exact ((Blk.far HT.out (a := ⟨w.heap.size + 1, 0, none⟩) ne2 _).far (a := ⟨w.heap.size + 1, 1, none⟩) ne2 _).far (a := ⟨w.heap.size + 1, 2, none⟩) ne2 _
 ·exact (((HK.out.setCell (p := ⟨w.heap.size + 1, 0, none⟩) (.inr (by simp)) _).setCell (p := ⟨w.heap.size + 1, 1, none⟩) (.inr (by simp)) _).setCell (p := ⟨w.heap.size + 1, 2, none⟩) (.inr (by simp)) _).drew
theorem chL_get {n : Int} (h1 : 1 ≤ n) (h2 : n ≤ 131072) (j : Nat) (hj : j ≤ chK n) : gB (chL n) j = min (n - 8 * j) 8 ∧ j < (chL n).length := by
 have hb := chK_bd h1
 rw [chL_in h1 h2]
 by_cases h : j < chK n
 ·simp [gB, List.getD, List.getElem?_append, h]
  omega
 ·have e : j = chK n := by omega
  subst e
  simp [gB, List.getD, List.getElem?_append]
  omega
theorem refChunks_new (n : Int) (w : World) (h1 : 1 ≤ n) (h2 : n ≤ 131072) :
  Calls Tryz.prog 165 #[.int .i64 n] w fun e w' => ∃ g cap, e = .returned (.slice (some ⟨g, 0, none⟩) (chL n).length cap) ∧ w.heap.size ≤ g ∧ g < w'.heap.size ∧ (chL n).length ≤ cap ∧ cap ≤ maxLen ∧ (∀ i, i < (chL n).length → w'.cell? ⟨g, i, none⟩ = some (.int .i64 (gB (chL n) i))) ∧ Below w.heap.size w w' := by
 refine (refChunks_any n w (by omega)).mono ?_
 rintro e w' ⟨v, rfl, own, hb⟩
 obtain ⟨g, cap, rfl, hB, hg, hc, hm, hcell⟩ := own.slice (by rw [chL_in h1 h2]; simp)
 exact ⟨g, cap, rfl, hB, hg, hc, hm, hcell, hb⟩
def Sls (T : List AnsV) : Prop := ∀ i, i < T.length → ∃ a n c, (gA T i).s = .slice a n c
def InPost (w : World) (tb k0 : Nat) (tv : Value) (T : List AnsV) (c : Acc) (at0 : Int) (l : List Int) (e : Ending) (w' : World) : Prop :=
 Keep (· = tb) w w' ∧ ((k0 + (l.length + 7) / 8 ≤ T.length ∧ e = .returned (.bool true) ∧ Tp w' tb tv (k0 + (l.length + 7) / 8) c false) ∨
  (T.length < k0 + (l.length + 7) / 8 ∧ e = .returned (.bool false) ∧ ∃ s0 sl sc, Tp w' tb tv T.length ⟨6, at0 + 8 * ((T.length - k0 : Nat) : Int), min ((l.length - 8 * (T.length - k0) : Nat) : Int) 8, 0, 0, .slice s0 sl sc⟩ true ∧ RdB w' (.slice s0 sl sc) ((l.drop (8 * (T.length - k0))).take 8)))
def InPostO (w : World) (tb k0 : Nat) (tv : Value) (T : List AnsV) (c : Acc) (at0 : Int) (l : List Int) (P : Nat → Prop) (e : Ending) (w' : World) : Prop :=
 Keep (· = tb) w w' ∧ ((k0 + (l.length + 7) / 8 ≤ T.length ∧ e = .returned (.bool true) ∧ Tp w' tb tv (k0 + (l.length + 7) / 8) c false) ∨
  (T.length < k0 + (l.length + 7) / 8 ∧ e = .returned (.bool false) ∧ ∃ s0 sl sc, Tp w' tb tv T.length ⟨6, at0 + 8 * ((T.length - k0 : Nat) : Int), min ((l.length - 8 * (T.length - k0) : Nat) : Int) 8, 0, 0, .slice s0 sl sc⟩ true ∧ RdB w' (.slice s0 sl sc) ((l.drop (8 * (T.length - k0))).take 8) ∧ ∀ i, (Value.slice s0 sl sc).ownBlock = some i → P i))
theorem InPostO.plain {w w' : World} {tb k0 : Nat} {tv : Value} {T : List AnsV} {c : Acc} {at0 : Int} {l : List Int} {P : Nat → Prop} {e : Ending} (h : InPostO w tb k0 tv T c at0 l P e w') : InPost w tb k0 tv T c at0 l e w' :=
 ⟨h.1, h.2.imp id fun ⟨a, b, s0, sl, sc, t, r, _⟩ => ⟨a, b, s0, sl, sc, t, r⟩⟩
theorem InPostO.mono {w w' : World} {tb k0 : Nat} {tv : Value} {T : List AnsV} {c : Acc} {at0 : Int} {l : List Int} {P P' : Nat → Prop} {e : Ending} (h : InPostO w tb k0 tv T c at0 l P e w') (hp : ∀ i, P i → P' i) : InPostO w tb k0 tv T c at0 l P' e w' :=
 ⟨h.1, h.2.imp id fun ⟨a, b, s0, sl, sc, t, r, o⟩ => ⟨a, b, s0, sl, sc, t, r, fun i hi => hp i (o i hi)⟩⟩
set_option maxHeartbeats 2000000 in
theorem tIn_rowO (tb k0 : Nat) (tv : Value) (T : List AnsV) (c : Acc) (at0 : Int) (b off cap : Nat) (l : List Int) (w : World) (h : Tp w tb tv k0 c false) (hT : RdA w tv T) (hk0 : k0 ≤ T.length) (hTl : T.length ≤ 1000000) (htb : 0 < T.length → tv.ownBlock ≠ some tb) (hs : Sls T)
  (h0 : l.length ≠ 0) (hl : l.length ≤ 131072) (hlc : l.length ≤ cap) (hcm : cap ≤ maxLen) (hb : b ≠ tb) (hcell : ∀ i, i < l.length → w.cell? ⟨b, off + i, none⟩ = some (.int .u8 (gB l i))) (ha : -2305843009213693952 ≤ at0) (ha' : at0 ≤ 2305843009213693952) :
  Calls Tryz.prog 134 #[.pointer (some ⟨tb, 0, none⟩), .int .i64 at0, .slice (some ⟨b, off, none⟩) l.length cap] w (InPostO w tb k0 tv T c at0 l (fun i => i = b)) := by
 have hlt := h.lt
 have H := Lib.hid h
 have HT := Lib.hid hT
 have HS := Lib.hid hs
 have HC := Lib.hid hcell
 obtain ⟨K, hK⟩ : ∃ K, K = chK (l.length : Int) := ⟨_, rfl⟩
 have hkb := chK_bd (n := l.length) (by omega)
 rw [← hK] at hkb
 have hP : (l.length + 7) / 8 = K + 1 := by omega
 have HP := Lib.hid hP
 have HK := Lib.hid hK
 have hcl : (chL (l.length : Int)).length = K + 1 := by rw [chL_in (by omega) (by omega), ← hK]; simp
 have HCL := Lib.hid hcl
 clear h hT hs hcell hK hP hcl
 go_enter Tryz.func134, Tryz.ntmps134
 go_wp2_with fail
 refine (refChunks_new l.length _ (by omega) (by omega)).mono ?_
 rintro e w1 ⟨g1, cap1, rfl, hgn, hg1, hc1, hm1, hcell1, b1⟩
 have z1 := b1.size
 have H1 := Lib.hid (Blk.below H.out b1 hlt)
 have HT1 := Lib.hid (HT.out.below b1)
 have HC1 := Lib.hid hcell1
 have B1 := Lib.hid b1
 rw [HCL.out]
 clear hcell1 b1
 go_wp2_with fail
 go_loopw [1, 2, 15] (fun av bv i wr => ∃ j : Nat, j ≤ K + 1 ∧ i = .int .i64 j ∧ k0 + j ≤ T.length ∧ (j ≤ K → av = .int .i64 (at0 + 8 * (j : Int))) ∧ (∃ x y z, bv = .slice x y z ∧ (8 * j < l.length → x = some ⟨b, off + 8 * j, none⟩ ∧ y = l.length - 8 * j ∧ z = cap - 8 * j)) ∧ (∃ x, av = .int .i64 x) ∧ Tp wr tb tv (k0 + j) c false ∧ Keep (· = tb) w1 wr) (fun _ _ i _ => K + 1 - (intOf i).toNat)
 case atStart => exact ⟨0, by omega, rfl, by omega, fun _ => by simp, ⟨_, _, _, rfl, fun _ => ⟨rfl, rfl, rfl⟩⟩, ⟨_, rfl⟩, H1.out, Keep.refl _ _⟩
 case round =>
  obtain ⟨j, hj, rfl, hjT, hav, ⟨x, y, z, rfl, hbv⟩, ⟨av, rfl⟩, htp, hkp⟩ := hrel
  have zr := hkp.size
  by_cases hlt2 : j < K + 1
  ·obtain ⟨rfl, rfl, rfl⟩ := hbv (by omega)
   have hav2 := hav (by omega)
   obtain rfl : av = at0 + 8 * (j : Int) := by injection hav2
   obtain ⟨N, hN⟩ : ∃ N, N = min (l.length - 8 * j) 8 := ⟨_, rfl⟩
   have hch := chL_get (n := (l.length : Int)) (by omega) (by omega) j (by have := HK.out; omega)
   have hcc := (hkp.cell (b := g1) j hg1 (by show ¬ g1 = tb; omega)).trans (HC1.out j hch.2)
   rw [hch.1, show min ((l.length : Int) - 8 * (j : Int)) 8 = (N : Int) by omega] at hcc
   have HTP := Lib.hid htp
   have HKP := Lib.hid hkp
   have HTr := Lib.hid (HT1.out.keep hkp (fun h0 i hi e => htb h0 (e ▸ hi)))
   have n8 : N ≤ 8 := by omega
   have n1 : 1 ≤ N := by omega
   have nl : 8 * j + N ≤ l.length := by omega
   have nlc : (N : Int) ≤ ((cap - 8 * j : Nat) : Int) := by omega
   have tlr := htp.lt
   have HN := Lib.hid hN
   clear hch htp hkp hav hav2 hbv hN
   by_cases htold : k0 + j < T.length
   ·go_wp2_with fail
    refine (tDo_told tb (k0 + j) tv T c _ HTP.out HTr.out htold hTl (htb (by omega)) (HS.out _ htold) 6 (at0 + 8 * (j : Int)) N 0 0 (some ⟨b, off + 8 * j, none⟩) N (cap - 8 * j)).mono ?_
    rintro e w2 ⟨rfl, t2, k2⟩
    obtain ⟨sa, sn, scc, hsv⟩ := HS.out _ htold
    unfold AnsV.V
    rw [hsv]
    have T2 := Lib.hid t2
    have K2 := Lib.hid k2
    clear t2 k2 hsv
    by_cases hcap : cap - 8 * j = N
    ·go_wp2
     refine ⟨⟨j + 1, by omega, by go_num, by omega, fun hjk => ?_, ⟨_, _, _, rfl, fun hjl => ?_⟩, ⟨_, rfl⟩, ?_, ?_⟩, by simp [intOf]; omega⟩
     ·have := HN.out
      exact int_eq (by omega)
     ·have := HN.out
      omega
     ·exact Blk.alloc T2.out _
     ·exact (HKP.out.trans K2.out).alloc _
    ·go_wp2
     refine ⟨⟨j + 1, by omega, by go_num, by omega, fun hjk => ?_, ⟨_, _, _, rfl, fun hjl => ?_⟩, ⟨_, rfl⟩, ?_, ?_⟩, by simp [intOf]; omega⟩
     ·have := HN.out
      exact int_eq (by omega)
     ·have := HN.out
      refine ⟨?_, by omega, by omega⟩
      rw [show off + 8 * j + N = off + 8 * (j + 1) by omega]
     ·exact Blk.alloc T2.out _
     ·exact (HKP.out.trans K2.out).alloc _
   ·have hkj : k0 + j = T.length := by omega
    have HTP2 := HTP.out
    rw [hkj] at HTP2
    have HTE := Lib.hid HTP2
    have HKJ := Lib.hid hkj
    clear HTP HTP2 hkj
    go_wp2_with fail
    refine (tDo_end tb tv T c _ HTE.out HTr.out 6 (at0 + 8 * (j : Int)) N 0 0 (some ⟨b, off + 8 * j, none⟩) N (cap - 8 * j)).mono ?_
    rintro e w2 ⟨rfl, t2, k2⟩
    unfold ansZ AnsV.V
    dsimp only
    have T2 := Lib.hid t2
    have K2 := Lib.hid k2
    clear t2 k2
    go_wp2
    go_ret
    have hkk := HKJ.out
    have hnn := HN.out
    refine ⟨((Below.keeps B1.out).trans (HKP.out.trans K2.out)).alloc _, .inr ⟨by have := HP.out; omega, rfl, some ⟨b, off + 8 * j, none⟩, N, cap - 8 * j, ?_, ?_, fun i hi => by injection hi with hi; exact hi.symm⟩⟩
    ·rw [show T.length - k0 = j by omega, show min ((l.length - 8 * j : Nat) : Int) 8 = (N : Int) by omega]
     exact Blk.alloc T2.out _
    ·rw [show T.length - k0 = j by omega]
     refine RdB.cells (by simp; omega) (by omega) (by omega) fun i hi => ?_
     have hx := HC.out (8 * j + i) (by omega)
     have hbw := World.block_lt_of_cell? w _ hx
     have e1 := ((((Below.keeps B1.out).trans (HKP.out.trans K2.out)).alloc (Obj.cells #[Value.int IntKind.u64 0, Value.bool false, Value.slice none 0 0] 33)).cell (off + 8 * j + i) hbw (fun e => hb e))
     rw [e1, Nat.add_assoc, hx, gB_take _ _ _ (by omega)]
     simp [gB, List.getD]
  ·obtain rfl : j = K + 1 := by omega
   clear hlt2
   have HTP := Lib.hid htp
   have HKP := Lib.hid hkp
   clear htp hkp hav hbv
   go_wp2
   go_ret
   refine ⟨(Below.keeps B1.out).trans HKP.out, .inl ⟨by have := HP.out; omega, rfl, ?_⟩⟩
   rw [HP.out]
   exact HTP.out
theorem RdB.keepO {w w' : World} {M : Nat → Prop} {v : Value} {l : List Int} (h : RdB w v l) (k : Keep M w w') (hne : l.length ≠ 0 → ∀ b, v.ownBlock = some b → ¬ M b) : RdB w' v l := by
 rcases h with h | h | ⟨b, off, cap, e1, e2, e3, e4⟩
 ·exact .inl h
 ·exact .inr (.inl h)
 ·refine .inr <| .inr ⟨b, off, cap, e1, e2, e3, fun i hi => ?_⟩
  rw [k.cell _ (World.block_lt_of_cell? w _ (e4 i hi)) (hne (by omega) b (by rw [e1]; rfl))]
  exact e4 i hi
theorem grown_keep {w w' : World} {v : Value} (h : w.grownBy w' v.ownBlock) : Keep (fun i => v.ownBlock = some i) w w' :=
 ⟨h.os, h.tape, h.output, h.size, fun k hk hm => h.block k hk (fun e => hm e.symm)⟩
theorem OwB.keepB {E B : Nat} {M : Nat → Prop} {w w' : World} {v : Value} {l : List Int} (h : OwB E B w v l) (k : Keep M w w') (hm : ∀ i, v.ownBlock = some i → ¬ M i) : OwB E B w' v l := by
 obtain ⟨h1, h2⟩ := h
 refine ⟨h1, h2.imp id ?_⟩
 rintro ⟨g, cap, cur, e1, e2, e3, e4⟩
 exact ⟨g, cap, cur, e1, e2, by rw [k.block g (by have := Array.getElem?_eq_some_iff.1 e3; exact this.1) (hm _ (by rw [e1]; rfl))]; exact e3, e4⟩
structure TOk (w : World) (tb : Nat) (tv : Value) (T : List AnsV) : Prop where
 rd : RdA w tv T
 sl : Sls T
 rds : RdAs w T
 apart : 0 < T.length → tv.ownBlock ≠ some tb
 aparts : ∀ i, i < T.length → (gA T i).b.length ≠ 0 → (gA T i).s.ownBlock ≠ some tb
 len : T.length ≤ 1000000
theorem TOk.keep {w w' : World} {tb : Nat} {tv : Value} {T : List AnsV} (h : TOk w tb tv T) (k : Keep (· = tb) w w') : TOk w' tb tv T :=
 ⟨h.rd.keep k (fun h0 i hi e => h.apart h0 (e ▸ hi)), h.sl, fun i hi => (h.rds i hi).keepO k (fun h0 b hb e => h.aparts i hi h0 (e ▸ hb)), h.apart, h.aparts, h.len⟩
theorem TOk.below {w w' : World} {tb : Nat} {tv : Value} {T : List AnsV} (h : TOk w tb tv T) (k : Below w.heap.size w w') : TOk w' tb tv T := h.keep (Below.keeps k)
set_option maxHeartbeats 1000000 in
theorem tIn_anyO (tb k0 : Nat) (tv : Value) (T : List AnsV) (c : Acc) (at0 : Int) (s0 : Option Addr) (sl sc : Nat) (l : List Int) (w : World) (h : Tp w tb tv k0 c false) (hT : TOk w tb tv T) (hk0 : k0 ≤ T.length)
  (hl : l.length ≤ 131072) (hb : l.length ≠ 0 → (Value.slice s0 sl sc).ownBlock ≠ some tb) (hr : RdB w (.slice s0 sl sc) l) (ha : -2305843009213693952 ≤ at0) (ha' : at0 ≤ 2305843009213693952) :
  Calls Tryz.prog 134 #[.pointer (some ⟨tb, 0, none⟩), .int .i64 at0, .slice s0 sl sc] w (InPostO w tb k0 tv T c at0 l (fun i => (Value.slice s0 sl sc).ownBlock = some i)) := by
 by_cases h0 : l.length = 0
 ·obtain rfl : l = [] := List.eq_nil_of_length_eq_zero h0
  obtain rfl : sl = 0 := by
   rcases hr with ⟨e, _⟩ | ⟨_, _, e, _⟩ | ⟨_, _, _, e, _⟩
   ·cases e; rfl
   ·cases e; rfl
   ·cases e; rfl
  have H := Lib.hid h
  clear h hT hr
  go_enter Tryz.func134, Tryz.ntmps134
  go_wp2_with fail
  refine (refChunks_out 0 _ (by omega) (by omega)).mono ?_
  rintro e w1 ⟨rfl, rfl⟩
  go_wp2_with fail
  go_loopw [15] (fun i wr => i = .int .i64 0 ∧ wr = w) (fun _ _ => 0)
  case atStart => exact ⟨rfl, rfl⟩
  case round =>
   obtain ⟨rfl, rfl⟩ := hrel
   go_wp2
   go_ret
   exact ⟨Keep.refl _ _, .inl ⟨by simpa using hk0, rfl, by simpa using H.out⟩⟩
 ·rcases hr with ⟨_, e⟩ | ⟨_, _, _, e, _⟩ | ⟨b, off, cap, e, e2, e3, e4⟩
  ·rw [e] at h0; exact absurd rfl h0
  ·rw [e] at h0; exact absurd rfl h0
  ·cases e
   exact (tIn_rowO tb k0 tv T c at0 b off sc l w h hT.rd hk0 hT.len hT.apart hT.sl h0 hl e2 e3 (fun e => hb h0 (e ▸ rfl)) e4 ha ha').mono fun _ _ hp => hp.mono fun i hi => by subst hi; rfl
theorem tIn_any (tb k0 : Nat) (tv : Value) (T : List AnsV) (c : Acc) (at0 : Int) (s0 : Option Addr) (sl sc : Nat) (l : List Int) (w : World) (h : Tp w tb tv k0 c false) (hT : TOk w tb tv T) (hk0 : k0 ≤ T.length)
  (hl : l.length ≤ 131072) (hb : l.length ≠ 0 → (Value.slice s0 sl sc).ownBlock ≠ some tb) (hr : RdB w (.slice s0 sl sc) l) (ha : -2305843009213693952 ≤ at0) (ha' : at0 ≤ 2305843009213693952) :
  Calls Tryz.prog 134 #[.pointer (some ⟨tb, 0, none⟩), .int .i64 at0, .slice s0 sl sc] w (InPost w tb k0 tv T c at0 l) :=
 (tIn_anyO tb k0 tv T c at0 s0 sl sc l w h hT hk0 hl hb hr ha ha').mono fun _ _ hp => hp.plain
theorem InPostO.below {w w1 w' : World} {tb k0 : Nat} {tv : Value} {T : List AnsV} {c : Acc} {at0 : Int} {l : List Int} {P : Nat → Prop} {e : Ending} (h : InPostO w1 tb k0 tv T c at0 l P e w') (b : Below w.heap.size w w1) : InPostO w tb k0 tv T c at0 l P e w' :=
 ⟨(Below.keeps b).trans h.1, h.2⟩
theorem own_blkT {w : World} {B E g n : Nat} {xs : List Value} (h : w.ownsRow B E 1 (.slice (some ⟨g, 0, none⟩) n n) n xs) : Blk w g xs ∧ B ≤ g := by
 rcases h.2 with ⟨h, _⟩ | ⟨g', cap, cur, e, hb, hg, hn, hc, hs, ht⟩
 ·cases h
 ·cases e
  refine ⟨⟨E, ?_⟩, hb⟩
  rw [hg, ← ht, List.take_of_length_le (by simp; omega)]
theorem rep_cellsT (n : Nat) : ((List.replicate n (0 : Int)).map (Value.int .u8)) = (madeCells #[Value.int .u8 0] n).toList := by
 simp only [madeCells, List.map_replicate]
 apply List.ext_getElem
 ·simp
 ·intro i h1 h2
  simp [Nat.mod_one]
set_option maxHeartbeats 1000000 in
theorem tZero_rowO (tb k0 : Nat) (tv : Value) (T : List AnsV) (c : Acc) (at0 : Int) (n : Nat) (w : World) (h : Tp w tb tv k0 c false) (hT : TOk w tb tv T) (hk0 : k0 ≤ T.length) (hn : 1 ≤ n) (hn' : n ≤ 131072) (ha : -2305843009213693952 ≤ at0) (ha' : at0 ≤ 2305843009213693952) :
  Calls Tryz.prog 150 #[.pointer (some ⟨tb, 0, none⟩), .int .i64 at0, .int .i64 n] w (InPostO w tb k0 tv T c at0 (List.replicate n 0) (fun i => w.heap.size ≤ i)) := by
 obtain ⟨i0, hi, hz0, hz1, hz2⟩ := info_parts u8info
 have hlt := h.lt
 have H := Lib.hid h
 have HT := Lib.hid hT
 clear h hT
 go_enter Tryz.func150, Tryz.ntmps150
 go_wp2_with (refine wpList_make_full _ rfl _ _ 22 rfl w.heap.size 5 i0 (.int .u8 0) 1 Tryz.underlying22 hi hz0 hz1 _ _ _ _ n rfl rfl rfl rfl (by rw [hz2]; omega) (by unfold maxLen; omega) (Nat.le_refl _) ?_)
 intro w1 own1 hg1
 obtain ⟨hblk, _⟩ := own_blkT own1
 have b1 : Below w.heap.size w w1 := (Below.refl _ _).grown hg1 (Nat.le_refl _) (fun k hk => by cases hk)
 have hr : RdB w1 (.slice (some ⟨w.heap.size, 0, none⟩) n n) (List.replicate n 0) := by
  refine RdB.cells (by simp) (by omega) (by unfold maxLen; omega) fun i hi => ?_
  rw [Blk.cell hblk (0 + i), ← rep_cellsT n]
  simp [gB, hi]
 have HR := Lib.hid hr
 have B1 := Lib.hid b1
 have hne : ¬ w.heap.size = tb := by omega
 clear own1 hg1 hblk b1 hr
 go_wp2_with fail
 refine (tIn_anyO tb k0 tv T c at0 (some ⟨w.heap.size, 0, none⟩) n n (List.replicate n 0) _ (Blk.below H.out B1.out hlt) (HT.out.below B1.out) hk0 (by simp; omega) (fun _ e => hne (by simpa [Value.ownBlock] using e)) HR.out ha ha').mono ?_
 rintro e w2 hp
 have HP := Lib.hid ((hp.below B1.out).mono (P' := fun i => w.heap.size ≤ i) fun i hi => Nat.le_of_eq (Option.some.inj hi))
 obtain ⟨_, ⟨_, rfl, _⟩ | ⟨_, rfl, _⟩⟩ := hp
 ·go_wp2
  go_ret
  exact HP.out
 ·go_wp2
  go_ret
  exact HP.out
def catB (T : List AnsV) (k j : Nat) : List Int := ((List.range j).map fun i => (gA T (k + i)).b).flatten
theorem catB_succ (T : List AnsV) (k j : Nat) : catB T k (j + 1) = catB T k j ++ (gA T (k + j)).b := by
 simp [catB, List.range_succ]
theorem catB_len (T : List AnsV) (k : Nat) (B : Nat) : ∀ j, (∀ i, i < j → (gA T (k + i)).b.length ≤ B) → (catB T k j).length ≤ B * j
 | 0, _ => by simp [catB]
 | j + 1, h => by
  rw [catB_succ, List.length_append, Nat.mul_succ]
  have := catB_len T k B j (fun i hi => h i (by omega))
  have := h j (by omega)
  omega
def OutPost (w : World) (tb k0 : Nat) (tv : Value) (T : List AnsV) (c : Acc) (at0 : Int) (n P : Nat) (e : Ending) (w' : World) : Prop :=
 Keep (· = tb) w w' ∧ ∃ v, ((k0 + P ≤ T.length ∧ e = .returned (.tuple #[v, .bool true]) ∧ OwB 5 w.heap.size w' v (catB T k0 P) ∧ Tp w' tb tv (k0 + P) c false) ∨
  (T.length < k0 + P ∧ e = .returned (.tuple #[v, .bool false]) ∧ OwB 5 w.heap.size w' v (catB T k0 (T.length - k0)) ∧ Tp w' tb tv T.length ⟨5, at0 + 8 * ((T.length - k0 : Nat) : Int), min ((n - 8 * (T.length - k0) : Nat) : Int) 8, 0, 0, .slice none 0 0⟩ true))
set_option maxHeartbeats 1000000 in
theorem tOut_none (tb k0 : Nat) (tv : Value) (T : List AnsV) (c : Acc) (at0 n : Int) (m : Nat) (w : World) (h : Tp w tb tv k0 c false) (hk0 : k0 ≤ T.length) (hn0 : -9223372036854775808 ≤ n) (hn : n < 1 ∨ 131072 < n) :
  Calls Tryz.prog 149 #[.pointer (some ⟨tb, 0, none⟩), .int .i64 at0, .int .i64 n] w (OutPost w tb k0 tv T c at0 m 0) := by
 have H := Lib.hid h
 have HN := Lib.hid hn
 clear h hn
 go_enter Tryz.func149, Tryz.ntmps149
 go_wp2_with fail
 refine (refChunks_out n _ hn0 HN.out).mono ?_
 rintro e w1 ⟨rfl, rfl⟩
 go_wp2_with fail
 go_loopw [8, 16] (fun o i wr => o = .slice none 0 0 ∧ i = .int .i64 0 ∧ wr = w) (fun _ _ _ => 0)
 case atStart => exact ⟨rfl, rfl, rfl⟩
 case round =>
  obtain ⟨rfl, rfl, rfl⟩ := hrel
  go_wp2
  go_ret2
  exact ⟨Keep.refl _ _, .slice none 0 0, .inl ⟨by simpa using hk0, rfl, OwB.nil _ _ _, by simpa using H.out⟩⟩
set_option maxHeartbeats 2000000 in
theorem tOut_row (tb k0 : Nat) (tv : Value) (T : List AnsV) (c : Acc) (at0 : Int) (n : Nat) (w : World) (h : Tp w tb tv k0 c false) (hT : TOk w tb tv T) (hlens : ∀ i, i < T.length → (gA T i).b.length ≤ 1000) (hk0 : k0 ≤ T.length)
  (hn : 1 ≤ n) (hn' : n ≤ 131072) (ha : -2305843009213693952 ≤ at0) (ha' : at0 ≤ 2305843009213693952) :
  Calls Tryz.prog 149 #[.pointer (some ⟨tb, 0, none⟩), .int .i64 at0, .int .i64 n] w (OutPost w tb k0 tv T c at0 n ((n + 7) / 8)) := by
 have hlt := h.lt
 have H := Lib.hid h
 have HT := Lib.hid hT
 have HLN := Lib.hid hlens
 have hTl := hT.len
 obtain ⟨K, hK⟩ : ∃ K, K = chK (n : Int) := ⟨_, rfl⟩
 have hkb := chK_bd (n := n) (by omega)
 rw [← hK] at hkb
 have hP : (n + 7) / 8 = K + 1 := by omega
 have HP := Lib.hid hP
 have HK := Lib.hid hK
 have hcl : (chL (n : Int)).length = K + 1 := by rw [chL_in (by omega) (by omega), ← hK]; simp
 have HCL := Lib.hid hcl
 clear h hT hlens hK hP hcl
 go_enter Tryz.func149, Tryz.ntmps149
 go_wp2_with fail
 refine (refChunks_new n _ (by omega) (by omega)).mono ?_
 rintro e w1 ⟨g1, cap1, rfl, hgn, hg1, hc1, hm1, hcell1, b1⟩
 have z1 := b1.size
 have H1 := Lib.hid (Blk.below H.out b1 hlt)
 have HC1 := Lib.hid hcell1
 have B1 := Lib.hid b1
 rw [HCL.out]
 clear hcell1 b1
 go_wp2_with fail
 go_loopw [1, 8, 16] (fun av ov i wr => ∃ j : Nat, j ≤ K + 1 ∧ i = .int .i64 j ∧ k0 + j ≤ T.length ∧ (j ≤ K → av = .int .i64 (at0 + 8 * (j : Int))) ∧ (∃ x, av = .int .i64 x) ∧ (∃ oa on oc, ov = .slice oa on oc ∧ OwB 5 w1.heap.size wr (.slice oa on oc) (catB T k0 j)) ∧ Tp wr tb tv (k0 + j) c false ∧ Keep (· = tb) w1 wr) (fun _ _ i _ => K + 1 - (intOf i).toNat)
 case atStart => exact ⟨0, by omega, rfl, by omega, fun _ => by simp, ⟨_, rfl⟩, ⟨_, _, _, rfl, OwB.nil _ _ _⟩, H1.out, Keep.refl _ _⟩
 case round =>
  obtain ⟨j, hj, rfl, hjT, hav, ⟨av, rfl⟩, ⟨oa, on, oc, rfl, hov⟩, htp, hkp⟩ := hrel
  have zr := hkp.size
  by_cases hlt2 : j < K + 1
  ·have hav2 := hav (by omega)
   obtain rfl : av = at0 + 8 * (j : Int) := by injection hav2
   obtain ⟨N, hN⟩ : ∃ N, N = min (n - 8 * j) 8 := ⟨_, rfl⟩
   have hch := chL_get (n := (n : Int)) (by omega) (by omega) j (by have := HK.out; omega)
   have hcc := (hkp.cell (b := g1) j hg1 (by show ¬ g1 = tb; omega)).trans (HC1.out j hch.2)
   rw [hch.1, show min ((n : Int) - 8 * (j : Int)) 8 = (N : Int) by omega] at hcc
   have HTP := Lib.hid htp
   have HKP := Lib.hid hkp
   have HTr := Lib.hid (HT.out.keep ((Below.keeps B1.out).trans hkp))
   have n8 : N ≤ 8 := by omega
   have n1 : 1 ≤ N := by omega
   have tlr := htp.lt
   have HN := Lib.hid hN
   have HO := Lib.hid hov
   clear hch htp hkp hav hav2 hN hov
   by_cases htold : k0 + j < T.length
   ·go_wp2_with fail
    refine (tDo_told tb (k0 + j) tv T c _ HTP.out HTr.out.rd htold hTl (HTr.out.apart (by omega)) (HTr.out.sl _ htold) 5 (at0 + 8 * (j : Int)) N 0 0 none 0 0).mono ?_
    rintro e w2 ⟨rfl, t2, k2⟩
    obtain ⟨sa, sn, scc, hsv⟩ := HTr.out.sl _ htold
    have hrd := HTr.out.rds _ htold
    have hap := HTr.out.aparts _ htold
    have hbl := HLN.out _ htold
    unfold AnsV.V
    rw [hsv] at hrd hap ⊢
    have HRD := Lib.hid (hrd.keepO k2 (fun h0 b hb e => hap h0 (e ▸ hb)))
    have z2 := k2.size
    have hcat := catB_len T k0 1000 j (fun i hi => HLN.out _ (by omega))
    have HO2 := Lib.hid (HO.out.keepB k2 (fun i hi e => by have := HO.out.own_ge i hi; omega))
    have T2 := Lib.hid t2
    have K2 := Lib.hid k2
    have hge := Lib.hid (HO.out.own_ge)
    have tl2 := t2.lt
    clear t2 k2 hsv hrd hap
    go_wp2_with (refine list_app rfl (.tmp 31) (.tmp 33) rfl w1.heap.size _ _ _ _ rfl ((HO2.out.below (Below.alloc (Below.refl _ _) (Nat.le_refl _) _))) rfl (HRD.out.below (Below.alloc (Below.refl _ _) (Nat.le_refl _) _)) (by omega) (by simp; omega) ?_)
    intro v' w3 p3
    obtain ⟨va, vn, vc, rfl⟩ : ∃ a n c, v' = .slice a n c := by
     rcases p3.1.2 with ⟨rfl, _⟩ | ⟨g, cap, cur, rfl, _⟩
     ·exact ⟨_, _, _, rfl⟩
     ·exact ⟨_, _, _, rfl⟩
    have HP3 := Lib.hid p3
    have K3 := Lib.hid (grown_keep p3.2.1)
    have zz := K3.out.size
    rw [World.size_alloc] at zz
    clear p3
    go_wp2
    refine ⟨⟨j + 1, by omega, by go_num, by omega, fun hjk => ?_, ⟨_, rfl⟩, ?_, ?_, ?_⟩, by simp [intOf]; omega⟩
    ·have := HN.out
     exact int_eq (by omega)
    ·refine ⟨_, _, _, rfl, ?_⟩
     rw [catB_succ]
     exact HP3.out.1
    ·exact Blk.keep (Blk.alloc T2.out _) K3.out (fun e => by have := hge.out _ e; omega)
    ·exact (HKP.out.trans (K2.out.alloc _)).then K3.out (fun i hi e => by have := hge.out _ e; omega)
   ·have hkj : k0 + j = T.length := by omega
    have HTP2 := HTP.out
    rw [hkj] at HTP2
    have HTE := Lib.hid HTP2
    have HKJ := Lib.hid hkj
    clear HTP HTP2 hkj
    go_wp2_with fail
    refine (tDo_end tb tv T c _ HTE.out HTr.out.rd 5 (at0 + 8 * (j : Int)) N 0 0 none 0 0).mono ?_
    rintro e w2 ⟨rfl, t2, k2⟩
    unfold ansZ AnsV.V
    dsimp only
    have T2 := Lib.hid t2
    have K2 := Lib.hid k2
    clear t2 k2
    go_wp2
    go_ret2
    have hkk := HKJ.out
    have hnn := HN.out
    refine ⟨((Below.keeps B1.out).trans (HKP.out.trans K2.out)).alloc _, .slice oa on oc, .inr ⟨by have := HP.out; omega, rfl, ?_, ?_⟩⟩
    ·rw [show T.length - k0 = j by omega]
     exact (((HO.out.keepB K2.out (fun i hi e => by have := HO.out.own_ge i hi; omega)).mono (by omega)).below (Below.alloc (Below.refl _ _) (Nat.le_refl _) _))
    ·rw [show T.length - k0 = j by omega, show min ((n - 8 * j : Nat) : Int) 8 = (N : Int) by omega]
     exact Blk.alloc T2.out _
  ·obtain rfl : j = K + 1 := by omega
   clear hlt2
   have HTP := Lib.hid htp
   have HKP := Lib.hid hkp
   have HO := Lib.hid hov
   clear htp hkp hav hov
   go_wp2
   go_ret2
   refine ⟨(Below.keeps B1.out).trans HKP.out, .slice oa on oc, .inl ⟨by have := HP.out; omega, rfl, ?_, ?_⟩⟩
   ·rw [HP.out]
    exact HO.out.mono (by omega)
   ·rw [HP.out]
    exact HTP.out
set_option maxHeartbeats 2000000 in
theorem sameAcc_true (k a n v x : Int) (s0 t0 : Option Addr) (sl sc tl tc : Nat) (l : List Int) (w : World) (h1 : RdB w (.slice s0 sl sc) l) (h2 : RdB w (.slice t0 tl tc) l) :
  Calls Tryz.prog 47 #[.agg #[.int .i64 k, .int .i64 a, .int .i64 n, .int .u64 v, .int .u64 x, .slice s0 sl sc], .agg #[.int .i64 k, .int .i64 a, .int .i64 n, .int .u64 v, .int .u64 x, .slice t0 tl tc]] w fun e w' => e = .returned (.bool true) ∧ Below w.heap.size w w' := by
 have r1 := (h1.below ((Below.refl _ w).alloc (Nat.le_refl _) (Obj.cells #[Value.int IntKind.i64 k, Value.int IntKind.i64 a, Value.int IntKind.i64 n, Value.int IntKind.u64 v, Value.int IntKind.u64 x, Value.slice s0 sl sc] 37))).below ((Below.refl _ _).alloc (Nat.le_refl _) (Obj.cells #[Value.int IntKind.i64 k, Value.int IntKind.i64 a, Value.int IntKind.i64 n, Value.int IntKind.u64 v, Value.int IntKind.u64 x, Value.slice t0 tl tc] 37))
 have r2 := (h2.below ((Below.refl _ w).alloc (Nat.le_refl _) (Obj.cells #[Value.int IntKind.i64 k, Value.int IntKind.i64 a, Value.int IntKind.i64 n, Value.int IntKind.u64 v, Value.int IntKind.u64 x, Value.slice s0 sl sc] 37))).below ((Below.refl _ _).alloc (Nat.le_refl _) (Obj.cells #[Value.int IntKind.i64 k, Value.int IntKind.i64 a, Value.int IntKind.i64 n, Value.int IntKind.u64 v, Value.int IntKind.u64 x, Value.slice t0 tl tc] 37))
 have V1 := conv_rd 22 9 Tryz.underlying22 Tryz.underlying9 r1
 have V2 := conv_rd 22 9 Tryz.underlying22 Tryz.underlying9 r2
 clear h1 h2 r1 r2
 go_enter Tryz.func47, Tryz.ntmps47
 go_wp2
 go_ret
 exact ⟨rfl, by go_grown⟩
end Go.Proofs.YtknahaaefmlcpaaGreat
end
