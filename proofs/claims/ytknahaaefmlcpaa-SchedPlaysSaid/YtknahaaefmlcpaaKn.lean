/- Contracts of copies.Copy's Next, Take and Bytes, over any state. Conditions: as each says. -/
import Derived.Test.YtknahaaefmlcpaaKe
import Derived.Deep.RegionWith
namespace Go.Proofs.Ytknahaaefmlcpaa
set_option maxRecDepth 100000
open Go.RowKit
set_option linter.unusedVariables false
set_option linter.unusedSimpArgs false
theorem res_access {fn : Func} {tmps : Array Value} {W : World} {q : Nat} {K A N V X : Int} {S0 : Option Addr} {S1 S2 : Nat} {E : Value} (hf : fn.results = #[.cell 2 47, .tmp 3]) (hp : tmps.getD 2 undef = .pointer (some ⟨q, 0, none⟩)) (he : tmps.getD 3 undef = E)
    (c0 : W.cell? ⟨q, 0, none⟩ = some (.int .i64 K)) (c1 : W.cell? ⟨q, 1, none⟩ = some (.int .i64 A)) (c2 : W.cell? ⟨q, 2, none⟩ = some (.int .i64 N)) (c3 : W.cell? ⟨q, 3, none⟩ = some (.int .u64 V)) (c4 : W.cell? ⟨q, 4, none⟩ = some (.int .u64 X)) (c5 : W.cell? ⟨q, 5, none⟩ = some (.slice S0 S1 S2)) :
    (results fn tmps).run Try.prog W = .ok (.tuple #[(Acc.mk K A N V X (.slice S0 S1 S2)).V, E]) W := by
  rw [results_cell_tmp hf, hp, he]
  go_simp
  rfl
set_option maxHeartbeats 1000000 in
theorem cpNext_more (q : Nat) (k a n v x : Int) (s0 : Option Addr) (sl sc : Nat) (l : List Int) (f : Nat) (cap : Array Value) (r : List Value) (w : World) (h : Mch w q ⟨k, a, n, v, x, .slice s0 sl sc⟩ (.func (.func f) #[] cap) r) (hb : RdB w (.slice s0 sl sc) l) (hl : l.length ≤ 70368744177664) :
    Calls Try.prog 144 #[.pointer (some ⟨q, 0, none⟩)] w fun e w' => ∃ s, e = .returned (.tuple #[(Acc.mk k a n v x s).V, .bool true]) ∧ OwB 5 w.heap.size w' s l ∧ Below w.heap.size w w' := by
  have hlt := h.lt
  have H := Lib.hid h
  have HB := Lib.hid hb
  clear h hb
  go_enter Try.func144, Try.ntmps144
  go_wp2_with fail
  refine (cNext_more q k a n v x s0 sl sc f cap r _ (Blk.alloc H.out _)).mono ?_
  rintro e w1 ⟨rfl, b1⟩
  unfold Acc.V
  dsimp only
  have z1 := b1.size
  simp at z1
  have A1 := Lib.hid (Blk.below (Blk.made w #[.int .i64 0, .int .i64 0, .int .i64 0, .int .u64 0, .int .u64 0, .slice none 0 0] 47) b1 (by simp))
  have B1 : Below w.heap.size w w1 := ((Below.refl w.heap.size w).alloc (Nat.le_refl _) _).trans (b1.mono (by simp))
  have y1 : w.heap.size < w1.heap.size := by omega
  clear b1
  go_wp2_with fail
  refine (clone_any (.slice s0 sl sc) l _ (HB.out.below (B1.alloc (by omega) _)) hl).mono ?_
  rintro e w2 ⟨s, rfl, o2, b2⟩
  obtain ⟨x2, n2, c2, rfl⟩ := o2.isSliceC
  have z2 := b2.size
  simp at z2
  have A2 := Lib.hid ((A1.out.alloc _).below b2 (by simp; omega))
  have C2 := Lib.hid (Blk.below (Blk.made w1 #[.int .i64 k, .int .i64 a, .int .i64 n, .int .u64 v, .int .u64 x, .slice s0 sl sc] 47) b2 (by simp))
  have O2 := Lib.hid (OwB.mono o2 (show w1.heap.size + 1 ≤ _ by simp))
  have B2 : Below w.heap.size w w2 := (B1.alloc (by omega) _).trans (b2.mono (by simp; omega))
  have p0 := C2.out.cell 0
  have p1 := C2.out.cell 1
  have p2 := C2.out.cell 2
  have p3 := C2.out.cell 3
  have p4 := C2.out.cell 4
  have p5 := C2.out.cell 5
  have u5 := C2.out.frozen 5
  have a0 := A2.out.cell 0
  have a1 := A2.out.cell 1
  have a2 := A2.out.cell 2
  have a3 := A2.out.cell 3
  have a4 := A2.out.cell 4
  have a5 := A2.out.cell 5
  have e0 := A2.out.frozen 0
  have e1 := A2.out.frozen 1
  have e2 := A2.out.frozen 2
  have e3 := A2.out.frozen 3
  have e4 := A2.out.frozen 4
  have e5 := A2.out.frozen 5
  simp only [List.getElem?_toArray, List.getElem?_cons_zero, List.getElem?_cons_succ] at p0 p1 p2 p3 p4 p5 a0 a1 a2 a3 a4 a5
  have ne1 : ¬ w1.heap.size = w.heap.size := by omega
  have ne2 : ¬ w.heap.size = w1.heap.size := by omega
  clear o2 b2
  go_wp2
  refine bodyPost_ret (v := .tuple #[(Acc.mk k a n v x (.slice x2 n2 c2)).V, .bool true]) ?_ rfl ⟨_, rfl, ?_, ?_⟩
  · exact res_access rfl rfl rfl (Blk.cell ((((((((A2.out.far (a := ⟨w1.heap.size, 5, none⟩) ne2 _).set 0 _).set 1 _).set 2 _).set 3 _).set 4 _).set 5 _)) 0) (Blk.cell ((((((((A2.out.far (a := ⟨w1.heap.size, 5, none⟩) ne2 _).set 0 _).set 1 _).set 2 _).set 3 _).set 4 _).set 5 _)) 1) (Blk.cell ((((((((A2.out.far (a := ⟨w1.heap.size, 5, none⟩) ne2 _).set 0 _).set 1 _).set 2 _).set 3 _).set 4 _).set 5 _)) 2) (Blk.cell ((((((((A2.out.far (a := ⟨w1.heap.size, 5, none⟩) ne2 _).set 0 _).set 1 _).set 2 _).set 3 _).set 4 _).set 5 _)) 3) (Blk.cell ((((((((A2.out.far (a := ⟨w1.heap.size, 5, none⟩) ne2 _).set 0 _).set 1 _).set 2 _).set 3 _).set 4 _).set 5 _)) 4) (Blk.cell ((((((((A2.out.far (a := ⟨w1.heap.size, 5, none⟩) ne2 _).set 0 _).set 1 _).set 2 _).set 3 _).set 4 _).set 5 _)) 5)
  · refine OwB.mono (B := w1.heap.size + 1) ?_ (by omega)
    repeat' (refine OwB.farC ?_ (by simp; try omega) _)
    exact O2.out
  · repeat' (refine Below.setCell ?_ (by simp; try omega) _)
    exact B2
set_option maxHeartbeats 1000000 in
theorem cpNext_end (q : Nat) (c : Acc) (r : List Value) (w : World) (h : Mch w q c .nilFunc r) :
    Calls Try.prog 144 #[.pointer (some ⟨q, 0, none⟩)] w fun e w' => ∃ s, e = .returned (.tuple #[(Acc.mk 0 0 0 0 0 s).V, .bool false]) ∧ OwB 5 w.heap.size w' s [] ∧ Below w.heap.size w w' := by
  have hlt := h.lt
  have H := Lib.hid h
  clear h
  go_enter Try.func144, Try.ntmps144
  go_wp2_with fail
  refine (cNext_end q c r _ (Blk.alloc H.out _)).mono ?_
  rintro e w1 ⟨rfl, b1⟩
  unfold Acc.V accZ
  dsimp only
  have z1 := b1.size
  simp at z1
  have A1 := Lib.hid (Blk.below (Blk.made w #[.int .i64 0, .int .i64 0, .int .i64 0, .int .u64 0, .int .u64 0, .slice none 0 0] 47) b1 (by simp))
  have B1 : Below w.heap.size w w1 := ((Below.refl w.heap.size w).alloc (Nat.le_refl _) _).trans (b1.mono (by simp))
  have y1 : w.heap.size < w1.heap.size := by omega
  clear b1
  go_wp2_with fail
  refine (clone_any (.slice none 0 0) [] _ (.inl ⟨rfl, rfl⟩) (by simp)).mono ?_
  rintro e w2 ⟨s, rfl, o2, b2⟩
  obtain ⟨x2, n2, c2, rfl⟩ := o2.isSliceC
  have z2 := b2.size
  simp at z2
  have A2 := Lib.hid ((A1.out.alloc _).below b2 (by simp; omega))
  have C2 := Lib.hid (Blk.below (Blk.made w1 #[.int .i64 0, .int .i64 0, .int .i64 0, .int .u64 0, .int .u64 0, .slice none 0 0] 47) b2 (by simp))
  have O2 := Lib.hid (OwB.mono o2 (show w1.heap.size + 1 ≤ _ by simp))
  have B2 : Below w.heap.size w w2 := (B1.alloc (by omega) _).trans (b2.mono (by simp; omega))
  have p0 := C2.out.cell 0
  have p1 := C2.out.cell 1
  have p2 := C2.out.cell 2
  have p3 := C2.out.cell 3
  have p4 := C2.out.cell 4
  have p5 := C2.out.cell 5
  have u5 := C2.out.frozen 5
  have a0 := A2.out.cell 0
  have a1 := A2.out.cell 1
  have a2 := A2.out.cell 2
  have a3 := A2.out.cell 3
  have a4 := A2.out.cell 4
  have a5 := A2.out.cell 5
  have e0 := A2.out.frozen 0
  have e1 := A2.out.frozen 1
  have e2 := A2.out.frozen 2
  have e3 := A2.out.frozen 3
  have e4 := A2.out.frozen 4
  have e5 := A2.out.frozen 5
  simp only [List.getElem?_toArray, List.getElem?_cons_zero, List.getElem?_cons_succ] at p0 p1 p2 p3 p4 p5 a0 a1 a2 a3 a4 a5
  have ne1 : ¬ w1.heap.size = w.heap.size := by omega
  have ne2 : ¬ w.heap.size = w1.heap.size := by omega
  clear o2 b2
  go_wp2
  refine bodyPost_ret (v := .tuple #[(Acc.mk 0 0 0 0 0 (.slice x2 n2 c2)).V, .bool false]) ?_ rfl ⟨_, rfl, ?_, ?_⟩
  · exact res_access rfl rfl rfl (Blk.cell ((((((((A2.out.far (a := ⟨w1.heap.size, 5, none⟩) ne2 _).set 0 _).set 1 _).set 2 _).set 3 _).set 4 _).set 5 _)) 0) (Blk.cell ((((((((A2.out.far (a := ⟨w1.heap.size, 5, none⟩) ne2 _).set 0 _).set 1 _).set 2 _).set 3 _).set 4 _).set 5 _)) 1) (Blk.cell ((((((((A2.out.far (a := ⟨w1.heap.size, 5, none⟩) ne2 _).set 0 _).set 1 _).set 2 _).set 3 _).set 4 _).set 5 _)) 2) (Blk.cell ((((((((A2.out.far (a := ⟨w1.heap.size, 5, none⟩) ne2 _).set 0 _).set 1 _).set 2 _).set 3 _).set 4 _).set 5 _)) 3) (Blk.cell ((((((((A2.out.far (a := ⟨w1.heap.size, 5, none⟩) ne2 _).set 0 _).set 1 _).set 2 _).set 3 _).set 4 _).set 5 _)) 4) (Blk.cell ((((((((A2.out.far (a := ⟨w1.heap.size, 5, none⟩) ne2 _).set 0 _).set 1 _).set 2 _).set 3 _).set 4 _).set 5 _)) 5)
  · refine OwB.mono (B := w1.heap.size + 1) ?_ (by omega)
    repeat' (refine OwB.farC ?_ (by simp; try omega) _)
    exact O2.out
  · repeat' (refine Below.setCell ?_ (by simp; try omega) _)
    exact B2
theorem cpNext_nil (w : World) : Calls Try.prog 144 #[.pointer none] w fun e w' => e = .returned (.tuple #[(Acc.mk 0 0 0 0 0 (.slice none 0 0)).V, .bool false]) ∧ Below w.heap.size w w' := by
  go_enter Try.func144, Try.ntmps144
  go_wp2
  refine bodyPost_ret (v := .tuple #[(Acc.mk 0 0 0 0 0 (.slice none 0 0)).V, .bool false]) ?_ rfl ⟨rfl, ?_⟩
  · rw [results_cell_tmp rfl]
    go_simp
    first | done | exact ⟨rfl, rfl⟩ | rfl
  · go_grown
theorem cpTake_nil (x : Int) (d : Bool) (s0 : Option Addr) (sl sc : Nat) (w : World) : Calls Try.prog 145 #[.pointer none, .agg #[.int .u64 x, .bool d, .slice s0 sl sc]] w fun e w' => e = .returned (.tuple #[]) ∧ Below w.heap.size w w' := by
  go_enter Try.func145, Try.ntmps145
  go_wp2
  go_end0
  exact ⟨rfl, by go_grown⟩
/-- Take, where what it goes on with is known. -/
theorem cpTake_any (q : Nat) (c : Acc) (f : Nat) (cap : Array Value) (r : List Value) (v : Int) (d : Bool) (s0 : Option Addr) (sl sc : Nat) (w : World) (h : Mch w q c (.func (.func f) #[] cap) r)
    (hen : ∀ w1, (callFunc f (#[.agg #[.int .u64 v, .bool d, .slice s0 sl sc]] ++ cap)).run Try.prog w1 = .ok (.enter f (#[.agg #[.int .u64 v, .bool d, .slice s0 sl sc]] ++ cap)) w1) (Q : World → Prop)
    (hF : ∀ w1, Mch w1 q accZ .nilFunc r → Keep (· = q) w w1 → Calls Try.prog f (#[.agg #[.int .u64 v, .bool d, .slice s0 sl sc]] ++ cap) w1 fun e w' => e = .returned (.tuple #[]) ∧ Q w') :
    Calls Try.prog 145 #[.pointer (some ⟨q, 0, none⟩), .agg #[.int .u64 v, .bool d, .slice s0 sl sc]] w fun e w' => e = .returned (.tuple #[]) ∧ Q w' := by
  have hlt := h.lt
  have H := Lib.hid h
  have HF := Lib.hid hF
  have HE := Lib.hid hen
  clear h hF hen
  go_enter Try.func145, Try.ntmps145
  go_wp2_with fail
  go_region_with ((go_at_call 63; refine (cTake_any q c f cap r v d s0 sl sc _ (Blk.drew (Blk.alloc H.out _)) HE.out Q (fun w1 m1 k1 => HF.out w1 m1 (((Keep.refl _ w).alloc _).drew.trans k1))).mono ?_; rintro e w' ⟨rfl, hQ⟩))
  go_wp2
  go_end0
  exact ⟨rfl, hQ⟩
end Go.Proofs.Ytknahaaefmlcpaa
