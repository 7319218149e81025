/- The walk of HeadFrames. Conditions: the numbers are in their kinds' ranges. -/
import Derived.Test.YtabifjolocmonaaHl
import Derived.Test.YtabifjolocmonaaHi
import Derived.Deep.CutRange
import Derived.Laws.StructEq
namespace Go.Proofs.Ytabifjolocmonaa
set_option maxRecDepth 100000
open Go.RowKit
set_option linter.unusedVariables false
set_option linter.unusedSimpArgs false
theorem eqW4 (a b c d : Int) (w : World) : (Op.equalIn 10000 36 (.agg #[.int .u64 a, .int .u64 b, .int .u64 c, .int .u64 d]) (.agg #[.int .u64 a, .int .u64 b, .int .u64 c, .int .u64 d])).run Try.prog w = .ok true w := by
  rw [show (10000 : Nat) = 9999 + 1 from rfl, Op.equalIn]
  simp only [Sem.run_bind, run_underlying Try.underlying36, Result.andThen_ok]
  simp only [Std.Legacy.Range.forIn_eq_forIn_range', Std.Legacy.Range.size, Nat.sub_zero, Nat.add_sub_cancel, Nat.div_one, List.range'_succ, List.range'_zero, List.forIn_cons, List.forIn_nil]
  go_simp
theorem eqFr (l v g y o s t m r : Int) (w : World) : (Op.equalIn 10000 35 (.agg #[.int .i32 l, .int .u8 v, .int .u8 g, .int .u16 y, .int .i32 o, .int .i32 s, .int .i32 t, .int .i32 m, .int .u64 r]) (.agg #[.int .i32 l, .int .u8 v, .int .u8 g, .int .u16 y, .int .i32 o, .int .i32 s, .int .i32 t, .int .i32 m, .int .u64 r])).run Try.prog w = .ok true w := by
  have hS : Try.prog.underlying 35 = some (.struct (Try.prog.fieldsOf 35)) := by kernel_rfl
  rw [show (10000 : Nat) = 9999 + 1 from rfl, run_equalIn_agg w 9999 35 _ _ hS (by kernel_rfl)]
  simp only [Program.fieldsOf, Try.underlying35]
  go_simp
theorem s26 {w : World} {B C D E : Nat} {f : Frm} {a b c d : Int} (h1 : Blk w B f.cs) (h2 : Blk w C [.int .u64 (a), .int .u64 (b), .int .u64 (c), .int .u64 (d)]) (h3 : Blk w D [.int .u64 (wd0 f), .int .u64 (recS f.o f.s), .int .u64 (recS f.t f.m), .int .u64 (f.r)]) (h4 : Blk w E (frmW a b c d).cs) : w.cell? ⟨B, 0, none⟩ = some (.int .i32 (f.l)) ∧ w.cell? ⟨B, 1, none⟩ = some (.int .u8 (f.v)) ∧ w.cell? ⟨B, 2, none⟩ = some (.int .u8 (f.g)) ∧ w.cell? ⟨B, 3, none⟩ = some (.int .u16 (f.y)) ∧ w.cell? ⟨B, 4, none⟩ = some (.int .i32 (f.o)) ∧ w.cell? ⟨B, 5, none⟩ = some (.int .i32 (f.s)) ∧ w.cell? ⟨B, 6, none⟩ = some (.int .i32 (f.t)) ∧ w.cell? ⟨B, 7, none⟩ = some (.int .i32 (f.m)) ∧ w.cell? ⟨B, 8, none⟩ = some (.int .u64 (f.r)) ∧ w.cell? ⟨C, 0, none⟩ = some (.int .u64 (a)) ∧ w.cell? ⟨C, 1, none⟩ = some (.int .u64 (b)) ∧ w.cell? ⟨C, 2, none⟩ = some (.int .u64 (c)) ∧ w.cell? ⟨C, 3, none⟩ = some (.int .u64 (d)) ∧ w.cell? ⟨D, 0, none⟩ = some (.int .u64 (wd0 f)) ∧ w.cell? ⟨D, 1, none⟩ = some (.int .u64 (recS f.o f.s)) ∧ w.cell? ⟨D, 2, none⟩ = some (.int .u64 (recS f.t f.m)) ∧ w.cell? ⟨D, 3, none⟩ = some (.int .u64 (f.r)) ∧ w.cell? ⟨E, 0, none⟩ = some (.int .i32 ((frmW a b c d).l)) ∧ w.cell? ⟨E, 1, none⟩ = some (.int .u8 ((frmW a b c d).v)) ∧ w.cell? ⟨E, 2, none⟩ = some (.int .u8 ((frmW a b c d).g)) ∧ w.cell? ⟨E, 3, none⟩ = some (.int .u16 ((frmW a b c d).y)) ∧ w.cell? ⟨E, 4, none⟩ = some (.int .i32 ((frmW a b c d).o)) ∧ w.cell? ⟨E, 5, none⟩ = some (.int .i32 ((frmW a b c d).s)) ∧ w.cell? ⟨E, 6, none⟩ = some (.int .i32 ((frmW a b c d).t)) ∧ w.cell? ⟨E, 7, none⟩ = some (.int .i32 ((frmW a b c d).m)) ∧ w.cell? ⟨E, 8, none⟩ = some (.int .u64 ((frmW a b c d).r)) :=
  ⟨h1.cell 0, h1.cell 1, h1.cell 2, h1.cell 3, h1.cell 4, h1.cell 5, h1.cell 6, h1.cell 7, h1.cell 8, h2.cell 0, h2.cell 1, h2.cell 2, h2.cell 3, h3.cell 0, h3.cell 1, h3.cell 2, h3.cell 3, h4.cell 0, h4.cell 1, h4.cell 2, h4.cell 3, h4.cell 4, h4.cell 5, h4.cell 6, h4.cell 7, h4.cell 8⟩
set_option maxHeartbeats 1000000 in
theorem headFrames_walk (f : Frm) (a b c d : Int) (w : World) (h : f.Ok) (ha : 0 ≤ a ∧ a ≤ 18446744073709551615) (hb : 0 ≤ b ∧ b ≤ 18446744073709551615) (hc : 0 ≤ c ∧ c ≤ 18446744073709551615) (hd : 0 ≤ d ∧ d ≤ 18446744073709551615) :
    Calls Try.prog 5 #[.agg #[.int .i32 (f.l), .int .u8 (f.v), .int .u8 (f.g), .int .u16 (f.y), .int .i32 (f.o), .int .i32 (f.s), .int .i32 (f.t), .int .i32 (f.m), .int .u64 (f.r)], .agg #[.int .u64 (a), .int .u64 (b), .int .u64 (c), .int .u64 (d)]] w fun e w' => e = .returned (.bool true) ∧ Below w.heap.size w w' := by
  have HOK := Lib.hid h
  have HGK := Lib.hid (frmW_ok (a := a) (b := b) (c := c) hd)
  have HA := Lib.hid ha
  have HBb := Lib.hid hb
  have HCc := Lib.hid hc
  have HDd := Lib.hid hd
  have HX0 := Lib.hid (wd0_bd h)
  have HX1 := Lib.hid (recS_bd f.o f.s)
  have HX2 := Lib.hid (recS_bd f.t f.m)
  have HX3 := Lib.hid h.r
  have HFW := Lib.hid (frm_wds h)
  have HWF := Lib.hid (wds_frm (d := d) ha hb hc)
  clear h ha hb hc hd
  have qW := eqW4
  have qF := eqFr
  go_enter Try.func5, Try.ntmps5
  go_wp2_with fail
  have R0 := Lib.hid (show Blk ((w.alloc (Obj.cells #[.int .i32 (f.l), .int .u8 (f.v), .int .u8 (f.g), .int .u16 (f.y), .int .i32 (f.o), .int .i32 (f.s), .int .i32 (f.t), .int .i32 (f.m), .int .u64 (f.r)] 35)).alloc (Obj.cells #[.int .u64 (a), .int .u64 (b), .int .u64 (c), .int .u64 (d)] 36)) w.heap.size f.cs from Blk.alloc (Blk.made w _ _) _)
  have R1 := Lib.hid (show Blk ((w.alloc (Obj.cells #[.int .i32 (f.l), .int .u8 (f.v), .int .u8 (f.g), .int .u16 (f.y), .int .i32 (f.o), .int .i32 (f.s), .int .i32 (f.t), .int .i32 (f.m), .int .u64 (f.r)] 35)).alloc (Obj.cells #[.int .u64 (a), .int .u64 (b), .int .u64 (c), .int .u64 (d)] 36)) (w.heap.size + 1) [.int .u64 (a), .int .u64 (b), .int .u64 (c), .int .u64 (d)] from by simpa using Blk.made (w.alloc (Obj.cells #[.int .i32 (f.l), .int .u8 (f.v), .int .u8 (f.g), .int .u16 (f.y), .int .i32 (f.o), .int .i32 (f.s), .int .i32 (f.t), .int .i32 (f.m), .int .u64 (f.r)] 35)) #[.int .u64 (a), .int .u64 (b), .int .u64 (c), .int .u64 (d)] 36)
  obtain ⟨w0, hw0⟩ : ∃ w0, w0 = ((w.alloc (Obj.cells #[.int .i32 (f.l), .int .u8 (f.v), .int .u8 (f.g), .int .u16 (f.y), .int .i32 (f.o), .int .i32 (f.s), .int .i32 (f.t), .int .i32 (f.m), .int .u64 (f.r)] 35)).alloc (Obj.cells #[.int .u64 (a), .int .u64 (b), .int .u64 (c), .int .u64 (d)] 36)) := ⟨_, rfl⟩
  have B0 : Below w.heap.size w w0 := by rw [hw0]; go_grown
  have z0 : w0.heap.size = w.heap.size + 1 + 1 := by rw [hw0]; simp
  rw [← hw0] at R0 R1 ⊢
  clear hw0
  refine (fixed03_any _).mono ?_
  rintro e w1 ⟨rfl, rfl⟩
  obtain ⟨f0, f1, f2, f3, f4, f5, f6, f7, f8⟩ := frm_cells R0.out
  go_wp2_with fail
  clear f0 f1 f2 f3 f4 f5 f6 f7 f8
  refine (hWords_any f _ HOK.out).mono ?_
  rintro e w2 ⟨rfl, b2⟩
  have R0 := Lib.hid (R0.out.below b2 (by omega))
  have R1 := Lib.hid (R1.out.below b2 (by omega))
  have z2 := b2.size
  have B2 := Lib.hid (B0.trans (b2.mono (by omega)))
  clear b2 B0
  have g0 := R1.out.cell 0
  have g1 := R1.out.cell 1
  have g2 := R1.out.cell 2
  have g3 := R1.out.cell 3
  simp only [List.getElem?_cons_zero, List.getElem?_cons_succ] at g0 g1 g2 g3
  have y1 : w.heap.size + 1 < w2.heap.size := by omega
  have y0 : w.heap.size < w2.heap.size := by omega
  go_wp2_with fail
  clear g0 g1 g2 g3
  have R2 := Lib.hid (Blk.made w2 #[.int .u64 (wd0 f), .int .u64 (recS f.o f.s), .int .u64 (recS f.t f.m), .int .u64 (f.r)] 36)
  have R0 := Lib.hid (R0.out.alloc (.cells #[.int .u64 (wd0 f), .int .u64 (recS f.o f.s), .int .u64 (recS f.t f.m), .int .u64 (f.r)] 36))
  have R1 := Lib.hid (R1.out.alloc (.cells #[.int .u64 (wd0 f), .int .u64 (recS f.o f.s), .int .u64 (recS f.t f.m), .int .u64 (f.r)] 36))
  refine (hFrame_any a b c d _ HA.out HBb.out HCc.out HDd.out).mono ?_
  rintro e w3 ⟨rfl, b3⟩
  have z3 := b3.size
  rw [World.size_alloc] at z3
  have R0 := Lib.hid (R0.out.below b3 (by rw [World.size_alloc]; omega))
  have R1 := Lib.hid (R1.out.below b3 (by rw [World.size_alloc]; omega))
  have R2 := Lib.hid (R2.out.below b3 (by rw [World.size_alloc]; omega))
  have B3 := Lib.hid ((B2.out.alloc (by omega) (.cells #[.int .u64 (wd0 f), .int .u64 (recS f.o f.s), .int .u64 (recS f.t f.m), .int .u64 (f.r)] 36)).trans (b3.mono (by rw [World.size_alloc]; omega)))
  clear b3 B2
  go_upto_region 5 with fail
  obtain ⟨w4, hw4⟩ : ∃ w4, w4 = w3.alloc (Obj.cells #[.int .i32 ((frmW a b c d).l), .int .u8 ((frmW a b c d).v), .int .u8 ((frmW a b c d).g), .int .u16 ((frmW a b c d).y), .int .i32 ((frmW a b c d).o), .int .i32 ((frmW a b c d).s), .int .i32 ((frmW a b c d).t), .int .i32 ((frmW a b c d).m), .int .u64 ((frmW a b c d).r)] 35) := ⟨_, rfl⟩
  have R0 := Lib.hid (show Blk w4 w.heap.size f.cs by rw [hw4]; exact R0.out.alloc _)
  have R1 := Lib.hid (show Blk w4 (w.heap.size + 1) [.int .u64 (a), .int .u64 (b), .int .u64 (c), .int .u64 (d)] by rw [hw4]; exact R1.out.alloc _)
  have R2 := Lib.hid (show Blk w4 w2.heap.size [.int .u64 (wd0 f), .int .u64 (recS f.o f.s), .int .u64 (recS f.t f.m), .int .u64 (f.r)] by rw [hw4]; exact R2.out.alloc _)
  have R3 := Lib.hid (show Blk w4 w3.heap.size (frmW a b c d).cs by rw [hw4]; exact Blk.made w3 _ _)
  have B4 : Below w.heap.size w w4 := by rw [hw4]; exact B3.out.alloc (by omega) _
  have z4 : w4.heap.size = w3.heap.size + 1 := by rw [hw4]; simp
  rw [← hw4]
  clear hw4 B3
  refine wp_region_held_drew (S := fun w' => w'.cell? ⟨w.heap.size, 0, none⟩ = some (.int .i32 (f.l)) ∧ w'.cell? ⟨w.heap.size, 1, none⟩ = some (.int .u8 (f.v)) ∧ w'.cell? ⟨w.heap.size, 2, none⟩ = some (.int .u8 (f.g)) ∧ w'.cell? ⟨w.heap.size, 3, none⟩ = some (.int .u16 (f.y)) ∧ w'.cell? ⟨w.heap.size, 4, none⟩ = some (.int .i32 (f.o)) ∧ w'.cell? ⟨w.heap.size, 5, none⟩ = some (.int .i32 (f.s)) ∧ w'.cell? ⟨w.heap.size, 6, none⟩ = some (.int .i32 (f.t)) ∧ w'.cell? ⟨w.heap.size, 7, none⟩ = some (.int .i32 (f.m)) ∧ w'.cell? ⟨w.heap.size, 8, none⟩ = some (.int .u64 (f.r)) ∧ w'.cell? ⟨w.heap.size + 1, 0, none⟩ = some (.int .u64 (a)) ∧ w'.cell? ⟨w.heap.size + 1, 1, none⟩ = some (.int .u64 (b)) ∧ w'.cell? ⟨w.heap.size + 1, 2, none⟩ = some (.int .u64 (c)) ∧ w'.cell? ⟨w.heap.size + 1, 3, none⟩ = some (.int .u64 (d)) ∧ w'.cell? ⟨w2.heap.size, 0, none⟩ = some (.int .u64 (wd0 f)) ∧ w'.cell? ⟨w2.heap.size, 1, none⟩ = some (.int .u64 (recS f.o f.s)) ∧ w'.cell? ⟨w2.heap.size, 2, none⟩ = some (.int .u64 (recS f.t f.m)) ∧ w'.cell? ⟨w2.heap.size, 3, none⟩ = some (.int .u64 (f.r)) ∧ w'.cell? ⟨w3.heap.size, 0, none⟩ = some (.int .i32 ((frmW a b c d).l)) ∧ w'.cell? ⟨w3.heap.size, 1, none⟩ = some (.int .u8 ((frmW a b c d).v)) ∧ w'.cell? ⟨w3.heap.size, 2, none⟩ = some (.int .u8 ((frmW a b c d).g)) ∧ w'.cell? ⟨w3.heap.size, 3, none⟩ = some (.int .u16 ((frmW a b c d).y)) ∧ w'.cell? ⟨w3.heap.size, 4, none⟩ = some (.int .i32 ((frmW a b c d).o)) ∧ w'.cell? ⟨w3.heap.size, 5, none⟩ = some (.int .i32 ((frmW a b c d).s)) ∧ w'.cell? ⟨w3.heap.size, 6, none⟩ = some (.int .i32 ((frmW a b c d).t)) ∧ w'.cell? ⟨w3.heap.size, 7, none⟩ = some (.int .i32 ((frmW a b c d).m)) ∧ w'.cell? ⟨w3.heap.size, 8, none⟩ = some (.int .u64 ((frmW a b c d).r))) (by kernel_rfl) ?_ (fun hHeld => ?_)
  · try dsimp only
    exact s26 (Blk.drew R0.out) (Blk.drew R1.out) (Blk.drew R2.out) (Blk.drew R3.out)
  refine wpAnyH_take (i := 0) (v := ?_) rfl (by kernel_rfl) (by kernel_rfl) (by kernel_rfl) (fun _ _ _ h => h) (Or.inl ⟨by rfl, ?_⟩) (by assumption) ?_
  rotate_left
  · intro w0 hSw
    (try dsimp only at hSw)
    go_simp
    try with_reducible rfl
  try simp only [Act.put, List.getElem_toArray, List.getElem_cons_zero, List.getElem_cons_succ, List.setIfInBounds_toArray, List.set_cons_zero, List.set_cons_succ]
  refine wpAnyH_take (i := 1) (v := ?_) rfl (by kernel_rfl) (by kernel_rfl) (by kernel_rfl) (fun _ _ _ h => h) (Or.inl ⟨by rfl, ?_⟩) (by assumption) ?_
  rotate_left
  · intro w0 hSw
    (try dsimp only at hSw)
    go_simp
    try with_reducible rfl
  try simp only [Act.put, List.getElem_toArray, List.getElem_cons_zero, List.getElem_cons_succ, List.setIfInBounds_toArray, List.set_cons_zero, List.set_cons_succ]
  refine wpAnyH_ready (rs := [2]) (by kernel_rfl) (by simp) ?_
  refine AllReadyH.cons rfl (fun K hK => ?_) AllReadyH.nil
  go_simp
  refine (refFWords_any f _ HOK.out).mono ?_
  rintro e w5 ⟨rfl, b5⟩
  have z5 := b5.size
  rw [World.size_drew] at z5
  have R0 := Lib.hid (Blk.below (Blk.drew R0.out) b5 (by rw [World.size_drew]; omega))
  have R1 := Lib.hid (Blk.below (Blk.drew R1.out) b5 (by rw [World.size_drew]; omega))
  have R2 := Lib.hid (Blk.below (Blk.drew R2.out) b5 (by rw [World.size_drew]; omega))
  have R3 := Lib.hid (Blk.below (Blk.drew R3.out) b5 (by rw [World.size_drew]; omega))
  have B5 := (bel_drewN 1 B4).trans (b5.mono (by rw [World.size_drew]; omega))
  clear b5
  go_wp2_with fail
  refine hK.out _ _ ?_ (fun hHeld => ?_)
  · try dsimp only
    exact s26 R0.out R1.out R2.out R3.out
  clear hK K
  try simp only [Act.put, List.getElem_toArray, List.getElem_cons_zero, List.getElem_cons_succ, List.setIfInBounds_toArray, List.set_cons_zero, List.set_cons_succ]
  refine wpAnyH_take (i := 3) (v := ?_) rfl (by kernel_rfl) (by kernel_rfl) (by kernel_rfl) (fun _ _ _ h => h) (Or.inl ⟨by rfl, ?_⟩) (by assumption) ?_
  rotate_left
  · intro w0 hSw
    (try dsimp only at hSw)
    go_simp
    try with_reducible rfl
  try simp only [Act.put, List.getElem_toArray, List.getElem_cons_zero, List.getElem_cons_succ, List.setIfInBounds_toArray, List.set_cons_zero, List.set_cons_succ]
  refine wpAnyH_take (i := 4) (v := ?_) rfl (by kernel_rfl) (by kernel_rfl) (by kernel_rfl) (fun _ _ _ h => h) (Or.inl ⟨by rfl, ?_⟩) (by assumption) ?_
  rotate_left
  · intro w0 hSw
    (try dsimp only at hSw)
    go_simp
    try with_reducible rfl
  try simp only [Act.put, List.getElem_toArray, List.getElem_cons_zero, List.getElem_cons_succ, List.setIfInBounds_toArray, List.set_cons_zero, List.set_cons_succ]
  refine wpAnyH_take (i := 5) (v := ?_) rfl (by kernel_rfl) (by kernel_rfl) (by kernel_rfl) (fun _ _ _ h => h) (Or.inl ⟨by rfl, ?_⟩) (by assumption) ?_
  rotate_left
  · intro w0 hSw
    (try dsimp only at hSw)
    go_simp
    try with_reducible rfl
  try simp only [Act.put, List.getElem_toArray, List.getElem_cons_zero, List.getElem_cons_succ, List.setIfInBounds_toArray, List.set_cons_zero, List.set_cons_succ]
  refine wpAnyH_take (i := 7) (v := ?_) rfl (by kernel_rfl) (by kernel_rfl) (by kernel_rfl) (fun _ _ _ h => h) (Or.inl ⟨by rfl, ?_⟩) (by assumption) ?_
  rotate_left
  · intro w0 hSw
    (try dsimp only at hSw)
    go_simp
    try with_reducible rfl
  try simp only [Act.put, List.getElem_toArray, List.getElem_cons_zero, List.getElem_cons_succ, List.setIfInBounds_toArray, List.set_cons_zero, List.set_cons_succ]
  refine wpAnyH_ready (rs := [6]) (by kernel_rfl) (by simp) ?_
  refine AllReadyH.cons rfl (fun K hK => ?_) AllReadyH.nil
  go_simp
  refine (hFrame_any _ _ _ _ _ HX0.out HX1.out HX2.out HX3.out).mono ?_
  rintro e w6 ⟨rfl, b6⟩
  have z6 := b6.size
  have R0 := Lib.hid (Blk.below (R0.out) b6 (by omega))
  have R1 := Lib.hid (Blk.below (R1.out) b6 (by omega))
  have R2 := Lib.hid (Blk.below (R2.out) b6 (by omega))
  have R3 := Lib.hid (Blk.below (R3.out) b6 (by omega))
  have B6 := (B5).trans (b6.mono (by omega))
  clear b6
  go_wp2_with fail
  rw [HFW.out]
  refine hK.out _ _ ?_ (fun hHeld => ?_)
  · try dsimp only
    exact s26 R0.out R1.out R2.out R3.out
  clear hK K
  try simp only [Act.put, List.getElem_toArray, List.getElem_cons_zero, List.getElem_cons_succ, List.setIfInBounds_toArray, List.set_cons_zero, List.set_cons_succ]
  refine wpAnyH_take (i := 8) (v := ?_) rfl (by kernel_rfl) (by kernel_rfl) (by kernel_rfl) (fun _ _ _ h => h) (Or.inl ⟨by rfl, ?_⟩) (by assumption) ?_
  rotate_left
  · intro w0 hSw
    (try dsimp only at hSw)
    go_simp
    try with_reducible rfl
  try simp only [Act.put, List.getElem_toArray, List.getElem_cons_zero, List.getElem_cons_succ, List.setIfInBounds_toArray, List.set_cons_zero, List.set_cons_succ]
  refine wpAnyH_take (i := 9) (v := ?_) rfl (by kernel_rfl) (by kernel_rfl) (by kernel_rfl) (fun _ _ _ h => h) (Or.inl ⟨by rfl, ?_⟩) (by assumption) ?_
  rotate_left
  · intro w0 hSw
    (try dsimp only at hSw)
    go_simp
    try with_reducible rfl
  try simp only [Act.put, List.getElem_toArray, List.getElem_cons_zero, List.getElem_cons_succ, List.setIfInBounds_toArray, List.set_cons_zero, List.set_cons_succ]
  refine wpAnyH_take (i := 10) (v := ?_) rfl (by kernel_rfl) (by kernel_rfl) (by kernel_rfl) (fun _ _ _ h => h) (Or.inl ⟨by rfl, ?_⟩) (by assumption) ?_
  rotate_left
  · intro w0 hSw
    (try dsimp only at hSw)
    go_simp
    try with_reducible rfl
  try simp only [Act.put, List.getElem_toArray, List.getElem_cons_zero, List.getElem_cons_succ, List.setIfInBounds_toArray, List.set_cons_zero, List.set_cons_succ]
  refine wpAnyH_take (i := 11) (v := ?_) rfl (by kernel_rfl) (by kernel_rfl) (by kernel_rfl) (fun _ _ _ h => h) (Or.inl ⟨by rfl, ?_⟩) (by assumption) ?_
  rotate_left
  · intro w0 hSw
    (try dsimp only at hSw)
    go_simp
    try with_reducible rfl
  try simp only [Act.put, List.getElem_toArray, List.getElem_cons_zero, List.getElem_cons_succ, List.setIfInBounds_toArray, List.set_cons_zero, List.set_cons_succ]
  refine wpAnyH_take (i := 12) (v := ?_) rfl (by kernel_rfl) (by kernel_rfl) (by kernel_rfl) (fun _ _ _ h => h) (Or.inl ⟨by rfl, ?_⟩) (by assumption) ?_
  rotate_left
  · intro w0 hSw
    (try dsimp only at hSw)
    go_simp
    try with_reducible rfl
  try simp only [Act.put, List.getElem_toArray, List.getElem_cons_zero, List.getElem_cons_succ, List.setIfInBounds_toArray, List.set_cons_zero, List.set_cons_succ]
  refine wpAnyH_ready (rs := [13]) (by kernel_rfl) (by simp) ?_
  refine AllReadyH.cons rfl (fun K hK => ?_) AllReadyH.nil
  go_simp
  refine (refFFrame_any a b c d _ HA.out HBb.out HCc.out HDd.out).mono ?_
  rintro e w7 ⟨rfl, b7⟩
  have z7 := b7.size
  have R0 := Lib.hid (Blk.below (R0.out) b7 (by omega))
  have R1 := Lib.hid (Blk.below (R1.out) b7 (by omega))
  have R2 := Lib.hid (Blk.below (R2.out) b7 (by omega))
  have R3 := Lib.hid (Blk.below (R3.out) b7 (by omega))
  have B7 := (B6).trans (b7.mono (by omega))
  clear b7
  go_wp2_with fail
  refine hK.out _ _ ?_ (fun hHeld => ?_)
  · try dsimp only
    exact s26 R0.out R1.out R2.out R3.out
  clear hK K
  try simp only [Act.put, List.getElem_toArray, List.getElem_cons_zero, List.getElem_cons_succ, List.setIfInBounds_toArray, List.set_cons_zero, List.set_cons_succ]
  refine wpAnyH_take (i := 14) (v := ?_) rfl (by kernel_rfl) (by kernel_rfl) (by kernel_rfl) (fun _ _ _ h => h) (Or.inl ⟨by rfl, ?_⟩) (by assumption) ?_
  rotate_left
  · intro w0 hSw
    (try dsimp only at hSw)
    go_simp
    try with_reducible rfl
  try simp only [Act.put, List.getElem_toArray, List.getElem_cons_zero, List.getElem_cons_succ, List.setIfInBounds_toArray, List.set_cons_zero, List.set_cons_succ]
  refine wpAnyH_take (i := 15) (v := ?_) rfl (by kernel_rfl) (by kernel_rfl) (by kernel_rfl) (fun _ _ _ h => h) (Or.inl ⟨by rfl, ?_⟩) (by assumption) ?_
  rotate_left
  · intro w0 hSw
    (try dsimp only at hSw)
    go_simp
    try with_reducible rfl
  try simp only [Act.put, List.getElem_toArray, List.getElem_cons_zero, List.getElem_cons_succ, List.setIfInBounds_toArray, List.set_cons_zero, List.set_cons_succ]
  refine wpAnyH_take (i := 16) (v := ?_) rfl (by kernel_rfl) (by kernel_rfl) (by kernel_rfl) (fun _ _ _ h => h) (Or.inl ⟨by rfl, ?_⟩) (by assumption) ?_
  rotate_left
  · intro w0 hSw
    (try dsimp only at hSw)
    go_simp
    try with_reducible rfl
  try simp only [Act.put, List.getElem_toArray, List.getElem_cons_zero, List.getElem_cons_succ, List.setIfInBounds_toArray, List.set_cons_zero, List.set_cons_succ]
  refine wpAnyH_take (i := 17) (v := ?_) rfl (by kernel_rfl) (by kernel_rfl) (by kernel_rfl) (fun _ _ _ h => h) (Or.inl ⟨by rfl, ?_⟩) (by assumption) ?_
  rotate_left
  · intro w0 hSw
    (try dsimp only at hSw)
    go_simp
    try with_reducible rfl
  try simp only [Act.put, List.getElem_toArray, List.getElem_cons_zero, List.getElem_cons_succ, List.setIfInBounds_toArray, List.set_cons_zero, List.set_cons_succ]
  refine wpAnyH_take (i := 19) (v := ?_) rfl (by kernel_rfl) (by kernel_rfl) (by kernel_rfl) (fun _ _ _ h => h) (Or.inl ⟨by rfl, ?_⟩) (by assumption) ?_
  rotate_left
  · intro w0 hSw
    (try dsimp only at hSw)
    go_simp
    try with_reducible rfl
  try simp only [Act.put, List.getElem_toArray, List.getElem_cons_zero, List.getElem_cons_succ, List.setIfInBounds_toArray, List.set_cons_zero, List.set_cons_succ]
  refine wpAnyH_ready (rs := [18]) (by kernel_rfl) (by simp) ?_
  refine AllReadyH.cons rfl (fun K hK => ?_) AllReadyH.nil
  go_simp
  refine (hWords_any (frmW a b c d) _ HGK.out).mono ?_
  rintro e w8 ⟨rfl, b8⟩
  have z8 := b8.size
  have R0 := Lib.hid (Blk.below (R0.out) b8 (by omega))
  have R1 := Lib.hid (Blk.below (R1.out) b8 (by omega))
  have R2 := Lib.hid (Blk.below (R2.out) b8 (by omega))
  have R3 := Lib.hid (Blk.below (R3.out) b8 (by omega))
  have B8 := (B7).trans (b8.mono (by omega))
  clear b8
  go_wp2_with fail
  obtain ⟨hw1, hw2, hw3, hw4⟩ := HWF.out
  rw [hw1, hw2, hw3, hw4]
  clear hw1 hw2 hw3 hw4
  refine hK.out _ _ ?_ (fun hHeld => ?_)
  · try dsimp only
    exact s26 R0.out R1.out R2.out R3.out
  clear hK K
  try simp only [Act.put, List.getElem_toArray, List.getElem_cons_zero, List.getElem_cons_succ, List.setIfInBounds_toArray, List.set_cons_zero, List.set_cons_succ]
  refine wpAnyH_take (i := 20) (v := ?_) rfl (by kernel_rfl) (by kernel_rfl) (by kernel_rfl) (fun _ _ _ h => h) (Or.inl ⟨by rfl, ?_⟩) (by assumption) ?_
  rotate_left
  · intro w0 hSw
    (try dsimp only at hSw)
    go_simp
    try with_reducible rfl
  try simp only [Act.put, List.getElem_toArray, List.getElem_cons_zero, List.getElem_cons_succ, List.setIfInBounds_toArray, List.set_cons_zero, List.set_cons_succ]
  refine wpAnyH_take (i := 21) (v := ?_) rfl (by kernel_rfl) (by kernel_rfl) (by kernel_rfl) (fun _ _ _ h => h) (Or.inl ⟨by rfl, ?_⟩) (by assumption) ?_
  rotate_left
  · intro w0 hSw
    (try dsimp only at hSw)
    go_simp
    try with_reducible rfl
  try simp only [Act.put, List.getElem_toArray, List.getElem_cons_zero, List.getElem_cons_succ, List.setIfInBounds_toArray, List.set_cons_zero, List.set_cons_succ]
  refine wpAnyH_take (i := 22) (v := ?_) rfl (by kernel_rfl) (by kernel_rfl) (by kernel_rfl) (fun _ _ _ h => h) (Or.inl ⟨by rfl, ?_⟩) (by assumption) ?_
  rotate_left
  · intro w0 hSw
    (try dsimp only at hSw)
    go_simp
    try with_reducible rfl
  try simp only [Act.put, List.getElem_toArray, List.getElem_cons_zero, List.getElem_cons_succ, List.setIfInBounds_toArray, List.set_cons_zero, List.set_cons_succ]
  refine wpAnyH_done (by kernel_rfl) ?_ _
  go_wp2
  go_ret
  exact ⟨rfl, B8⟩
end Go.Proofs.Ytabifjolocmonaa
