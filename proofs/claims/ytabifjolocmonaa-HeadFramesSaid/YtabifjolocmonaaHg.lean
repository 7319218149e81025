/- Frames: contracts of the reference's Bytes, Words, Frame. Conditions: the fields are in their kinds' ranges. -/
import Derived.Test.YtabifjolocmonaaHf
namespace Go.Proofs.Ytabifjolocmonaa
set_option maxRecDepth 100000
open Go.RowKit
set_option linter.unusedVariables false
set_option linter.unusedSimpArgs false
def u64w (x : Int) : Int := IntKind.u64.wrap x
/-- A frame's header's bytes. -/
def frB (f : Frm) : List Int := leB (u64w f.l) 4 ++ [f.v, f.g] ++ leB (u64w f.y) 2 ++ leB (u64w f.o) 4 ++ leB (u64w f.s) 4 ++ leB (u64w f.t) 4 ++ leB (u64w f.m) 4 ++ leB f.r 8
theorem frB_is {f : Frm} (h : f.Ok) : IsB (frB f) := by
  unfold frB
  refine (((((((leB_is _ _).append ?_).append (leB_is _ _)).append (leB_is _ _)).append (leB_is _ _)).append (leB_is _ _)).append (leB_is _ _)).append (leB_is _ _)
  intro x hx
  have hv := h.v
  have hg := h.g
  simp at hx
  rcases hx with rfl | rfl <;> omega
theorem frB_len (f : Frm) : (frB f).length = 32 := by simp [frB, leB_length]
def frO (f : Frm) : List Int := [f.o, f.s, f.t, f.m]
def frQ (f : Frm) : List Int := leB (u64w f.l) 4 ++ [f.v, f.g] ++ leB (u64w f.y) 2
def frP (os : List Int) (k : Nat) : List Int := (os.take k).flatMap fun x => leB (u64w x) 4
theorem frP_zero (os : List Int) : frP os 0 = [] := rfl
theorem frP_succ (f : Frm) (k : Nat) (h : k < 4) : frP (frO f) (k + 1) = frP (frO f) k ++ leB (u64w (gB (frO f) k)) 4 := by
  unfold frP
  rw [List.take_succ_eq_append_getElem (by simpa [frO] using h), List.flatMap_append]
  have : gB (frO f) k = (frO f)[k]'(by simpa [frO] using h) := by simp [gB, List.getD, frO, h]
  rw [this]
  simp
theorem frQP_len (f : Frm) (k : Nat) (h : k ≤ 4) : (frQ f ++ frP (frO f) k).length ≤ 100 := by
  match k, h with
  | 0, _ | 1, _ | 2, _ | 3, _ | 4, _ => simp [frQ, frP, frO, leB_length]
theorem frB_eq (f : Frm) : frB f = frQ f ++ frP (frO f) 4 ++ leB f.r 8 := by simp [frB, frQ, frP, frO]
theorem frO_cell {w : World} {ab : Nat} {f : Frm} (h : Blk w ab ((frO f).map (Value.int .i32))) (k : Nat) (hk : k < 4) : w.cell? ⟨ab, k, none⟩ = some (.int .i32 (gB (frO f) k)) := by
  rw [h.cell k]
  match k, hk with
  | 0, _ | 1, _ | 2, _ | 3, _ => rfl
theorem frO_bd {f : Frm} (h5 : -2147483648 ≤ f.o ∧ f.o ≤ 2147483647) (h6 : -2147483648 ≤ f.s ∧ f.s ≤ 2147483647) (h7 : -2147483648 ≤ f.t ∧ f.t ≤ 2147483647) (h8 : -2147483648 ≤ f.m ∧ f.m ≤ 2147483647) (k : Nat) (hk : k < 4) : -2147483648 ≤ gB (frO f) k ∧ gB (frO f) k ≤ 2147483647 := by
  match k, hk with
  | 0, _ => exact h5
  | 1, _ => exact h6
  | 2, _ => exact h7
  | 3, _ => exact h8
theorem frm_below {w w' : World} {B : Nat} {f : Frm} (h : Blk w B f.cs) (b : Below w.heap.size w w') : Blk w' B f.cs := h.below b h.lt
theorem own_slcG {B : Nat} {w : World} {v : Value} {l : List Int} (h : OwB 5 B w v l) : ∃ a n c, v = .slice a n c := by
  rcases h.2 with ⟨rfl, _⟩ | ⟨g, cap, cur, rfl, _⟩
  · exact ⟨_, _, _, rfl⟩
  · exact ⟨_, _, _, rfl⟩
theorem own_geG {B : Nat} {w : World} {v : Value} {l : List Int} (h : OwB 5 B w v l) : ∀ k, v.ownBlock = some k → B ≤ k := fun k hk => (World.ownsRow.lt h k hk).1
theorem grown_keepG {w w' : World} {v : Value} (h : w.grownBy w' v.ownBlock) : Keep (fun i => v.ownBlock = some i) w w' :=
  ⟨h.os, h.tape, h.output, h.size, fun k hk hm => h.block k hk (fun e => hm e.symm)⟩
theorem rd_two (w : World) (x y : Int) : RdB (w.alloc (Obj.cells #[Value.int IntKind.u8 x, Value.int IntKind.u8 y] 5)) (.slice (some ⟨w.heap.size, 0, none⟩) 2 2) [x, y] := by
  refine RdB.cells rfl (Nat.le_refl _) (by decide) fun i hi => ?_
  have e := Blk.cell (Blk.made w #[Value.int IntKind.u8 x, Value.int IntKind.u8 y] 5) (0 + i)
  rw [e]
  match i, hi with
  | 0, _ | 1, _ => rfl
set_option maxHeartbeats 4000000 in
theorem refFBytes_any (f : Frm) (w : World) (h : f.Ok) :
    Calls Try.prog 66 #[.agg #[.int .i32 f.l, .int .u8 f.v, .int .u8 f.g, .int .u16 f.y, .int .i32 f.o, .int .i32 f.s, .int .i32 f.t, .int .i32 f.m, .int .u64 f.r]] w fun e w' => ∃ v, e = .returned v ∧ OwB 5 w.heap.size w' v (frB f) ∧ Below w.heap.size w w' := by
  obtain ⟨h1, h2, h3, h4, h5, h6, h7, h8, h9⟩ := h
  go_enter Try.func66, Try.ntmps66
  go_wp2_with fail
  obtain ⟨wa, hwa⟩ : ∃ wa, wa = w.alloc (Obj.cells #[Value.int IntKind.i32 f.l, Value.int IntKind.u8 f.v, Value.int IntKind.u8 f.g, Value.int IntKind.u16 f.y, Value.int IntKind.i32 f.o, Value.int IntKind.i32 f.s, Value.int IntKind.i32 f.t, Value.int IntKind.i32 f.m, Value.int IntKind.u64 f.r] 35) := ⟨_, rfl⟩
  rw [← hwa]
  have La : Blk wa w.heap.size f.cs := by rw [hwa]; exact Blk.made w _ _
  have Ba : Below w.heap.size w wa := by rw [hwa]; exact (Below.refl _ _).alloc (Nat.le_refl _) _
  have za : w.heap.size < wa.heap.size := by rw [hwa, World.size_alloc]; omega
  clear hwa
  have HLa := Lib.hid La
  have WL : IntKind.i64.wrap f.l = f.l := IntWalk.i64_in _ ⟨by omega, by omega⟩
  have HBa := Lib.hid Ba
  obtain ⟨c0, c1, c2, c3, c4, c5, c6, c7, c8⟩ := frm_cells La
  clear La Ba
  refine wp_region_held_drew (S := (fun w' => w'.cell? ⟨w.heap.size, 0, none⟩ = some (.int .i32 f.l) ∧ w'.cell? ⟨w.heap.size, 1, none⟩ = some (.int .u8 f.v) ∧ w'.cell? ⟨w.heap.size, 2, none⟩ = some (.int .u8 f.g) ∧ w'.cell? ⟨w.heap.size, 3, none⟩ = some (.int .u16 f.y) ∧ w'.cell? ⟨w.heap.size, 4, none⟩ = some (.int .i32 f.o) ∧ w'.cell? ⟨w.heap.size, 5, none⟩ = some (.int .i32 f.s) ∧ w'.cell? ⟨w.heap.size, 6, none⟩ = some (.int .i32 f.t) ∧ w'.cell? ⟨w.heap.size, 7, none⟩ = some (.int .i32 f.m) ∧ w'.cell? ⟨w.heap.size, 8, none⟩ = some (.int .u64 f.r))) (by kernel_rfl) ?_ (fun hHeld => ?_)
  · try dsimp only
    go_keep
  refine wpAnyH_take (i := 0) (v := ?_) rfl (by kernel_rfl) (by kernel_rfl) (by kernel_rfl) (fun _ _ _ h => h) (Or.inl ⟨by rfl, ?_⟩) (by assumption) ?_
  rotate_left
  · intro w0 hSw
    (try dsimp only at hSw)
    go_simp
    try with_reducible rfl
  simp only [Act.put, List.getElem_toArray, List.getElem_cons_zero, List.getElem_cons_succ, List.setIfInBounds_toArray, List.set_cons_zero, List.set_cons_succ]
  refine wpAnyH_take (i := 1) (v := ?_) rfl (by kernel_rfl) (by kernel_rfl) (by kernel_rfl) (fun _ _ _ h => h) (Or.inl ⟨by rfl, ?_⟩) (by assumption) ?_
  rotate_left
  · intro w0 hSw
    (try dsimp only at hSw)
    go_simp
    try with_reducible rfl
  simp only [Act.put, List.getElem_toArray, List.getElem_cons_zero, List.getElem_cons_succ, List.setIfInBounds_toArray, List.set_cons_zero, List.set_cons_succ]
  refine wpAnyH_take (i := 2) (v := ?_) rfl (by kernel_rfl) (by kernel_rfl) (by kernel_rfl) (fun _ _ _ h => h) (Or.inl ⟨by rfl, ?_⟩) (by assumption) ?_
  rotate_left
  · intro w0 hSw
    (try dsimp only at hSw)
    go_simp
    try with_reducible rfl
  simp only [Act.put, List.getElem_toArray, List.getElem_cons_zero, List.getElem_cons_succ, List.setIfInBounds_toArray, List.set_cons_zero, List.set_cons_succ]
  refine wpAnyH_take (i := 4) (v := ?_) rfl (by kernel_rfl) (by kernel_rfl) (by kernel_rfl) (fun _ _ _ h => h) (Or.inl ⟨by rfl, ?_⟩) (by assumption) ?_
  rotate_left
  · intro w0 hSw
    (try dsimp only at hSw)
    go_simp
    try with_reducible rfl
  simp only [Act.put, List.getElem_toArray, List.getElem_cons_zero, List.getElem_cons_succ, List.setIfInBounds_toArray, List.set_cons_zero, List.set_cons_succ]
  refine wpAnyH_take (i := 5) (v := ?_) rfl (by kernel_rfl) (by kernel_rfl) (by kernel_rfl) (fun _ _ _ h => h) (Or.inl ⟨by rfl, ?_⟩) (by assumption) ?_
  rotate_left
  · intro w0 hSw
    (try dsimp only at hSw)
    go_simp
    try with_reducible rfl
  simp only [Act.put, List.getElem_toArray, List.getElem_cons_zero, List.getElem_cons_succ, List.setIfInBounds_toArray, List.set_cons_zero, List.set_cons_succ]
  refine wpAnyH_take (i := 6) (v := ?_) rfl (by kernel_rfl) (by kernel_rfl) (by kernel_rfl) (fun _ _ _ h => h) (Or.inl ⟨by rfl, ?_⟩) (by assumption) ?_
  rotate_left
  · intro w0 hSw
    (try dsimp only at hSw)
    go_simp
    try with_reducible rfl
  simp only [Act.put, List.getElem_toArray, List.getElem_cons_zero, List.getElem_cons_succ, List.setIfInBounds_toArray, List.set_cons_zero, List.set_cons_succ]
  refine wpAnyH_take (i := 7) (v := ?_) rfl (by kernel_rfl) (by kernel_rfl) (by kernel_rfl) (fun _ _ _ h => h) (Or.inl ⟨by rfl, ?_⟩) (by assumption) ?_
  rotate_left
  · intro w0 hSw
    (try dsimp only at hSw)
    go_simp
    try with_reducible rfl
  simp only [Act.put, List.getElem_toArray, List.getElem_cons_zero, List.getElem_cons_succ, List.setIfInBounds_toArray, List.set_cons_zero, List.set_cons_succ]
  refine wpAnyH_ready (rs := [3, 8]) (by kernel_rfl) (by simp) ?_
  refine AllReadyH.cons rfl (fun K hK => ?_) (AllReadyH.cons rfl (fun K hK => ?_) AllReadyH.nil)
  · go_simp
    go_at_call 63
    refine (refbytes_any f.l 4 _ (by omega) (by omega) (by omega)).mono ?_
    rintro e w3 ⟨v3, rfl, o3, b3⟩
    obtain ⟨x3, n3, c3', rfl⟩ := own_slcG o3
    have z3 := b3.size
    simp at z3
    go_wp2_with fail
    refine hK.out _ _ ?_ (fun hHeld => ?_)
    · try dsimp only
      exact frm_cells (Blk.below (Blk.drew HLa.out) b3 (by simp; omega))
    clear hK K
    try simp only [Act.put, List.getElem_toArray, List.getElem_cons_zero, List.getElem_cons_succ, List.setIfInBounds_toArray, List.set_cons_zero, List.set_cons_succ]
    have L3 := Lib.hid (show Blk w3 w.heap.size f.cs from Blk.below (Blk.drew HLa.out) b3 (by simp; omega))
    have B3 := Lib.hid ((bel_drewN 1 HBa.out).trans (b3.mono (by simp; omega)))
    refine wpAnyH_ready (rs := [8]) (by kernel_rfl) (by simp) ?_
    refine AllReadyH.cons rfl (fun K hK => ?_) AllReadyH.nil
    go_simp
    refine hK.out _ _ ?_ (fun hHeld => ?_)
    · try dsimp only
      exact frm_cells (Blk.alloc L3.out _)
    clear hK K
    try simp only [Act.put, List.getElem_toArray, List.getElem_cons_zero, List.getElem_cons_succ, List.setIfInBounds_toArray, List.set_cons_zero, List.set_cons_succ]
    have LX := Lib.hid (Blk.alloc L3.out (Obj.cells #[Value.int IntKind.u8 f.v, Value.int IntKind.u8 f.g] 5))
    have BX := Lib.hid (B3.out.alloc (by omega) (Obj.cells #[Value.int IntKind.u8 f.v, Value.int IntKind.u8 f.g] 5))
    have HO := Lib.hid ((OwB.mono o3 (show w.heap.size + 1 ≤ _ by simp; omega)).below ((Below.refl _ _).alloc (Nat.le_refl _) (Obj.cells #[Value.int IntKind.u8 f.v, Value.int IntKind.u8 f.g] 5)))
    have HR := Lib.hid (rd_two w3 f.v f.g)
    clear o3 b3 c0 c1 c2 c3 c4 c5 c6 c7 c8
    have zx : w.heap.size < (w3.alloc (Obj.cells #[Value.int IntKind.u8 f.v, Value.int IntKind.u8 f.g] 5)).heap.size := by simp; omega
    refine wpAnyH_ready (rs := [9]) (by kernel_rfl) (by simp) ?_
    refine AllReadyH.cons rfl (fun K hK => ?_) AllReadyH.nil
    refine wp_app (.tmp 9) (.tmp 14) rfl (w.heap.size + 1) _ _ _ _ rfl HO.out rfl HR.out (by simp [leB_length]) (by omega) ?_
    intro v4 w4 p4
    obtain ⟨x4, n4, c4', rfl⟩ := own_slcG p4.1
    have L4 : Blk w4 w.heap.size f.cs := Blk.keep LX.out (grown_keepG p4.2.1) (fun e => by have := own_geG HO.out _ e; omega)
    have B4 : Below w.heap.size w w4 := BX.out.grown p4.2.1 (by omega) (fun k hk => by have := own_geG HO.out k hk; omega)
    have z4 := p4.2.1.size
    have HO4 := Lib.hid p4.1
    have HL4 := Lib.hid L4
    have HB4 := Lib.hid B4
    clear p4 HO HR LX BX
    refine hK.out _ _ ?_ (fun hHeld => ?_)
    · try dsimp only
      exact frm_cells HL4.out
    clear hK K
    try simp only [Act.put, List.getElem_toArray, List.getElem_cons_zero, List.getElem_cons_succ, List.setIfInBounds_toArray, List.set_cons_zero, List.set_cons_succ]
    refine wpAnyH_take (i := 10) (v := ?_) rfl (by kernel_rfl) (by kernel_rfl) (by kernel_rfl) (fun _ _ _ h => h) (Or.inl ⟨by rfl, ?_⟩) (by assumption) ?_
    rotate_left
    · intro w0 hSw
      (try dsimp only at hSw)
      go_simp
      try with_reducible rfl
    simp only [Act.put, List.getElem_toArray, List.getElem_cons_zero, List.getElem_cons_succ, List.setIfInBounds_toArray, List.set_cons_zero, List.set_cons_succ]
    refine wpAnyH_done (by kernel_rfl) ?_ _
    clear hHeld
    obtain ⟨c0, c1, c2, c3, c4, c5, c6, c7, c8⟩ := frm_cells HL4.out
    clear c0 c1 c2
    go_wp2_with fail
    refine (refbytes_any f.y 2 _ (by omega) (by omega) (by omega)).mono ?_
    rintro e w5 ⟨v5, rfl, o5, b5⟩
    obtain ⟨x5, n5, c5', rfl⟩ := own_slcG o5
    have z5 := b5.size
    have L5 := Lib.hid (HL4.out.below b5 (by omega))
    have B5 := Lib.hid (HB4.out.trans (b5.mono (by omega)))
    have O5 := Lib.hid (HO4.out.below b5)
    have R5 := Lib.hid o5.rd
    clear o5 b5 HL4 HB4 HO4 c3 c4 c5 c6 c7 c8
    go_wp2_with (refine list_app rfl (.tmp 16) (.tmp 20) rfl (w.heap.size + 1) _ _ _ _ rfl O5.out rfl R5.out (by simp [leB_length]) (by omega) ?_)
    intro v6 w6 p6
    obtain ⟨x6, n6, c6', rfl⟩ := own_slcG p6.1
    have z6 := p6.2.1.size
    have O6 := Lib.hid p6.1
    have L6 := Lib.hid (show Blk w6 w.heap.size f.cs from Blk.keep L5.out (grown_keepG p6.2.1) (fun e => by have := own_geG O5.out _ e; omega))
    have B6 := Lib.hid (B5.out.grown p6.2.1 (by omega) (fun k hk => by have := own_geG O5.out k hk; omega))
    clear p6 L5 B5 O5 R5
    obtain ⟨c0, c1, c2, c3, c4, c5, c6, c7, c8⟩ := frm_cells L6.out
    clear c0 c1 c2 c3
    go_wp2_with fail
    clear c4 c5 c6 c7 c8
    obtain ⟨w7, hw7⟩ : ∃ w7, w7 = w6.alloc (Obj.cells #[Value.int IntKind.i32 f.o, Value.int IntKind.i32 f.s, Value.int IntKind.i32 f.t, Value.int IntKind.i32 f.m] 21) := ⟨_, rfl⟩
    rw [← hw7]
    have b7 : Below w6.heap.size w6 w7 := by rw [hw7]; exact (Below.refl _ _).alloc (Nat.le_refl _) _
    have A7 := Lib.hid (show Blk w7 w6.heap.size ((frO f).map (Value.int .i32)) by rw [hw7]; exact Blk.made w6 _ _)
    have z7 : w6.heap.size < w7.heap.size := by rw [hw7, World.size_alloc]; omega
    have O7 := Lib.hid (O6.out.below b7)
    have N7 := Lib.hid (show (Value.slice x6 n6 c6').ownBlock ≠ some w6.heap.size from fun e => by have := (World.ownsRow.lt O6.out _ e).2; omega)
    have L7 := Lib.hid (L6.out.below b7 (by omega))
    have B7 := Lib.hid (B6.out.trans (b7.mono (by omega)))
    obtain ⟨ab, hab⟩ : ∃ ab, ab = w6.heap.size := ⟨_, rfl⟩
    rw [← hab] at A7 N7 z7
    rw [← hab]
    clear hw7 b7 O6 L6 B6 L4 B4 hab
    go_loopw [3, 32] (fun ov i wr => ∃ k : Nat, k ≤ 4 ∧ i = .int .i64 k ∧ (∃ a n c, ov = .slice a n c ∧ OwB 5 (w.heap.size + 1) wr (.slice a n c) (frQ f ++ frP (frO f) k) ∧ (Value.slice a n c).ownBlock ≠ some ab) ∧ Blk wr ab ((frO f).map (Value.int .i32)) ∧ Blk wr w.heap.size f.cs ∧ Below w.heap.size w wr) (fun _ i _ => 4 - (intOf i).toNat)
    case atStart => exact ⟨0, by omega, rfl, ⟨_, _, _, rfl, by rw [frP_zero, List.append_nil]; exact O7.out, N7.out⟩, A7.out, L7.out, B7.out⟩
    case round =>
      obtain ⟨k, hk, rfl, ⟨xa, xn, xc, rfl, hO, hN⟩, hA, hL, hB⟩ := hrel
      have HO := Lib.hid hO
      have HN := Lib.hid hN
      have HA := Lib.hid hA
      have HL := Lib.hid hL
      have HB := Lib.hid hB
      have zr := hL.lt
      have zab := hA.lt
      have hlen : (frQ f ++ frP (frO f) k).length ≤ 100 := frQP_len f k hk
      by_cases hlt : k < 4
      · have hcell := frO_cell hA k hlt
        have hbd := frO_bd h5 h6 h7 h8 k hlt
        obtain ⟨ev, hev⟩ : ∃ ev, ev = gB (frO f) k := ⟨_, rfl⟩
        rw [← hev] at hcell hbd
        have HE := Lib.hid hev
        obtain ⟨e1, e2⟩ := hbd
        clear hO hN hA hL hB hev
        go_wp2_with fail
        refine (refbytes_any ev 4 _ (by omega) (by omega) (by omega)).mono ?_
        rintro e w8 ⟨v8, rfl, o8, b8⟩
        obtain ⟨x8, n8, c8', rfl⟩ := own_slcG o8
        have z8 := b8.size
        have O8 := Lib.hid (HO.out.below b8)
        have A8 := Lib.hid (HA.out.below b8 zab)
        have L8 := Lib.hid (HL.out.below b8 zr)
        have B8 := Lib.hid (HB.out.trans (b8.mono (by omega)))
        have R8 := Lib.hid o8.rd
        clear o8 b8 HO HA HL HB hcell
        go_wp2_with (refine list_app rfl (.tmp 36) (.tmp 39) rfl (w.heap.size + 1) _ _ _ _ rfl O8.out rfl R8.out (by rw [leB_length]; omega) (by omega) ?_)
        intro v9 w9 p9
        obtain ⟨x9, n9, c9', rfl⟩ := own_slcG p9.1
        have z9 := p9.2.1.size
        have O9 := Lib.hid p9.1
        have N9 := Lib.hid (show (Value.slice x9 n9 c9').ownBlock ≠ some ab from fun e => by
          rcases p9.2.2 with h | h
          · exact HN.out (h ▸ e)
          · rw [h] at e
            cases e
            omega)
        have A9 := Lib.hid (A8.out.keep (grown_keepG p9.2.1) (fun e => HN.out e))
        have L9 := Lib.hid (L8.out.keep (grown_keepG p9.2.1) (fun e => by have := own_geG O8.out _ e; omega))
        have B9 := Lib.hid (B8.out.grown p9.2.1 (by omega) (fun k hk => by have := own_geG O8.out k hk; omega))
        clear p9 O8 A8 L8 B8 R8
        go_wp2
        refine ⟨⟨k + 1, by omega, by go_num, ⟨_, _, _, rfl, ?_, N9.out⟩, A9.out, L9.out, B9.out⟩, by simp [intOf]; omega⟩
        rw [frP_succ f k hlt, ← List.append_assoc, ← HE.out]
        exact O9.out
      · obtain rfl : k = 4 := by omega
        clear hlt hk hO hN hA hL hB
        obtain ⟨c0, c1, c2, c3, c4, c5, c6, c7, c8⟩ := frm_cells HL.out
        clear c0 c1 c2 c3 c4 c5 c6 c7
        go_wp2_with fail
        refine (refBytes_any f.r 8 _ (by omega) (by omega) (by omega)).mono ?_
        rintro e w8 ⟨v8, rfl, o8, b8⟩
        obtain ⟨x8, n8, c8', rfl⟩ := own_slcG o8
        have z8 := b8.size
        have O8 := Lib.hid (HO.out.below b8)
        have B8 := Lib.hid (HB.out.trans (b8.mono (by omega)))
        have R8 := Lib.hid o8.rd
        clear o8 b8 HO HL HB c8
        go_wp2_with (refine list_app rfl (.tmp 42) (.tmp 45) rfl (w.heap.size + 1) _ _ _ _ rfl O8.out rfl R8.out (by rw [leB_length]; omega) (by omega) ?_)
        intro v9 w9 p9
        obtain ⟨x9, n9, c9', rfl⟩ := own_slcG p9.1
        have O9 := Lib.hid p9.1
        have B9 := Lib.hid (B8.out.grown p9.2.1 (by omega) (fun k hk => by have := own_geG O8.out k hk; omega))
        clear p9 O8 B8 R8
        go_wp2
        go_ret
        exact ⟨_, rfl, by rw [frB_eq]; exact O9.out.mono (by omega), B9.out⟩
  · go_simp
    refine hK.out _ _ ?_ (fun hHeld => ?_)
    · try dsimp only
      exact frm_cells (Blk.drew (Blk.alloc HLa.out _))
    clear hK K
    try simp only [Act.put, List.getElem_toArray, List.getElem_cons_zero, List.getElem_cons_succ, List.setIfInBounds_toArray, List.set_cons_zero, List.set_cons_succ]
    refine wpAnyH_ready (rs := [3]) (by kernel_rfl) (by simp) ?_
    refine AllReadyH.cons rfl (fun K hK => ?_) AllReadyH.nil
    go_simp
    go_at_call 63
    refine (refbytes_any f.l 4 _ (by omega) (by omega) (by omega)).mono ?_
    rintro e w3 ⟨v3, rfl, o3, b3⟩
    obtain ⟨x3, n3, c3', rfl⟩ := own_slcG o3
    have z3 := b3.size
    simp at z3
    go_wp2_with fail
    refine hK.out _ _ ?_ (fun hHeld => ?_)
    · try dsimp only
      exact frm_cells (Blk.below (Blk.drew (Blk.alloc HLa.out _)) b3 (by simp; omega))
    clear hK K
    try simp only [Act.put, List.getElem_toArray, List.getElem_cons_zero, List.getElem_cons_succ, List.setIfInBounds_toArray, List.set_cons_zero, List.set_cons_succ]
    have LX := Lib.hid (show Blk w3 w.heap.size f.cs from Blk.below (Blk.drew (Blk.alloc HLa.out _)) b3 (by simp; omega))
    have BX := Lib.hid ((bel_drewN 1 (HBa.out.alloc (by omega) (Obj.cells #[Value.int IntKind.u8 f.v, Value.int IntKind.u8 f.g] 5))).trans (b3.mono (by simp; omega)))
    have HO := Lib.hid (OwB.mono o3 (show w.heap.size + 1 ≤ _ by simp; omega))
    have HR := Lib.hid ((RdB.drewN 1 (rd_two wa f.v f.g)).below b3)
    clear o3 b3 c0 c1 c2 c3 c4 c5 c6 c7 c8
    have zx : w.heap.size < w3.heap.size := by omega
    refine wpAnyH_ready (rs := [9]) (by kernel_rfl) (by simp) ?_
    refine AllReadyH.cons rfl (fun K hK => ?_) AllReadyH.nil
    refine wp_app (.tmp 9) (.tmp 14) rfl (w.heap.size + 1) _ _ _ _ rfl HO.out rfl HR.out (by simp [leB_length]) (by omega) ?_
    intro v4 w4 p4
    obtain ⟨x4, n4, c4', rfl⟩ := own_slcG p4.1
    have L4 : Blk w4 w.heap.size f.cs := Blk.keep LX.out (grown_keepG p4.2.1) (fun e => by have := own_geG HO.out _ e; omega)
    have B4 : Below w.heap.size w w4 := BX.out.grown p4.2.1 (by omega) (fun k hk => by have := own_geG HO.out k hk; omega)
    have z4 := p4.2.1.size
    have HO4 := Lib.hid p4.1
    have HL4 := Lib.hid L4
    have HB4 := Lib.hid B4
    clear p4 HO HR LX BX
    refine hK.out _ _ ?_ (fun hHeld => ?_)
    · try dsimp only
      exact frm_cells HL4.out
    clear hK K
    try simp only [Act.put, List.getElem_toArray, List.getElem_cons_zero, List.getElem_cons_succ, List.setIfInBounds_toArray, List.set_cons_zero, List.set_cons_succ]
    refine wpAnyH_take (i := 10) (v := ?_) rfl (by kernel_rfl) (by kernel_rfl) (by kernel_rfl) (fun _ _ _ h => h) (Or.inl ⟨by rfl, ?_⟩) (by assumption) ?_
    rotate_left
    · intro w0 hSw
      (try dsimp only at hSw)
      go_simp
      try with_reducible rfl
    simp only [Act.put, List.getElem_toArray, List.getElem_cons_zero, List.getElem_cons_succ, List.setIfInBounds_toArray, List.set_cons_zero, List.set_cons_succ]
    refine wpAnyH_done (by kernel_rfl) ?_ _
    clear hHeld
    obtain ⟨c0, c1, c2, c3, c4, c5, c6, c7, c8⟩ := frm_cells HL4.out
    clear c0 c1 c2
    go_wp2_with fail
    refine (refbytes_any f.y 2 _ (by omega) (by omega) (by omega)).mono ?_
    rintro e w5 ⟨v5, rfl, o5, b5⟩
    obtain ⟨x5, n5, c5', rfl⟩ := own_slcG o5
    have z5 := b5.size
    have L5 := Lib.hid (HL4.out.below b5 (by omega))
    have B5 := Lib.hid (HB4.out.trans (b5.mono (by omega)))
    have O5 := Lib.hid (HO4.out.below b5)
    have R5 := Lib.hid o5.rd
    clear o5 b5 HL4 HB4 HO4 c3 c4 c5 c6 c7 c8
    go_wp2_with (refine list_app rfl (.tmp 16) (.tmp 20) rfl (w.heap.size + 1) _ _ _ _ rfl O5.out rfl R5.out (by simp [leB_length]) (by omega) ?_)
    intro v6 w6 p6
    obtain ⟨x6, n6, c6', rfl⟩ := own_slcG p6.1
    have z6 := p6.2.1.size
    have O6 := Lib.hid p6.1
    have L6 := Lib.hid (show Blk w6 w.heap.size f.cs from Blk.keep L5.out (grown_keepG p6.2.1) (fun e => by have := own_geG O5.out _ e; omega))
    have B6 := Lib.hid (B5.out.grown p6.2.1 (by omega) (fun k hk => by have := own_geG O5.out k hk; omega))
    clear p6 L5 B5 O5 R5
    obtain ⟨c0, c1, c2, c3, c4, c5, c6, c7, c8⟩ := frm_cells L6.out
    clear c0 c1 c2 c3
    go_wp2_with fail
    clear c4 c5 c6 c7 c8
    obtain ⟨w7, hw7⟩ : ∃ w7, w7 = w6.alloc (Obj.cells #[Value.int IntKind.i32 f.o, Value.int IntKind.i32 f.s, Value.int IntKind.i32 f.t, Value.int IntKind.i32 f.m] 21) := ⟨_, rfl⟩
    rw [← hw7]
    have b7 : Below w6.heap.size w6 w7 := by rw [hw7]; exact (Below.refl _ _).alloc (Nat.le_refl _) _
    have A7 := Lib.hid (show Blk w7 w6.heap.size ((frO f).map (Value.int .i32)) by rw [hw7]; exact Blk.made w6 _ _)
    have z7 : w6.heap.size < w7.heap.size := by rw [hw7, World.size_alloc]; omega
    have O7 := Lib.hid (O6.out.below b7)
    have N7 := Lib.hid (show (Value.slice x6 n6 c6').ownBlock ≠ some w6.heap.size from fun e => by have := (World.ownsRow.lt O6.out _ e).2; omega)
    have L7 := Lib.hid (L6.out.below b7 (by omega))
    have B7 := Lib.hid (B6.out.trans (b7.mono (by omega)))
    obtain ⟨ab, hab⟩ : ∃ ab, ab = w6.heap.size := ⟨_, rfl⟩
    rw [← hab] at A7 N7 z7
    rw [← hab]
    clear hw7 b7 O6 L6 B6 L4 B4 hab
    go_loopw [3, 32] (fun ov i wr => ∃ k : Nat, k ≤ 4 ∧ i = .int .i64 k ∧ (∃ a n c, ov = .slice a n c ∧ OwB 5 (w.heap.size + 1) wr (.slice a n c) (frQ f ++ frP (frO f) k) ∧ (Value.slice a n c).ownBlock ≠ some ab) ∧ Blk wr ab ((frO f).map (Value.int .i32)) ∧ Blk wr w.heap.size f.cs ∧ Below w.heap.size w wr) (fun _ i _ => 4 - (intOf i).toNat)
    case atStart => exact ⟨0, by omega, rfl, ⟨_, _, _, rfl, by rw [frP_zero, List.append_nil]; exact O7.out, N7.out⟩, A7.out, L7.out, B7.out⟩
    case round =>
      obtain ⟨k, hk, rfl, ⟨xa, xn, xc, rfl, hO, hN⟩, hA, hL, hB⟩ := hrel
      have HO := Lib.hid hO
      have HN := Lib.hid hN
      have HA := Lib.hid hA
      have HL := Lib.hid hL
      have HB := Lib.hid hB
      have zr := hL.lt
      have zab := hA.lt
      have hlen : (frQ f ++ frP (frO f) k).length ≤ 100 := frQP_len f k hk
      by_cases hlt : k < 4
      · have hcell := frO_cell hA k hlt
        have hbd := frO_bd h5 h6 h7 h8 k hlt
        obtain ⟨ev, hev⟩ : ∃ ev, ev = gB (frO f) k := ⟨_, rfl⟩
        rw [← hev] at hcell hbd
        have HE := Lib.hid hev
        obtain ⟨e1, e2⟩ := hbd
        clear hO hN hA hL hB hev
        go_wp2_with fail
        refine (refbytes_any ev 4 _ (by omega) (by omega) (by omega)).mono ?_
        rintro e w8 ⟨v8, rfl, o8, b8⟩
        obtain ⟨x8, n8, c8', rfl⟩ := own_slcG o8
        have z8 := b8.size
        have O8 := Lib.hid (HO.out.below b8)
        have A8 := Lib.hid (HA.out.below b8 zab)
        have L8 := Lib.hid (HL.out.below b8 zr)
        have B8 := Lib.hid (HB.out.trans (b8.mono (by omega)))
        have R8 := Lib.hid o8.rd
        clear o8 b8 HO HA HL HB hcell
        go_wp2_with (refine list_app rfl (.tmp 36) (.tmp 39) rfl (w.heap.size + 1) _ _ _ _ rfl O8.out rfl R8.out (by rw [leB_length]; omega) (by omega) ?_)
        intro v9 w9 p9
        obtain ⟨x9, n9, c9', rfl⟩ := own_slcG p9.1
        have z9 := p9.2.1.size
        have O9 := Lib.hid p9.1
        have N9 := Lib.hid (show (Value.slice x9 n9 c9').ownBlock ≠ some ab from fun e => by
          rcases p9.2.2 with h | h
          · exact HN.out (h ▸ e)
          · rw [h] at e
            cases e
            omega)
        have A9 := Lib.hid (A8.out.keep (grown_keepG p9.2.1) (fun e => HN.out e))
        have L9 := Lib.hid (L8.out.keep (grown_keepG p9.2.1) (fun e => by have := own_geG O8.out _ e; omega))
        have B9 := Lib.hid (B8.out.grown p9.2.1 (by omega) (fun k hk => by have := own_geG O8.out k hk; omega))
        clear p9 O8 A8 L8 B8 R8
        go_wp2
        refine ⟨⟨k + 1, by omega, by go_num, ⟨_, _, _, rfl, ?_, N9.out⟩, A9.out, L9.out, B9.out⟩, by simp [intOf]; omega⟩
        rw [frP_succ f k hlt, ← List.append_assoc, ← HE.out]
        exact O9.out
      · obtain rfl : k = 4 := by omega
        clear hlt hk hO hN hA hL hB
        obtain ⟨c0, c1, c2, c3, c4, c5, c6, c7, c8⟩ := frm_cells HL.out
        clear c0 c1 c2 c3 c4 c5 c6 c7
        go_wp2_with fail
        refine (refBytes_any f.r 8 _ (by omega) (by omega) (by omega)).mono ?_
        rintro e w8 ⟨v8, rfl, o8, b8⟩
        obtain ⟨x8, n8, c8', rfl⟩ := own_slcG o8
        have z8 := b8.size
        have O8 := Lib.hid (HO.out.below b8)
        have B8 := Lib.hid (HB.out.trans (b8.mono (by omega)))
        have R8 := Lib.hid o8.rd
        clear o8 b8 HO HL HB c8
        go_wp2_with (refine list_app rfl (.tmp 42) (.tmp 45) rfl (w.heap.size + 1) _ _ _ _ rfl O8.out rfl R8.out (by rw [leB_length]; omega) (by omega) ?_)
        intro v9 w9 p9
        obtain ⟨x9, n9, c9', rfl⟩ := own_slcG p9.1
        have O9 := Lib.hid p9.1
        have B9 := Lib.hid (B8.out.grown p9.2.1 (by omega) (fun k hk => by have := own_geG O8.out k hk; omega))
        clear p9 O8 B8 R8
        go_wp2
        go_ret
        exact ⟨_, rfl, by rw [frB_eq]; exact O9.out.mono (by omega), B9.out⟩
end Go.Proofs.Ytabifjolocmonaa
