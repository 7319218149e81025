/- Frames: contracts of the reference's Words and Frame. Conditions: the fields are in their kinds' ranges. -/
import Derived.Test.YtabifjolocmonaaHg
namespace Go.Proofs.Ytabifjolocmonaa
set_option maxRecDepth 100000
open Go.RowKit
set_option linter.unusedVariables false
set_option linter.unusedSimpArgs false
theorem leN_leBw (x : Int) (n : Nat) (hn : n ≤ 8) : leN (leB (u64w x) n) = x % 256 ^ n := by
  rw [leN_leB]
  unfold u64w
  rw [IntKind.wrap_u64]
  match n, hn with
  | 0, _ => simp [Int.emod_one]
  | 1, _ | 2, _ | 3, _ | 4, _ | 5, _ | 6, _ | 7, _ | 8, _ => simp; try omega
/-- A frame's header's words. -/
def frL (f : Frm) : List Int := [wd0 f, recS f.o f.s, recS f.t f.m, f.r]
theorem frB_word {f : Frm} (h : f.Ok) (k : Nat) (hk : k < 4) : leN ((((frB f).drop (8 * k)).take 8).take 8) = gB (frL f) k := by
  obtain ⟨h1, h2, h3, h4, h5, h6, h7, h8, h9⟩ := h
  have e0 : (frB f) = (leB (u64w f.l) 4 ++ [f.v, f.g] ++ leB (u64w f.y) 2) ++ ((leB (u64w f.o) 4 ++ leB (u64w f.s) 4) ++ ((leB (u64w f.t) 4 ++ leB (u64w f.m) 4) ++ leB f.r 8)) := by simp [frB]
  have l0 : (leB (u64w f.l) 4 ++ [f.v, f.g] ++ leB (u64w f.y) 2).length = 8 := by simp [leB_length]
  have l1 : (leB (u64w f.o) 4 ++ leB (u64w f.s) 4).length = 8 := by simp [leB_length]
  have l2 : (leB (u64w f.t) 4 ++ leB (u64w f.m) 4).length = 8 := by simp [leB_length]
  have l3 : (leB f.r 8).length = 8 := by simp [leB_length]
  have key : ∀ (A B C D : List Int), A.length = 8 → B.length = 8 → C.length = 8 → D.length = 8 →
      ((A ++ (B ++ (C ++ D))).drop 0).take 8 = A ∧ ((A ++ (B ++ (C ++ D))).drop 8).take 8 = B ∧ ((A ++ (B ++ (C ++ D))).drop 16).take 8 = C ∧ ((A ++ (B ++ (C ++ D))).drop 24).take 8 = D := by
    intro A B C D ha hb hc hd
    refine ⟨?_, ?_, ?_, ?_⟩
    · rw [List.drop_zero, List.take_append_of_le_length (by omega), List.take_of_length_le (by omega)]
    · rw [show 8 = A.length by omega, List.drop_left, ← show 8 = A.length by omega, List.take_append_of_le_length (by omega), List.take_of_length_le (by omega)]
    · rw [← List.append_assoc, show 16 = (A ++ B).length by simp; omega, List.drop_left, List.take_append_of_le_length (by omega), List.take_of_length_le (by omega)]
    · rw [← List.append_assoc, ← List.append_assoc, show 24 = (A ++ B ++ C).length by simp; omega, List.drop_left, List.take_of_length_le (by omega)]
  obtain ⟨k0, k1, k2, k3⟩ := key _ _ _ _ l0 l1 l2 l3
  rw [List.take_take, Nat.min_self, e0]
  match k, hk with
  | 0, _ =>
    rw [show 8 * 0 = 0 by rfl, k0, leN_append, leN_append, leN_leBw _ _ (by omega), leN_leBw _ _ (by omega)]
    simp [leN, leB_length, frL, gB, wd0]
    omega
  | 1, _ =>
    rw [show 8 * 1 = 8 by rfl, k1, leN_append, leN_leBw _ _ (by omega), leN_leBw _ _ (by omega)]
    simp [leB_length, frL, gB, recS]
    omega
  | 2, _ =>
    rw [show 8 * 2 = 16 by rfl, k2, leN_append, leN_leBw _ _ (by omega), leN_leBw _ _ (by omega)]
    simp [leB_length, frL, gB, recS]
    omega
  | 3, _ =>
    rw [show 8 * 3 = 24 by rfl, k3, leN_leB]
    simp [frL, gB]
    omega
def rowF (f : Frm) (k : Nat) : List Int := (frL f).take k ++ List.replicate (4 - k) 0
theorem rowF_set (f : Frm) (k : Nat) (hk : k < 4) : ((rowF f k).map (Value.int .u64)).set k (.int .u64 (gB (frL f) k)) = (rowF f (k + 1)).map (Value.int .u64) := by
  match k, hk with
  | 0, _ | 1, _ | 2, _ | 3, _ => rfl
theorem rowF_cell {w : World} {b : Nat} {f : Frm} {k : Nat} (h : Blk w b ((rowF f k).map (Value.int .u64))) (hk : k < 4) : w.cell? ⟨b, k, none⟩ = some (.int .u64 0) := by
  rw [h.cell k]
  match k, hk with
  | 0, _ | 1, _ | 2, _ | 3, _ => rfl
theorem OwB.sub {B g cap : Nat} {w : World} {l : List Int} (h : ∀ i, i < l.length → w.cell? ⟨g, i, none⟩ = some (.int .u8 (gB l i))) (hl : l.length = 32) (hc : 32 ≤ cap) (hm : cap ≤ maxLen) (a n : Nat) (ha : a + n ≤ 32) : RdB w (.slice (some ⟨g, a, none⟩) n (cap - a)) ((l.drop a).take n) := by
  refine RdB.cells (by simp; omega) (by omega) (by omega) fun i hi => ?_
  rw [h (a + i) (by omega), gB_take _ _ _ hi]
  simp [gB, List.getD]
set_option maxHeartbeats 4000000 in
theorem refFWords_any (f : Frm) (w : World) (h : f.Ok) :
    Calls Try.prog 23 #[.agg #[.int .i32 f.l, .int .u8 f.v, .int .u8 f.g, .int .u16 f.y, .int .i32 f.o, .int .i32 f.s, .int .i32 f.t, .int .i32 f.m, .int .u64 f.r]] w fun e w' => e = .returned (.agg #[.int .u64 (wd0 f), .int .u64 (recS f.o f.s), .int .u64 (recS f.t f.m), .int .u64 f.r]) ∧ Below w.heap.size w w' := by
  have HOK := Lib.hid h
  go_enter Try.func23, Try.ntmps23
  go_wp2_with fail
  refine (refFBytes_any f _ h).mono ?_
  rintro e w1 ⟨v1, rfl, o1, b1⟩
  have z1 := b1.size
  simp only [World.size_alloc] at z1
  obtain ⟨g, cap, rfl, hg, hgl, hc, hm, hcell⟩ := o1.slice (by rw [frB_len]; omega)
  rw [frB_len] at hc
  rw [frB_len f]
  have E1 := Lib.hid (show Blk w1 (w.heap.size + 1) [.int .u64 0, .int .u64 0, .int .u64 0, .int .u64 0] by
    have e := Blk.made (w.alloc (Obj.cells #[Value.int IntKind.i32 f.l, Value.int IntKind.u8 f.v, Value.int IntKind.u8 f.g, Value.int IntKind.u16 f.y, Value.int IntKind.i32 f.o, Value.int IntKind.i32 f.s, Value.int IntKind.i32 f.t, Value.int IntKind.i32 f.m, Value.int IntKind.u64 f.r] 35)) #[Value.int IntKind.u64 0, Value.int IntKind.u64 0, Value.int IntKind.u64 0, Value.int IntKind.u64 0] 36
    rw [World.size_alloc] at e
    exact e.below b1 (by simp))
  have B1 := Lib.hid (show Below w.heap.size w w1 from Below.trans (by go_grown) (b1.mono (by simp; omega)))
  have HCL := Lib.hid hcell
  clear o1 b1 hcell h hg
  go_wp2_with fail
  obtain ⟨w2, hw2⟩ : ∃ w2, w2 = w1.alloc (Obj.cells #[Value.int IntKind.u64 0, Value.int IntKind.u64 0, Value.int IntKind.u64 0, Value.int IntKind.u64 0] 36) := ⟨_, rfl⟩
  rw [← hw2]
  have b2 : Below w1.heap.size w1 w2 := by rw [hw2]; exact (Below.refl _ _).alloc (Nat.le_refl _) _
  have z2 : w1.heap.size < w2.heap.size := by rw [hw2, World.size_alloc]; omega
  have W2 := Lib.hid (show Blk w2 w1.heap.size ((rowF f 0).map (Value.int .u64)) by rw [hw2]; exact Blk.made w1 _ _)
  clear hw2
  have B2 := Lib.hid b2
  clear b2
  go_loopw [8] (fun i wr => ∃ k : Nat, k ≤ 4 ∧ i = .int .i64 k ∧ Blk wr w1.heap.size ((rowF f k).map (Value.int .u64)) ∧ Keep (· = w1.heap.size) w2 wr) (fun i _ => 4 - (intOf i).toNat)
  case atStart => exact ⟨0, by omega, rfl, W2.out, Keep.refl _ _⟩
  case round =>
    obtain ⟨k, hk, rfl, hB, hkp⟩ := hrel
    have hbl := hB.lt
    have K := Lib.hid ((Below.keeps (M := (· = w1.heap.size)) B2.out).trans hkp)
    have KP := Lib.hid hkp
    have HB := Lib.hid hB
    by_cases hlt : k < 4
    · have hcell := rowF_cell hB hlt
      have hfr := Blk.frozen hB k
      have hsub := Lib.hid (OwB.sub (B := 0) (fun i hi => (K.out.cell i hgl (by show ¬ g = w1.heap.size; omega)).trans (HCL.out i hi)) (frB_len f) hc hm (8 * k) 8 (by omega))
      have hwd := Lib.hid (frB_word HOK.out k hlt)
      clear hB hkp
      have hB2 := Lib.hid (show Blk (wr.setCell ⟨w1.heap.size, k, none⟩ (.int .u64 (gB (frL f) k))) w1.heap.size ((rowF f (k + 1)).map (Value.int .u64)) by rw [← rowF_set f k hlt]; exact HB.out.set k _)
      have hK2 := Lib.hid (KP.out.setCell (p := ⟨w1.heap.size, k, none⟩) (.inl rfl) (.int .u64 (gB (frL f) k)))
      clear HB K KP W2
      obtain rfl | rfl | rfl | rfl : k = 0 ∨ k = 1 ∨ k = 2 ∨ k = 3 := by omega
      · go_wp2_with fail
        refine (refNumber_any _ _ _ hsub.out (((frB_is HOK.out).drop _).take _)).mono ?_
        rintro e w' ⟨rfl, rfl⟩
        rw [hwd.out]
        go_wp2
        exact ⟨⟨0 + 1, by omega, by rfl, hB2.out, hK2.out⟩, by simp [intOf]⟩
      · go_wp2_with fail
        refine (refNumber_any _ _ _ hsub.out (((frB_is HOK.out).drop _).take _)).mono ?_
        rintro e w' ⟨rfl, rfl⟩
        rw [hwd.out]
        go_wp2
        exact ⟨⟨1 + 1, by omega, by rfl, hB2.out, hK2.out⟩, by simp [intOf]⟩
      · go_wp2_with fail
        refine (refNumber_any _ _ _ hsub.out (((frB_is HOK.out).drop _).take _)).mono ?_
        rintro e w' ⟨rfl, rfl⟩
        rw [hwd.out]
        go_wp2
        exact ⟨⟨2 + 1, by omega, by rfl, hB2.out, hK2.out⟩, by simp [intOf]⟩
      · go_wp2_with fail
        refine (refNumber_any _ _ _ hsub.out (((frB_is HOK.out).drop _).take _)).mono ?_
        rintro e w' ⟨rfl, rfl⟩
        rw [hwd.out]
        go_wp2
        exact ⟨⟨3 + 1, by omega, by rfl, hB2.out, hK2.out⟩, by simp [intOf]⟩
    · obtain rfl : k = 4 := by omega
      clear hB hkp hlt hk
      have f0 := HB.out.cell 0
      have f1 := HB.out.cell 1
      have f2 := HB.out.cell 2
      have f3 := HB.out.cell 3
      have e4 : (rowF f 4).map (Value.int .u64) = [.int .u64 (wd0 f), .int .u64 (recS f.o f.s), .int .u64 (recS f.t f.m), .int .u64 f.r] := rfl
      rw [e4] at f0 f1 f2 f3
      have hne : w.heap.size + 1 ≠ w1.heap.size := by omega
      have ER := Lib.hid (E1.out.keep K.out (by show ¬ w.heap.size + 1 = w1.heap.size; exact hne))
      have r0 := ER.out.cell 0
      have r1 := ER.out.cell 1
      have r2 := ER.out.cell 2
      have r3 := ER.out.cell 3
      have s0 := ER.out.frozen 0
      have s1 := ER.out.frozen 1
      have s2 := ER.out.frozen 2
      have s3 := ER.out.frozen 3
      simp only [List.getElem?_cons_zero, List.getElem?_cons_succ] at f0 f1 f2 f3 r0 r1 r2 r3
      clear e4
      have BB := Lib.hid (B1.out.trans (K.out.below (by omega) (fun k h1 h2 => by omega)))
      go_wp2
      have e2 := (((ER.out.set 0 (.int .u64 (wd0 f))).set 1 (.int .u64 (recS f.o f.s))).set 2 (.int .u64 (recS f.t f.m))).set 3 (.int .u64 f.r)
      refine bodyPost_ret (v := .agg #[.int .u64 (wd0 f), .int .u64 (recS f.o f.s), .int .u64 (recS f.t f.m), .int .u64 f.r]) ?_ rfl ⟨rfl, ?_⟩
      · exact res_words rfl rfl e2
      · repeat' (refine Below.setCell ?_ (by simp) _)
        exact BB.out
end Go.Proofs.Ytabifjolocmonaa
