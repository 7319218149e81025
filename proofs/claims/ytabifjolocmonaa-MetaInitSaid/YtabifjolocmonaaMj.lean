/- meta.New: the machine that stores a new log's numbers. Conditions: as each says. -/
import Derived.Test.YtabifjolocmonaaMi
import Derived.Test.YtabifjolocmonaaMu
import Derived.Test.YtabifjolocmonaaAp
namespace Go.Proofs.Ytabifjolocmonaa
set_option maxRecDepth 100000
open Go.RowKit
set_option linter.unusedVariables false
set_option linter.unusedSimpArgs false
/-- The accesses that were listed so far; tk: the block of the list's variable. -/
def StoSt (w : World) (tk : Nat) (L : List Sto) : Prop := ∃ a n c, Blk w tk [.slice a n c] ∧ w.ownsRow (tk + 1) 60 6 (.slice a n c) L.length (rowS L)
theorem ownS_keep {M : Nat → Prop} {w w' : World} {B E k n : Nat} {v : Value} {xs : List Value} (h : w.ownsRow B E k v n xs) (kp : Keep M w w') (hm : ∀ i, B ≤ i → ¬ M i) : w'.ownsRow B E k v n xs := by
  obtain ⟨h1, h2⟩ := h
  refine ⟨h1, h2.imp id ?_⟩
  rintro ⟨g, cap, cur, e1, e2, e3, e4⟩
  exact ⟨g, cap, cur, e1, e2, by rw [kp.block g (by have := Array.getElem?_eq_some_iff.1 e3; exact this.1) (hm _ e2)]; exact e3, e4⟩
theorem StoSt.keep {M : Nat → Prop} {w w' : World} {tk : Nat} {L : List Sto} (h : StoSt w tk L) (k : Keep M w w') (hm : ∀ i, tk ≤ i → ¬ M i) : StoSt w' tk L := by
  obtain ⟨a, n, c, h1, h2⟩ := h
  exact ⟨a, n, c, h1.keep k (hm _ (Nat.le_refl _)), ownS_keep h2 k (fun i hi => hm i (by omega))⟩
set_option maxHeartbeats 2000000 in
theorem sto_any (tk : Nat) (L : List Sto) (x : Sto) (w : World) (h : StoSt w tk L) (hl : L.length ≤ 1000) :
    Calls Try.prog 82 #[.int .i64 x.a, .int .i64 x.n, .int .u64 x.v, .pointer (some ⟨tk, 0, none⟩)] w fun e w' => e = .returned (.tuple #[]) ∧ StoSt w' tk (L ++ [x]) ∧ Keep (tk ≤ ·) w w' := by
  obtain ⟨i0, hi, hz0, hz1, hz2⟩ := info_parts accinfo
  obtain ⟨a, n, c, hb, ho⟩ := h
  have hlt := hb.lt
  have c0 := hb.cell 0
  have z0 := hb.frozen 0
  simp only [List.getElem?_cons_zero] at c0
  have HB := Lib.hid hb
  have HO := Lib.hid ho
  clear hb ho
  go_enter Try.func82, Try.ntmps82
  go_wp2_with (at_builtin; refine wpList_append_own _ rfl _ _ 105 rfl (tk + 1) 60 i0 _ 6 64 Try.underlying105 hi hz0 hz1 hz2 rfl (by decide) _ _ _ rfl (HO.out.alloc _) ⟨w.heap.size, 0, none⟩ 1 1 x.cs rfl rfl ?c1 ?c2 ?c3 ?c4 ?c5 ?_)
  case c1 =>
    intro j u hj
    have e := Blk.cell (Blk.made w #[Value.int IntKind.i64 2, Value.int IntKind.i64 x.a, Value.int IntKind.i64 x.n, Value.int IntKind.u64 x.v, Value.int IntKind.u64 0, Value.slice none 0 0] 60) j
    rw [add_none, Nat.zero_add]
    exact e.trans hj
  case c2 =>
    intro u hu
    simp [Sto.cs] at hu
    rcases hu with rfl | rfl | rfl | rfl | rfl | rfl <;> rfl
  case c3 => unfold maxLen; omega
  case c4 => omega
  case c5 => simp; omega
  intro v' w1 hown hg _
  obtain ⟨a', n', c', rfl⟩ : ∃ a n c, v' = .slice a n c := by
    rcases hown.2 with ⟨rfl, _⟩ | ⟨g, cap, cur, rfl, _⟩
    · exact ⟨_, _, _, rfl⟩
    · exact ⟨_, _, _, rfl⟩
  have hob : (Value.slice a n c).ownBlock ≠ some tk := by
    intro e
    have := World.ownsRow.lt HO.out tk e
    omega
  have hzw := hg.size
  rw [World.size_alloc] at hzw
  have KG : Keep (fun i => tk ≤ i) w w1 := ((Keep.refl _ w).alloc _).then ⟨hg.os, hg.tape, hg.output, hg.size, fun k hk hm => hg.block k hk (fun e => by have := World.ownsRow.lt HO.out k e.symm; omega)⟩ (fun i _ h => h)
  have HB1 : Blk w1 tk [.slice a n c] := by
    have e := (HB.out.alloc (Obj.cells #[Value.int IntKind.i64 2, Value.int IntKind.i64 x.a, Value.int IntKind.i64 x.n, Value.int IntKind.u64 x.v, Value.int IntKind.u64 0, Value.slice none 0 0] 60))
    exact Blk.keep (M := fun i => (Value.slice a n c).ownBlock = some i) e ⟨hg.os, hg.tape, hg.output, hg.size, fun k hk hm => hg.block k hk (fun e => hm e.symm)⟩ hob
  have d0 := HB1.cell 0
  have y0 := HB1.frozen 0
  simp only [List.getElem?_cons_zero] at d0
  have HB2 := Lib.hid HB1
  have HW := Lib.hid hown
  have HK := Lib.hid KG
  have tl1 := HB1.lt
  clear hown hg KG HB1
  go_wp2
  go_end0
  refine ⟨rfl, ⟨a', n', c', HB2.out.set 0 _, ?_⟩, HK.out.setCell (p := ⟨tk, 0, none⟩) (.inl (Nat.le_refl _)) _⟩
  rw [rowS_snoc, List.length_append]
  have := HW.out
  exact ownsRow_setCell_below this (by show tk < tk + 1; omega) _
theorem rdS_own {w : World} {B : Nat} {v : Value} {L : List Sto} (h : w.ownsRow B 60 6 v L.length (rowS L)) (h0 : 0 < L.length) : ∃ g cap, v = .slice (some ⟨g, 0, none⟩) L.length cap ∧ L.length ≤ cap ∧ B ≤ g ∧ g < w.heap.size ∧ RdS w v L := by
  have hc := fun g => World.ownsRow.cells (g := g) h
  have hl := World.ownsRow.lt h
  rcases h.2 with ⟨rfl, h2⟩ | ⟨g, cap, cur, rfl, hb, hg, hn, hcap, hsz, ht⟩
  · omega
  · refine ⟨g, cap, rfl, hn, hb, (hl g rfl).2, .inr ⟨g, 0, cap, rfl, hn, fun j u hj => ?_⟩⟩
    have := hc g rfl j u hj
    rw [add_none] at this
    exact this
theorem enSto (args : Array Value) (w : World) : (callFunc 82 args).run Try.prog w = .ok (.enter 82 args) w :=
  enters_of Try.func82 (by kernel_rfl) rfl args w
def lgV (b t m s i ss st : Int) : List Value := [.int .i64 b, .int .i64 t, .int .i64 m, .int .i64 s, .int .i32 i, .int .i32 ss, .int .i32 st]
theorem lgV_cells {w : World} {B : Nat} {b t m s i ss st : Int} (h : Blk w B (lgV b t m s i ss st)) : w.cell? ⟨B, 0, none⟩ = some (.int .i64 b) ∧ w.cell? ⟨B, 1, none⟩ = some (.int .i64 t) ∧ w.cell? ⟨B, 2, none⟩ = some (.int .i64 m) ∧ w.cell? ⟨B, 3, none⟩ = some (.int .i64 s) ∧ w.cell? ⟨B, 4, none⟩ = some (.int .i32 i) ∧ w.cell? ⟨B, 5, none⟩ = some (.int .i32 ss) ∧ w.cell? ⟨B, 6, none⟩ = some (.int .i32 st) :=
  ⟨h.cell 0, h.cell 1, h.cell 2, h.cell 3, h.cell 4, h.cell 5, h.cell 6⟩
def pkI (i k : Int) : Int := IntKind.i32.wrap (i - k) % 4294967296 * 4294967296
/-- What a new log's machine stores. -/
def iniL (b t s i : Int) : List Sto :=
  [⟨b + 3 * t, 8, pkI i 0⟩, ⟨b + 3 * t + 8, 8, pkI i 2⟩, ⟨b + 3 * t + 16, 8, pkI i 1⟩, ⟨b + 3 * t + 24, 4, 0⟩, ⟨b + 3 * t + 32, 8, t / 2⟩, ⟨b + 3 * t + 40, 8, 0⟩] ++ (List.range s.toNat).map (fun j => ⟨b + 3 * t + 48 + 8 * (j : Int), 8, 0⟩)
theorem ini_1 (b t s i : Int) : (iniL b t s i).take (0 + 1) = (iniL b t s i).take 0 ++ [⟨b + 3 * t + 8 * 0, 8, IntKind.i32.wrap (i - IntKind.i32.wrap ((IntKind.i64.wrap 3).tmod 3)) % 4294967296 * 4294967296⟩] := by
  have h : IntKind.i32.wrap ((IntKind.i64.wrap 3).tmod 3) = 0 := by decide
  rw [h]
  simp [iniL, pkI]
theorem ini_2 (b t s i : Int) : (iniL b t s i).take (1 + 1) = (iniL b t s i).take 1 ++ [⟨b + 3 * t + 8 * 1, 8, IntKind.i32.wrap (i - IntKind.i32.wrap ((IntKind.i64.wrap 2).tmod 3)) % 4294967296 * 4294967296⟩] := by
  have h : IntKind.i32.wrap ((IntKind.i64.wrap 2).tmod 3) = 2 := by decide
  rw [h]
  simp [iniL, pkI]
theorem ini_3 (b t s i : Int) : (iniL b t s i).take (2 + 1) = (iniL b t s i).take 2 ++ [⟨b + 3 * t + 8 * 2, 8, IntKind.i32.wrap (i - IntKind.i32.wrap ((IntKind.i64.wrap 1).tmod 3)) % 4294967296 * 4294967296⟩] := by
  have h : IntKind.i32.wrap ((IntKind.i64.wrap 1).tmod 3) = 1 := by decide
  rw [h]
  simp [iniL, pkI]
theorem ini_4 (b t s i : Int) : (iniL b t s i).take 4 = (iniL b t s i).take 3 ++ [⟨b + 3 * t + 24, 4, 0⟩] := by simp [iniL]
theorem ini_5 (b t s i : Int) : (iniL b t s i).take 5 = (iniL b t s i).take 4 ++ [⟨b + 3 * t + 32, 8, t / 2⟩] := by simp [iniL]
theorem ini_6 (b t s i : Int) : (iniL b t s i).take 6 = (iniL b t s i).take 5 ++ [⟨b + 3 * t + 40, 8, 0⟩] := by simp [iniL]
theorem ini_len (b t s i : Int) : (iniL b t s i).length = 6 + s.toNat := by simp [iniL]; omega
theorem ini_sub (b t s i : Int) (j : Nat) (hj : j < s.toNat) : (iniL b t s i).take (6 + j + 1) = (iniL b t s i).take (6 + j) ++ [⟨b + 3 * t + 48 + 8 * (j : Int), 8, 0⟩] := by
  have e : (iniL b t s i)[6 + j]? = some ⟨b + 3 * t + 48 + 8 * (j : Int), 8, 0⟩ := by
    unfold iniL
    rw [List.getElem?_append_right (by simp)]
    simp [hj]
  rw [List.take_add_one, e]
  rfl
theorem packM_any (t : Int) (w : World) :
    Calls Try.prog 83 #[.int .i32 t, .int .u32 0] w fun e w' => e = .returned (.int .u64 (t % 4294967296 * 4294967296)) ∧ w = w' := by
  have H := Lib.hid (or_join (t % 4294967296 * 4294967296) 0 0 (by omega) (by omega) (by omega) (by omega) (by decide) (by omega))
  go_enter Try.func83, Try.ntmps83
  go_wp2
  go_ret
  exact ⟨ret_int (by rw [H.out, Int.add_zero]), rfl⟩
set_option maxHeartbeats 1000000 in
theorem mnew_no (b t m s i ss st : Int) (w : World) (hk : lgOk b t m s = false) (hb0 : -9223372036854775808 ≤ b) (hb1 : b ≤ 9223372036854775807) (ht : t ≤ 9223372036854775807) (hm0 : -9223372036854775808 ≤ m) :
    Calls Try.prog 51 #[.agg #[.int .i64 b, .int .i64 t, .int .i64 m, .int .i64 s, .int .i32 i, .int .i32 ss, .int .i32 st]] w fun e w' => ∃ q F, e = .returned (ptrM q) ∧ IniSt w' F q [] ∧ (∀ i, F i → w.heap.size ≤ i) ∧ Below w.heap.size w w' := by
  have hE := Lib.hid (lgE_no hk)
  clear hk
  go_enter Try.func51, Try.ntmps51
  go_wp2_with fail
  refine (metaCheck_any b t m s i ss st _ hb0 hb1 ht hm0).mono ?_
  rintro e w1 ⟨rfl, b1⟩
  rw [hE.out]
  have z1 := b1.size
  simp only [World.size_alloc] at z1
  have Q1 : Mch w1 (w.heap.size + 1) accZ .nilFunc [] := by
    have e := Blk.made (w.alloc (Obj.cells #[Value.int IntKind.i64 b, Value.int IntKind.i64 t, Value.int IntKind.i64 m, Value.int IntKind.i64 s, Value.int IntKind.i32 i, Value.int IntKind.i32 ss, Value.int IntKind.i32 st] 41)) #[Value.int IntKind.i64 0, Value.int IntKind.i64 0, Value.int IntKind.i64 0, Value.int IntKind.u64 0, Value.int IntKind.u64 0, Value.slice none 0 0, Value.nilFunc] 104
    rw [World.size_alloc] at e
    exact Blk.below e b1 (by simp)
  have HQ1 := Lib.hid Q1
  have B1 : Below w.heap.size w w1 := Below.trans (by go_grown) (b1.mono (by simp; omega))
  clear b1 Q1
  go_wp2
  go_ret
  exact ⟨w.heap.size + 1, (· = w.heap.size + 1), rfl, ⟨rfl, fun i hi => by subst hi; omega, .inl ⟨rfl, HQ1.out⟩⟩, fun i hi => by subst hi; omega, B1⟩
set_option maxHeartbeats 4000000 in
theorem mnew_ok (b t m s i ss st : Int) (w : World) (hk : lgOk b t m s = true) (hi0 : -2147483648 ≤ i) (hi1 : i ≤ 2147483647) :
    Calls Try.prog 51 #[.agg #[.int .i64 b, .int .i64 t, .int .i64 m, .int .i64 s, .int .i32 i, .int .i32 ss, .int .i32 st]] w fun e w' => ∃ q F, e = .returned (ptrM q) ∧ IniSt w' F q (iniL b t s i) ∧ (∀ i, F i → w.heap.size ≤ i) ∧ Below w.heap.size w w' := by
  have hbd := lgOk_bd hk
  obtain ⟨t0, t1, m0, m1, mm, s0, s1, b0, b8, b1, ht⟩ := hbd
  have hE := Lib.hid (lgE_ok hk)
  have hN := Lib.hid (nbS_ok hk)
  have HK := Lib.hid hk
  clear hk ht
  go_enter Try.func51, Try.ntmps51
  go_wp2_with fail
  refine (metaCheck_any b t m s i ss st _ (by omega) (by omega) (by omega) (by omega)).mono ?_
  rintro e w1 ⟨rfl, b1⟩
  rw [hE.out]
  have z1 := b1.size
  simp only [World.size_alloc] at z1
  have L1 : Blk w1 w.heap.size (lgV b t m s i ss st) := Blk.below (Blk.alloc (Blk.made w #[Value.int IntKind.i64 b, Value.int IntKind.i64 t, Value.int IntKind.i64 m, Value.int IntKind.i64 s, Value.int IntKind.i32 i, Value.int IntKind.i32 ss, Value.int IntKind.i32 st] 41) _) b1 (by simp; omega)
  have Q1 : Mch w1 (w.heap.size + 1) accZ .nilFunc [] := by
    have e := Blk.made (w.alloc (Obj.cells #[Value.int IntKind.i64 b, Value.int IntKind.i64 t, Value.int IntKind.i64 m, Value.int IntKind.i64 s, Value.int IntKind.i32 i, Value.int IntKind.i32 ss, Value.int IntKind.i32 st] 41)) #[Value.int IntKind.i64 0, Value.int IntKind.i64 0, Value.int IntKind.i64 0, Value.int IntKind.u64 0, Value.int IntKind.u64 0, Value.slice none 0 0, Value.nilFunc] 104
    rw [World.size_alloc] at e
    exact Blk.below e b1 (by simp)
  have B1 : Below w.heap.size w w1 := Below.trans (by go_grown) (b1.mono (by simp; omega))
  have HL1 := Lib.hid L1
  have HQ1 := Lib.hid Q1
  have HB1 := Lib.hid B1
  have en := enSto
  clear b1 L1 Q1 B1
  go_wp2_with fail
  obtain ⟨w2, hw2⟩ : ∃ w2, w2 = w1.alloc (Obj.cells #[Value.slice none 0 0] 105) := ⟨_, rfl⟩
  rw [← hw2]
  have S2 : StoSt w2 w1.heap.size [] := ⟨none, 0, 0, by rw [hw2]; exact Blk.made w1 _ _, World.ownsRow_nil w2 _ _ _⟩
  have b2 : Below w1.heap.size w1 w2 := by rw [hw2]; exact (Below.refl _ _).alloc (Nat.le_refl _) _
  have z2 : w1.heap.size < w2.heap.size := by rw [hw2, World.size_alloc]; omega
  have HL2 := Lib.hid (HL1.out.below b2 (by omega))
  have HQ2 := Lib.hid (Blk.below HQ1.out b2 (by omega))
  have HB2 := Lib.hid (HB1.out.trans (b2.mono (by omega)))
  have HS2 := Lib.hid S2
  clear hw2 S2 b2 HL1 HQ1 HB1
  go_loopw [15] (fun x wr => ∃ k : Nat, k ≤ 3 ∧ x = .int .i64 k ∧ StoSt wr w1.heap.size ((iniL b t s i).take k) ∧ Keep (w1.heap.size ≤ ·) w2 wr) (fun x _ => 3 - (intOf x).toNat)
  case atStart => exact ⟨0, by omega, rfl, HS2.out, Keep.refl _ _⟩
  case round =>
    obtain ⟨k, hk3, rfl, hst, hkp⟩ := hrel
    have zr := hkp.size
    have HLr := Lib.hid (HL2.out.keep hkp (by omega))
    have HST := Lib.hid hst
    have HKP := Lib.hid hkp
    clear hst hkp
    by_cases hlt : k < 3
    · obtain ⟨c0, c1, c2, c3, c4, c5, c6⟩ := lgV_cells HLr.out
      have ht1 := Lib.hid (show oneS b t m s (nbS b t) (k : Int) 3 8 = b + 3 * t + 8 * (k : Int) by unfold oneS; rw [if_pos HK.out, if_pos ⟨by omega, by omega⟩, hN.out]; unfold wrap64; omega)
      have hpos : 0 ≤ b + 3 * t + 8 * (k : Int) := by omega
      obtain rfl | rfl | rfl : k = 0 ∨ k = 1 ∨ k = 2 := by omega
      · go_wp2_with fail
        go_region_held3 (fun w' => w'.cell? ⟨w.heap.size, 0, none⟩ = some (.int .i64 b) ∧ w'.cell? ⟨w.heap.size, 1, none⟩ = some (.int .i64 t) ∧ w'.cell? ⟨w.heap.size, 2, none⟩ = some (.int .i64 m) ∧ w'.cell? ⟨w.heap.size, 3, none⟩ = some (.int .i64 s) ∧ w'.cell? ⟨w.heap.size, 4, none⟩ = some (.int .i32 i) ∧ w'.cell? ⟨w.heap.size, 5, none⟩ = some (.int .i32 ss) ∧ w'.cell? ⟨w.heap.size, 6, none⟩ = some (.int .i32 st)) (first | go_keep | trivial)
          (first
            | (go_at_call 33; refine (tailAt_any b t m s i ss st _ _ (by omega) (by omega) (by omega) (by omega) (by omega)).mono ?_; rintro e w3 ⟨rfl, b3⟩; have hc := fun o => b3.cell (p := ⟨w.heap.size, o, none⟩) (by simp; omega))
            | (go_at_call 83; refine (packM_any _ _).mono ?_; rintro e w' ⟨rfl, rfl⟩)
            | (go_at_call 82; refine (sto_any w1.heap.size _ ⟨oneS b t m s (nbS b t) 0 3 8, _, _⟩ _ ((HST.out.keep (M := fun _ => False) (Keep.drew (Keep.refl _ _)) (fun _ _ => id)).keep (M := fun _ => False) (Below.keeps b3) (fun _ _ => id)) (by simp <;> omega)).mono ?_; rintro e w4 ⟨rfl, st4, k4⟩; have hc4 := fun o => k4.cell (b := w.heap.size) o (by have := b3.size; simp at this; omega) (by show ¬ w1.heap.size ≤ w.heap.size; omega)))
        all_goals
          have ST4 := Lib.hid st4
          have K4 := Lib.hid ((((Keep.refl (w1.heap.size ≤ ·) wr).drew).trans (Below.keeps b3)).trans k4)
          clear st4 k4 hc4 hc b3 c0 c1 c2 c3 c4 c5 c6
          go_wp2
          refine ⟨⟨0 + 1, by omega, by rfl, ?_, HKP.out.trans K4.out⟩, by simp [intOf]⟩
          have e := ST4.out
          have h1 : oneS b t m s (nbS b t) 0 3 8 = b + 3 * t + 8 * 0 := ht1.out
          rw [h1, ← ini_1] at e
          exact e
      · go_wp2_with fail
        go_region_held3 (fun w' => w'.cell? ⟨w.heap.size, 0, none⟩ = some (.int .i64 b) ∧ w'.cell? ⟨w.heap.size, 1, none⟩ = some (.int .i64 t) ∧ w'.cell? ⟨w.heap.size, 2, none⟩ = some (.int .i64 m) ∧ w'.cell? ⟨w.heap.size, 3, none⟩ = some (.int .i64 s) ∧ w'.cell? ⟨w.heap.size, 4, none⟩ = some (.int .i32 i) ∧ w'.cell? ⟨w.heap.size, 5, none⟩ = some (.int .i32 ss) ∧ w'.cell? ⟨w.heap.size, 6, none⟩ = some (.int .i32 st)) (first | go_keep | trivial)
          (first
            | (go_at_call 33; refine (tailAt_any b t m s i ss st _ _ (by omega) (by omega) (by omega) (by omega) (by omega)).mono ?_; rintro e w3 ⟨rfl, b3⟩; have hc := fun o => b3.cell (p := ⟨w.heap.size, o, none⟩) (by simp; omega))
            | (go_at_call 83; refine (packM_any _ _).mono ?_; rintro e w' ⟨rfl, rfl⟩)
            | (go_at_call 82; refine (sto_any w1.heap.size _ ⟨oneS b t m s (nbS b t) 1 3 8, _, _⟩ _ ((HST.out.keep (M := fun _ => False) (Keep.drew (Keep.refl _ _)) (fun _ _ => id)).keep (M := fun _ => False) (Below.keeps b3) (fun _ _ => id)) (by simp <;> omega)).mono ?_; rintro e w4 ⟨rfl, st4, k4⟩; have hc4 := fun o => k4.cell (b := w.heap.size) o (by have := b3.size; simp at this; omega) (by show ¬ w1.heap.size ≤ w.heap.size; omega)))
        all_goals
          have ST4 := Lib.hid st4
          have K4 := Lib.hid ((((Keep.refl (w1.heap.size ≤ ·) wr).drew).trans (Below.keeps b3)).trans k4)
          clear st4 k4 hc4 hc b3 c0 c1 c2 c3 c4 c5 c6
          go_wp2
          refine ⟨⟨1 + 1, by omega, by rfl, ?_, HKP.out.trans K4.out⟩, by simp [intOf]⟩
          have e := ST4.out
          have h1 : oneS b t m s (nbS b t) 1 3 8 = b + 3 * t + 8 * 1 := ht1.out
          rw [h1, ← ini_2] at e
          exact e
      · go_wp2_with fail
        go_region_held3 (fun w' => w'.cell? ⟨w.heap.size, 0, none⟩ = some (.int .i64 b) ∧ w'.cell? ⟨w.heap.size, 1, none⟩ = some (.int .i64 t) ∧ w'.cell? ⟨w.heap.size, 2, none⟩ = some (.int .i64 m) ∧ w'.cell? ⟨w.heap.size, 3, none⟩ = some (.int .i64 s) ∧ w'.cell? ⟨w.heap.size, 4, none⟩ = some (.int .i32 i) ∧ w'.cell? ⟨w.heap.size, 5, none⟩ = some (.int .i32 ss) ∧ w'.cell? ⟨w.heap.size, 6, none⟩ = some (.int .i32 st)) (first | go_keep | trivial)
          (first
            | (go_at_call 33; refine (tailAt_any b t m s i ss st _ _ (by omega) (by omega) (by omega) (by omega) (by omega)).mono ?_; rintro e w3 ⟨rfl, b3⟩; have hc := fun o => b3.cell (p := ⟨w.heap.size, o, none⟩) (by simp; omega))
            | (go_at_call 83; refine (packM_any _ _).mono ?_; rintro e w' ⟨rfl, rfl⟩)
            | (go_at_call 82; refine (sto_any w1.heap.size _ ⟨oneS b t m s (nbS b t) 2 3 8, _, _⟩ _ ((HST.out.keep (M := fun _ => False) (Keep.drew (Keep.refl _ _)) (fun _ _ => id)).keep (M := fun _ => False) (Below.keeps b3) (fun _ _ => id)) (by simp <;> omega)).mono ?_; rintro e w4 ⟨rfl, st4, k4⟩; have hc4 := fun o => k4.cell (b := w.heap.size) o (by have := b3.size; simp at this; omega) (by show ¬ w1.heap.size ≤ w.heap.size; omega)))
        all_goals
          have ST4 := Lib.hid st4
          have K4 := Lib.hid ((((Keep.refl (w1.heap.size ≤ ·) wr).drew).trans (Below.keeps b3)).trans k4)
          clear st4 k4 hc4 hc b3 c0 c1 c2 c3 c4 c5 c6
          go_wp2
          refine ⟨⟨2 + 1, by omega, by rfl, ?_, HKP.out.trans K4.out⟩, by simp [intOf]⟩
          have e := ST4.out
          have h1 : oneS b t m s (nbS b t) 2 3 8 = b + 3 * t + 8 * 2 := ht1.out
          rw [h1, ← ini_3] at e
          exact e
    · obtain rfl : k = 3 := by omega
      clear hlt hk3
      obtain ⟨c0, c1, c2, c3, c4, c5, c6⟩ := lgV_cells HLr.out
      have hw2 : w1.heap.size < wr.heap.size := by omega
      have hA := Lib.hid (show atS b t m s (IntKind.i64.wrap (nbS b t + 24)) = b + 3 * t + 24 by unfold atS; rw [if_pos HK.out, hN.out]; rw [IntWalk.i64_in _ ⟨by omega, by omega⟩])
      go_wp2_with fail
      refine (activeAt_any b t m s i ss st _ (by omega) (by omega) (by omega) (by omega) (by omega)).mono ?_
      rintro e w3 ⟨rfl, b3⟩
      have z3 := b3.size
      rw [hA.out]
      go_wp2_with fail
      refine (sto_any w1.heap.size _ ⟨b + 3 * t + 24, 4, 0⟩ _ (HST.out.keep (M := fun _ => False) (Below.keeps b3) (fun _ _ => id)) (by simp <;> omega)).mono ?_
      rintro e w4 ⟨rfl, st4, k4⟩
      have z4 := k4.size
      rw [← ini_4] at st4
      have HST' := Lib.hid st4
      have HKP' := Lib.hid ((HKP.out.trans (Below.keeps b3)).trans k4)
      have HLr' := Lib.hid ((HLr.out.below b3 (by omega)).keep k4 (by show ¬ w1.heap.size ≤ w.heap.size; omega))
      clear st4 k4 b3 HST HKP HLr c0 c1 c2 c3 c4 c5 c6
      obtain ⟨c0, c1, c2, c3, c4, c5, c6⟩ := lgV_cells HLr'.out
      have hL := Lib.hid (show atS b t m s (IntKind.i64.wrap (nbS b t + 32)) = b + 3 * t + 32 by unfold atS; rw [if_pos HK.out, hN.out]; rw [IntWalk.i64_in _ ⟨by omega, by omega⟩])
      have hW := Lib.hid (show atS b t m s (t.tdiv 2) = t / 2 by unfold atS; rw [if_pos HK.out, Int.tdiv_eq_ediv_of_nonneg (by omega)])
      have hW2 := Lib.hid (show atS b t m s (t / 2) = t / 2 by unfold atS; rw [if_pos HK.out])
      have W1 : IntKind.u64.wrap (t / 2) = t / 2 := by unfold IntKind.wrap; simp [IntKind.signed, IntKind.bits]; omega
      go_wp2_with fail
      go_region_held3 (fun w' => w'.cell? ⟨w.heap.size, 0, none⟩ = some (.int .i64 b) ∧ w'.cell? ⟨w.heap.size, 1, none⟩ = some (.int .i64 t) ∧ w'.cell? ⟨w.heap.size, 2, none⟩ = some (.int .i64 m) ∧ w'.cell? ⟨w.heap.size, 3, none⟩ = some (.int .i64 s) ∧ w'.cell? ⟨w.heap.size, 4, none⟩ = some (.int .i32 i) ∧ w'.cell? ⟨w.heap.size, 5, none⟩ = some (.int .i32 ss) ∧ w'.cell? ⟨w.heap.size, 6, none⟩ = some (.int .i32 st)) (first | go_keep | trivial)
        (first
          | (go_at_call 35; refine (limitAt_any b t m s i ss st _ (by omega) (by omega) (by omega) (by omega) (by omega)).mono ?_; rintro e w5 ⟨rfl, b5⟩; have z5 := b5.size; rw [hL.out]; have hc5 := fun o => b5.cell (p := ⟨w.heap.size, o, none⟩) (by simp; omega))
          | (go_at_call 40; refine (window_any b t m s i ss st _ (by omega) (by omega) (by omega) (by omega) (by omega)).mono ?_; rintro e w6 ⟨rfl, b6⟩; have z6 := b6.size; (first | rw [hW.out] | rw [hW2.out]); have hc6 := fun o => b6.cell (p := ⟨w.heap.size, o, none⟩) (by have hz := z5; simp at hz; show w.heap.size < w5.heap.size; omega))
          | (go_at_call 82; refine (sto_any w1.heap.size _ ⟨b + 3 * t + 32, 8, t / 2⟩ _ (((HST'.out.keep (M := fun _ => False) (Keep.drew (Keep.refl _ _)) (fun _ _ => id)).keep (M := fun _ => False) (Below.keeps b5) (fun _ _ => id)).keep (M := fun _ => False) (Below.keeps b6) (fun _ _ => id)) (by simp <;> omega)).mono ?_; rintro e w7 ⟨rfl, st7, k7⟩; have z7 := k7.size; have hc7 := fun o => k7.cell (b := w.heap.size) o (by simp at z5; omega) (by show ¬ w1.heap.size ≤ w.heap.size; omega)))
      rw [← ini_5] at st7
      simp at z5
      have HST7 := Lib.hid st7
      have HKP7 := Lib.hid (((HKP'.out.drew.trans (Below.keeps b5)).trans (Below.keeps b6)).trans k7)
      have HLr7 := Lib.hid ((((Blk.drew HLr'.out).below b5 (by simp; omega)).below b6 (by omega)).keep k7 (by show ¬ w1.heap.size ≤ w.heap.size; omega))
      clear st7 k7 b5 b6 HST' HKP' HLr' hc5 hc6 hc7 c0 c1 c2 c3 c4 c5 c6
      obtain ⟨c0, c1, c2, c3, c4, c5, c6⟩ := lgV_cells HLr7.out
      have hC := Lib.hid (show atS b t m s (IntKind.i64.wrap (nbS b t + 40)) = b + 3 * t + 40 by unfold atS; rw [if_pos HK.out, hN.out]; rw [IntWalk.i64_in _ ⟨by omega, by omega⟩])
      go_wp2_with fail
      refine (cleanAt_any b t m s i ss st _ (by omega) (by omega) (by omega) (by omega) (by omega)).mono ?_
      rintro e w8 ⟨rfl, b8'⟩
      have z8 := b8'.size
      rw [hC.out]
      go_wp2_with fail
      refine (sto_any w1.heap.size _ ⟨b + 3 * t + 40, 8, 0⟩ _ (HST7.out.keep (M := fun _ => False) (Below.keeps b8') (fun _ _ => id)) (by simp <;> omega)).mono ?_
      rintro e w9 ⟨rfl, st9, k9⟩
      have z9 := k9.size
      rw [← ini_6] at st9
      have HST9 := Lib.hid st9
      have HKP9 := Lib.hid ((HKP7.out.trans (Below.keeps b8')).trans k9)
      have HLr9 := Lib.hid ((HLr7.out.below b8' (by omega)).keep k9 (by show ¬ w1.heap.size ≤ w.heap.size; omega))
      clear st9 k9 b8' HST7 HKP7 HLr7 c0 c1 c2 c3 c4 c5 c6
      obtain ⟨c0, c1, c2, c3, c4, c5, c6⟩ := lgV_cells HLr9.out
      obtain ⟨sn, rfl⟩ := Int.eq_ofNat_of_zero_le (show 0 ≤ s by omega)
      go_wp2_with fail
      clear c0 c1 c2 c3 c4 c5 c6
      go_loopw [49] (fun x wr => ∃ j : Nat, j ≤ sn ∧ x = .int .i64 j ∧ StoSt wr w1.heap.size ((iniL b t sn i).take (6 + j)) ∧ Keep (w1.heap.size ≤ ·) w9 wr) (fun x _ => sn - (intOf x).toNat)
      case atStart => exact ⟨0, by omega, rfl, HST9.out, Keep.refl _ _⟩
      case round =>
        obtain ⟨j, hj, rfl, hst, hkp⟩ := hrel
        have zx := hkp.size
        have HLx := Lib.hid (HLr9.out.keep hkp (by omega))
        obtain ⟨c0, c1, c2, c3, c4, c5, c6⟩ := lgV_cells HLx.out
        have HST := Lib.hid hst
        have HKP := Lib.hid hkp
        clear hst hkp
        by_cases hlt : j < sn
        · have hS := Lib.hid (show oneS b t m sn (IntKind.i64.wrap (nbS b t + 48)) (j : Int) sn 8 = b + 3 * t + 48 + 8 * (j : Int) by unfold oneS; rw [if_pos HK.out, if_pos ⟨by omega, by omega⟩, hN.out, IntWalk.i64_in _ ⟨by omega, by omega⟩]; unfold wrap64; omega)
          go_wp2_with fail
          refine (subAt_any b t m sn i ss st j _ (by omega) (by omega) (by omega) (by omega) (by omega)).mono ?_
          rintro e w10 ⟨rfl, b10⟩
          have z10 := b10.size
          rw [hS.out]
          go_wp2_with fail
          refine (sto_any w1.heap.size _ ⟨b + 3 * t + 48 + 8 * (j : Int), 8, 0⟩ _ (HST.out.keep (M := fun _ => False) (Below.keeps b10) (fun _ _ => id)) (by simp <;> omega)).mono ?_
          rintro e w11 ⟨rfl, st11, k11⟩
          rw [← ini_sub b t sn i j (by omega)] at st11
          have ST11 := Lib.hid st11
          have K11 := Lib.hid ((HKP.out.trans (Below.keeps b10)).trans k11)
          clear st11 k11 b10 c0 c1 c2 c3 c4 c5 c6
          go_wp2
          exact ⟨⟨j + 1, by omega, by go_num, ST11.out, K11.out⟩, by simp [intOf]; omega⟩
        · obtain rfl : j = sn := by omega
          clear hlt hj
          have hfull := HST.out
          rw [List.take_of_length_le (by rw [ini_len]; omega)] at hfull
          obtain ⟨va, vn, vc, hvb, hvo⟩ := hfull
          obtain ⟨g, cap, hve, hcap, hgB, hgl, hrd⟩ := rdS_own hvo (by rw [ini_len]; omega)
          cases hve
          have hil := Lib.hid (ini_len b t (j : Int) i)
          obtain ⟨x0, L0, hx0⟩ : ∃ x L, iniL b t (j : Int) i = x :: L := ⟨_, _, rfl⟩
          have HX := Lib.hid hx0
          rw [hx0] at hrd hvb hcap hil
          have v0 := hvb.cell 0
          simp only [List.getElem?_cons_zero, List.length_cons] at v0 hrd
          have HRD := Lib.hid hrd
          have HQx := Lib.hid (Blk.keep (Blk.keep HQ2.out HKP9.out (by show ¬ w1.heap.size ≤ w.heap.size + 1; omega)) HKP.out (by show ¬ w1.heap.size ≤ w.heap.size + 1; omega))
          have tkl := hvb.lt
          rw [hx0]
          clear hvb hvo hrd hx0
          go_wp2_with fail
          refine (all_more (w.heap.size + 1) x0 L0 g 0 vc _ (fun i => i = w.heap.size + 1 ∨ i = g) HQx.out ⟨.inl rfl, .inr rfl, by omega⟩ (fun i hi => by rcases hi with rfl | rfl <;> omega) HRD.out).mono ?_
          rintro e w12 ⟨rfl, st12, k12⟩
          have ST12 := Lib.hid st12
          have B12 := Lib.hid ((HB2.out.trans ((HKP9.out.trans HKP.out).below (by omega) (fun k h1 h2 => by omega))).trans (k12.below (by omega) (fun k h1 h2 => by omega)))
          clear st12 k12 c0 c1 c2 c3 c4 c5 c6
          go_wp2
          go_ret
          rw [HX.out]
          refine ⟨w.heap.size + 1, _, rfl, ST12.out, fun i hi => ?_, B12.out⟩
          rcases hi with (rfl | rfl) | hi
          · omega
          · omega
          · omega
end Go.Proofs.Ytabifjolocmonaa
