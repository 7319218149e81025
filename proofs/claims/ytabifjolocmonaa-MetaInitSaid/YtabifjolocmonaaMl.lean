/- The walk of the law MetaInit. Conditions: the numbers are in their kinds' ranges. -/
import Derived.Test.YtabifjolocmonaaMk
import Derived.Test.YtabifjolocmonaaMw
import Derived.Test.YtabifjolocmonaaTd
namespace Go.Proofs.Ytabifjolocmonaa
set_option maxRecDepth 100000
open Go.RowKit
set_option linter.unusedVariables false
set_option linter.unusedSimpArgs false
def iniA (b t m s i : Int) : List Sto := if lgOk b t m s = true then iniL b t s i else []
theorem mnew_any (b t m s i ss st : Int) (w : World) (hb0 : -9223372036854775808 ≤ b) (hb1 : b ≤ 9223372036854775807) (ht : t ≤ 9223372036854775807) (hm0 : -9223372036854775808 ≤ m) (hi0 : -2147483648 ≤ i) (hi1 : i ≤ 2147483647) :
    Calls Try.prog 51 #[.agg #[.int .i64 b, .int .i64 t, .int .i64 m, .int .i64 s, .int .i32 i, .int .i32 ss, .int .i32 st]] w fun e w' => ∃ q F, e = .returned (ptrM q) ∧ IniSt w' F q (iniA b t m s i) ∧ (∀ i, F i → w.heap.size ≤ i) ∧ Below w.heap.size w w' := by
  unfold iniA
  by_cases hk : lgOk b t m s = true
  · rw [if_pos hk]
    exact mnew_ok b t m s i ss st w hk hi0 hi1
  · rw [if_neg hk]
    exact mnew_no b t m s i ss st w (by simpa using hk) hb0 hb1 ht hm0
theorem refInit_any (tb : Nat) (tv : Value) (T : List AnsV) (b t m s i ss st : Int) (w : World) (h : Tp w tb tv 0 accZ false) (hT : TOk w tb tv T) (hb0 : -9223372036854775808 ≤ b) (hb1 : b ≤ 9223372036854775807) (hm0 : -9223372036854775808 ≤ m) (hi0 : -2147483648 ≤ i) (hi1 : i ≤ 2147483647) :
    Calls Try.prog 52 #[.pointer (some ⟨tb, 0, none⟩), .agg #[.int .i64 b, .int .i64 t, .int .i64 m, .int .i64 s, .int .i32 i, .int .i32 ss, .int .i32 st]] w fun e w' => e = .returned (.tuple #[]) ∧ TI w' tb tv T (iniA b t m s i) ∧ Keep (· = tb) w w' := by
  unfold iniA
  by_cases hk : lgOk b t m s = true
  · rw [if_pos hk]
    exact refInit_ok tb tv T b t m s i ss st w h hT hk hi0 hi1
  · rw [if_neg hk]
    exact refInit_no tb tv T b t m s i ss st w h (by simpa using hk) hb0 hb1 hm0
theorem TI.want {w : World} {tb : Nat} {tv : Value} {T : List AnsV} {L : List Sto} (h : TI w tb tv T L) : ∃ k, Tp w tb tv k (((L.drop T.length).head?.map Sto.acc).getD accZ) ((L.drop T.length).head?.isSome) := by
  rcases h with ⟨h1, h2⟩ | ⟨h1, x, hx, h2⟩
  · refine ⟨L.length, ?_⟩
    rw [List.drop_of_length_le h1]
    exact h2
  · refine ⟨T.length, ?_⟩
    rw [List.head?_drop, hx]
    exact h2
theorem acc_form (o : Option Sto) : ∃ k a n v, (o.map Sto.acc).getD accZ = ⟨k, a, n, v, 0, .slice none 0 0⟩ := by
  cases o with
  | none => exact ⟨0, 0, 0, 0, rfl⟩
  | some x => exact ⟨2, x.a, x.n, x.v, rfl⟩
theorem rdA_capM {w : World} {a : Option Addr} {n c : Nat} {T : List AnsV} (h : RdA w (.slice a n c) T) : T.length ≤ c ∧ n = T.length := by
  rcases h with ⟨e, rfl⟩ | ⟨a', cap, e, rfl, hm⟩ | ⟨b, off, cap, e, hc, hm, hcell⟩
  · cases e; exact ⟨Nat.zero_le _, rfl⟩
  · cases e; exact ⟨Nat.zero_le _, rfl⟩
  · cases e; exact ⟨hc, rfl⟩
theorem Blk.c6m {w : World} {b : Nat} {x0 x1 x2 x3 x4 x5 : Value} (h : Blk w b [x0, x1, x2, x3, x4, x5]) : w.cell? ⟨b, 0, none⟩ = some x0 ∧ w.cell? ⟨b, 1, none⟩ = some x1 ∧ w.cell? ⟨b, 2, none⟩ = some x2 ∧ w.cell? ⟨b, 3, none⟩ = some x3 ∧ w.cell? ⟨b, 4, none⟩ = some x4 ∧ w.cell? ⟨b, 5, none⟩ = some x5 :=
  ⟨h.cell 0, h.cell 1, h.cell 2, h.cell 3, h.cell 4, h.cell 5⟩
theorem TOk.mk0m {w0 w1 : World} {t0 : Option Addr} {n c tb : Nat} {T : List AnsV} (hT : RdA w0 (.slice t0 n c) T) (hS : Sls T) (hTs : RdAs w0 T) (hlen : T.length ≤ 1000000) (j : Nat) (b : Below w0.heap.size w0 w1) (ht : w0.heap.size ≤ tb) (hj : j ≤ T.length) : TOk w1 tb (.slice t0 j c) (T.take j) := by
  have hlj : (T.take j).length = j := by simp; omega
  refine ⟨rdA_take (hT.below b) j hj, fun i hi => ?_, (hTs.below b).take j, fun h0 e => ?_, fun i hi h0 e => ?_, by omega⟩
  · rw [gA_take _ _ _ (by omega)]
    exact hS i (by omega)
  · have e2 : (Value.slice t0 n c).ownBlock = some tb := by
      cases t0 with
      | none => simp [Value.ownBlock] at e
      | some a => simpa [Value.ownBlock] using e
    have := hT.blk (by omega) tb e2
    omega
  · rw [gA_take _ _ _ (by omega)] at e h0
    have := (hTs i (by omega)).blk h0 tb e
    omega
set_option maxHeartbeats 1000000 in
theorem init_early (b t m s i ss st : Int) (t0 : Option Addr) (tn tc : Nat) (w : World) (h : (40 : Int) < (tn : Int)) :
    Calls Try.prog 9 #[.agg #[.int .i64 b, .int .i64 t, .int .i64 m, .int .i64 s, .int .i32 i, .int .i32 ss, .int .i32 st], .slice t0 tn tc] w fun r w' => r = .returned (.bool true) ∧ Below w.heap.size w w' := by
  go_enter Try.func9, Try.ntmps9
  go_wp2_with fail
  refine (fixed14_any _).mono ?_
  rintro r w1 ⟨rfl, b1⟩
  have B1 : Below w.heap.size w w1 := ((Below.refl w.heap.size w).alloc (Nat.le_refl _) _).trans (b1.mono (by simp))
  go_wp2
  go_ret
  exact ⟨rfl, B1⟩
set_option maxHeartbeats 4000000 in
theorem init_walk (b t m s i ss st : Int) (t0 : Option Addr) (tn tc : Nat) (T : List AnsV) (w : World) (hT : RdA w (.slice t0 tn tc) T) (hS : Sls T) (hTs : RdAs w T)
    (hb0 : -9223372036854775808 ≤ b) (hb1 : b ≤ 9223372036854775807) (ht : t ≤ 9223372036854775807) (hm0 : -9223372036854775808 ≤ m) (hi0 : -2147483648 ≤ i) (hi1 : i ≤ 2147483647) (c1 : ¬ (40 : Int) < (tn : Int)) :
    Calls Try.prog 9 #[.agg #[.int .i64 b, .int .i64 t, .int .i64 m, .int .i64 s, .int .i32 i, .int .i32 ss, .int .i32 st], .slice t0 tn tc] w fun r w' => r = .returned (.bool true) ∧ Below w.heap.size w w' := by
  obtain ⟨htc, htl⟩ := rdA_capM hT
  subst htl
  have htl9 : T.length ≤ 40 := by omega
  have HT := Lib.hid hT
  have HS := Lib.hid hS
  have HTS := Lib.hid hTs
  clear hT hS hTs
  go_enter Try.func9, Try.ntmps9
  go_wp2_with fail
  refine (fixed14_any _).mono ?_
  rintro r w1 ⟨rfl, b1⟩
  have z1 := b1.size
  rw [World.size_alloc] at z1
  have HL1 := Lib.hid (show Blk w1 w.heap.size (lgV b t m s i ss st) from Blk.below (Blk.made w #[Value.int IntKind.i64 b, Value.int IntKind.i64 t, Value.int IntKind.i64 m, Value.int IntKind.i64 s, Value.int IntKind.i32 i, Value.int IntKind.i32 ss, Value.int IntKind.i32 st] 41) b1 (by simp))
  have B1 := Lib.hid (show Below w.heap.size w w1 from ((Below.refl w.heap.size w).alloc (Nat.le_refl _) _).trans (b1.mono (by simp)))
  obtain ⟨l0, l1, l2, l3, l4, l5, l6⟩ := lgV_cells HL1.out
  clear b1
  go_wp2_with fail
  refine (mnew_any b t m s i ss st _ hb0 hb1 ht hm0 hi0 hi1).mono ?_
  rintro r w2 ⟨q, F, rfl, hst, hF, b2⟩
  unfold ptrM
  have z2 := b2.size
  obtain ⟨L, hL⟩ : ∃ L, L = iniA b t m s i := ⟨_, rfl⟩
  rw [← hL] at hst
  have HLL := Lib.hid hL
  have HST := Lib.hid hst
  have HF := Lib.hid hF
  have B2 := Lib.hid (B1.out.trans (b2.mono (by omega)))
  have HL2 := Lib.hid (HL1.out.below b2 (by omega))
  clear hL hst hF b2 l0 l1 l2 l3 l4 l5 l6 B1 HL1
  go_wp2_with fail
  go_loopw [6] (fun x wx => ∃ (j : Nat) (F : Nat → Prop), j ≤ T.length + 1 ∧ x = .int .i64 j ∧ IniSt wx F q (L.drop (min j T.length)) ∧ (∀ i, F i → w.heap.size < i) ∧ Blk wx w.heap.size (lgV b t m s i ss st) ∧ Below w.heap.size w wx) (fun x _ => T.length + 1 - (intOf x).toNat)
  case atStart => exact ⟨0, F, by omega, rfl, by simpa using HST.out, fun i hi => by have := HF.out i hi; omega, HL2.out, B2.out⟩
  case round =>
    obtain ⟨j, F, hj, rfl, hst, hF, hlb, hbel⟩ := hrel
    have zx := hbel.size
    have lbl := hlb.lt
    by_cases hjT : j ≤ T.length
    · have BX := Lib.hid hbel
      rw [show min j T.length = j by omega] at hst
      have HST := Lib.hid hst
      have HF := Lib.hid hF
      have HLB := Lib.hid hlb
      obtain ⟨l0, l1, l2, l3, l4, l5, l6⟩ := lgV_cells hlb
      have qx := hst.2.1 q hst.1
      clear hbel hst hF hlb
      go_wp2_with fail
      have htp0 : Tp (wr.alloc (Obj.cells #[Value.slice t0 j tc, Value.int IntKind.i64 0, Value.int IntKind.i64 0, Value.int IntKind.i64 0, Value.int IntKind.i64 0, Value.int IntKind.u64 0, Value.int IntKind.u64 0, Value.slice none 0 0, Value.bool false] 62)) wr.heap.size (.slice t0 j tc) 0 accZ false := Blk.made wr #[Value.slice t0 j tc, Value.int IntKind.i64 0, Value.int IntKind.i64 0, Value.int IntKind.i64 0, Value.int IntKind.i64 0, Value.int IntKind.u64 0, Value.int IntKind.u64 0, Value.slice none 0 0, Value.bool false] _
      have hba : Below w.heap.size w (wr.alloc (Obj.cells #[Value.slice t0 j tc, Value.int IntKind.i64 0, Value.int IntKind.i64 0, Value.int IntKind.i64 0, Value.int IntKind.i64 0, Value.int IntKind.u64 0, Value.int IntKind.u64 0, Value.slice none 0 0, Value.bool false] 62)) := BX.out.alloc zx _
      refine (refInit_any wr.heap.size (.slice t0 j tc) (T.take j) b t m s i ss st _ htp0 (TOk.mk0m HT.out HS.out HTS.out (by omega) j hba zx hjT) hb0 hb1 hm0 hi0 hi1).mono ?_
      rw [← HLL.out]
      rintro e w5 ⟨rfl, hti, k5⟩
      obtain ⟨kk, hwant⟩ := hti.want
      rw [show (T.take j).length = j by simp; omega] at hwant
      have z5 := k5.size
      rw [World.size_alloc] at z5
      have tbl := hti.lt
      have KS := Lib.hid (((Keep.refl (fun i => i = wr.heap.size) wr).alloc _).trans k5)
      have HST5 := Lib.hid (HST.out.keep KS.out (fun i hi e => by have := HST.out.2.1 i hi; omega))
      have HLB5 := Lib.hid (HLB.out.keep KS.out (by show ¬ w.heap.size = wr.heap.size; omega))
      have HTP5 := Lib.hid hwant
      have B5 := Lib.hid (BX.out.trans (KS.out.below zx (fun k h1 h2 => by omega)))
      clear htp0 hba k5 hti hwant KS HST l0 l1 l2 l3 l4 l5 l6
      go_wp2_with fail
      refine (iNext_any F q (L.drop j) _ HST5.out).mono ?_
      rintro e w6 ⟨rfl, b6⟩
      obtain ⟨ak, aa, an, av, hac⟩ := acc_form (L.drop j).head?
      obtain ⟨lv, hlv⟩ : ∃ lv, lv = (L.drop j).head?.isSome := ⟨_, rfl⟩
      have htp := HTP5.out
      rw [hac, ← hlv] at htp ⊢
      unfold Acc.V
      dsimp only
      have z6 := b6.size
      have HST6 := Lib.hid (HST5.out.keep (M := fun _ => False) (Below.keeps b6) (fun _ _ => id))
      have HTP6 := Lib.hid (Blk.below htp b6 tbl)
      have HLB6 := Lib.hid (HLB5.out.below b6 (by omega))
      have B6 := Lib.hid (B5.out.trans (b6.mono (by omega)))
      clear b6 htp hac hlv HST5 HTP5 HLB5 B5
      go_wp2_with fail
      obtain ⟨w8, hw8⟩ : ∃ w8, w8 = w6.alloc (Obj.cells #[Value.int IntKind.i64 ak, Value.int IntKind.i64 aa, Value.int IntKind.i64 an, Value.int IntKind.u64 av, Value.int IntKind.u64 0, Value.slice none 0 0] 60) := ⟨_, rfl⟩
      rw [← hw8]
      have b8 : Below w6.heap.size w6 w8 := by rw [hw8]; exact (Below.refl _ _).alloc (Nat.le_refl _) _
      have HB8 := Lib.hid (show Blk w8 w6.heap.size [Value.int IntKind.i64 ak, Value.int IntKind.i64 aa, Value.int IntKind.i64 an, Value.int IntKind.u64 av, Value.int IntKind.u64 0, Value.slice none 0 0] by rw [hw8]; exact Blk.made w6 _ _)
      have z8 : w6.heap.size < w8.heap.size := by rw [hw8, World.size_alloc]; omega
      clear hw8
      have HT8 := Lib.hid (Blk.below HTP6.out b8 (by omega))
      have HST8 := Lib.hid (HST6.out.keep (M := fun _ => False) (Below.keeps b8) (fun _ _ => id))
      have HLB8 := Lib.hid (HLB6.out.below b8 (by omega))
      have B8 := Lib.hid (B6.out.trans (b8.mono (by omega)))
      clear HTP6 HST6 HLB6 B6 b8
      obtain ⟨cb0, cb1, cb2, cb3, cb4, cb5⟩ := Blk.c6m (w := w8) HB8.out
      obtain ⟨-, -, ct2, ct3, ct4, ct5, ct6, ct7, ct8⟩ := Tp.cells (w := w8) HT8.out
      go_wp2_with fail
      refine wp_region_held_drew (S := (fun w' => w'.cell? ⟨w6.heap.size, 0, none⟩ = some (.int .i64 ak) ∧ w'.cell? ⟨w6.heap.size, 1, none⟩ = some (.int .i64 aa) ∧ w'.cell? ⟨w6.heap.size, 2, none⟩ = some (.int .i64 an) ∧ w'.cell? ⟨w6.heap.size, 3, none⟩ = some (.int .u64 av) ∧ w'.cell? ⟨w6.heap.size, 4, none⟩ = some (.int .u64 0) ∧ w'.cell? ⟨w6.heap.size, 5, none⟩ = some (.slice none 0 0) ∧ w'.cell? ⟨wr.heap.size, 2, none⟩ = some (.int .i64 ak) ∧ w'.cell? ⟨wr.heap.size, 3, none⟩ = some (.int .i64 aa) ∧ w'.cell? ⟨wr.heap.size, 4, none⟩ = some (.int .i64 an) ∧ w'.cell? ⟨wr.heap.size, 5, none⟩ = some (.int .u64 av) ∧ w'.cell? ⟨wr.heap.size, 6, none⟩ = some (.int .u64 0) ∧ w'.cell? ⟨wr.heap.size, 7, none⟩ = some (.slice none 0 0) ∧ w'.cell? ⟨wr.heap.size, 8, none⟩ = some (.bool lv))) (by kernel_rfl) ?_ (fun hHeld => ?_)
      · try dsimp only
        go_keep
      refine wpAnyH_take (i := 0) (v := ?_) rfl (by kernel_rfl) (by kernel_rfl) (by kernel_rfl) (fun _ _ _ h => h) (Or.inl ⟨by rfl, ?_⟩) (by assumption) ?_
      rotate_left
      · intro w0 hSw
        (try dsimp only at hSw)
        go_simp
        try with_reducible rfl
      simp only [Act.put, List.getElem_toArray, List.getElem_cons_zero, List.getElem_cons_succ, List.setIfInBounds_toArray, List.set_cons_zero, List.set_cons_succ]
      refine wpAnyH_take (i := 1) (v := ?_) rfl (by kernel_rfl) (by kernel_rfl) (by kernel_rfl) (fun _ _ _ h => h) (Or.inl ⟨by rfl, ?_⟩) (by assumption) ?_
      rotate_left
      · intro w0 hSw
        (try dsimp only at hSw)
        go_simp
        try with_reducible rfl
      simp only [Act.put, List.getElem_toArray, List.getElem_cons_zero, List.getElem_cons_succ, List.setIfInBounds_toArray, List.set_cons_zero, List.set_cons_succ]
      refine wpAnyH_take (i := 2) (v := ?_) rfl (by kernel_rfl) (by kernel_rfl) (by kernel_rfl) (fun _ _ _ h => h) (Or.inl ⟨by rfl, ?_⟩) (by assumption) ?_
      rotate_left
      · intro w0 hSw
        (try dsimp only at hSw)
        go_simp
        try with_reducible rfl
      simp only [Act.put, List.getElem_toArray, List.getElem_cons_zero, List.getElem_cons_succ, List.setIfInBounds_toArray, List.set_cons_zero, List.set_cons_succ]
      refine wpAnyH_take (i := 3) (v := ?_) rfl (by kernel_rfl) (by kernel_rfl) (by kernel_rfl) (fun _ _ _ h => h) (Or.inl ⟨by rfl, ?_⟩) (by assumption) ?_
      rotate_left
      · intro w0 hSw
        (try dsimp only at hSw)
        go_simp
        try with_reducible rfl
      simp only [Act.put, List.getElem_toArray, List.getElem_cons_zero, List.getElem_cons_succ, List.setIfInBounds_toArray, List.set_cons_zero, List.set_cons_succ]
      refine wpAnyH_take (i := 4) (v := ?_) rfl (by kernel_rfl) (by kernel_rfl) (by kernel_rfl) (fun _ _ _ h => h) (Or.inl ⟨by rfl, ?_⟩) (by assumption) ?_
      rotate_left
      · intro w0 hSw
        (try dsimp only at hSw)
        go_simp
        try with_reducible rfl
      simp only [Act.put, List.getElem_toArray, List.getElem_cons_zero, List.getElem_cons_succ, List.setIfInBounds_toArray, List.set_cons_zero, List.set_cons_succ]
      refine wpAnyH_take (i := 5) (v := ?_) rfl (by kernel_rfl) (by kernel_rfl) (by kernel_rfl) (fun _ _ _ h => h) (Or.inl ⟨by rfl, ?_⟩) (by assumption) ?_
      rotate_left
      · intro w0 hSw
        (try dsimp only at hSw)
        go_simp
        try with_reducible rfl
      simp only [Act.put, List.getElem_toArray, List.getElem_cons_zero, List.getElem_cons_succ, List.setIfInBounds_toArray, List.set_cons_zero, List.set_cons_succ]
      refine wpAnyH_take (i := 6) (v := ?_) rfl (by kernel_rfl) (by kernel_rfl) (by kernel_rfl) (fun _ _ _ h => h) (Or.inl ⟨by rfl, ?_⟩) (by assumption) ?_
      rotate_left
      · intro w0 hSw
        (try dsimp only at hSw)
        go_simp
        try with_reducible rfl
      simp only [Act.put, List.getElem_toArray, List.getElem_cons_zero, List.getElem_cons_succ, List.setIfInBounds_toArray, List.set_cons_zero, List.set_cons_succ]
      refine wpAnyH_take (i := 7) (v := ?_) rfl (by kernel_rfl) (by kernel_rfl) (by kernel_rfl) (fun _ _ _ h => h) (Or.inl ⟨by rfl, ?_⟩) (by assumption) ?_
      rotate_left
      · intro w0 hSw
        (try dsimp only at hSw)
        go_simp
        try with_reducible rfl
      simp only [Act.put, List.getElem_toArray, List.getElem_cons_zero, List.getElem_cons_succ, List.setIfInBounds_toArray, List.set_cons_zero, List.set_cons_succ]
      refine wpAnyH_take (i := 8) (v := ?_) rfl (by kernel_rfl) (by kernel_rfl) (by kernel_rfl) (fun _ _ _ h => h) (Or.inl ⟨by rfl, ?_⟩) (by assumption) ?_
      rotate_left
      · intro w0 hSw
        (try dsimp only at hSw)
        go_simp
        try with_reducible rfl
      simp only [Act.put, List.getElem_toArray, List.getElem_cons_zero, List.getElem_cons_succ, List.setIfInBounds_toArray, List.set_cons_zero, List.set_cons_succ]
      refine wpAnyH_take (i := 9) (v := ?_) rfl (by kernel_rfl) (by kernel_rfl) (by kernel_rfl) (fun _ _ _ h => h) (Or.inl ⟨by rfl, ?_⟩) (by assumption) ?_
      rotate_left
      · intro w0 hSw
        (try dsimp only at hSw)
        go_simp
        try with_reducible rfl
      simp only [Act.put, List.getElem_toArray, List.getElem_cons_zero, List.getElem_cons_succ, List.setIfInBounds_toArray, List.set_cons_zero, List.set_cons_succ]
      refine wpAnyH_take (i := 10) (v := ?_) rfl (by kernel_rfl) (by kernel_rfl) (by kernel_rfl) (fun _ _ _ h => h) (Or.inl ⟨by rfl, ?_⟩) (by assumption) ?_
      rotate_left
      · intro w0 hSw
        (try dsimp only at hSw)
        go_simp
        try with_reducible rfl
      simp only [Act.put, List.getElem_toArray, List.getElem_cons_zero, List.getElem_cons_succ, List.setIfInBounds_toArray, List.set_cons_zero, List.set_cons_succ]
      refine wpAnyH_take (i := 11) (v := ?_) rfl (by kernel_rfl) (by kernel_rfl) (by kernel_rfl) (fun _ _ _ h => h) (Or.inl ⟨by rfl, ?_⟩) (by assumption) ?_
      rotate_left
      · intro w0 hSw
        (try dsimp only at hSw)
        go_simp
        try with_reducible rfl
      simp only [Act.put, List.getElem_toArray, List.getElem_cons_zero, List.getElem_cons_succ, List.setIfInBounds_toArray, List.set_cons_zero, List.set_cons_succ]
      refine wpAnyH_ready (rs := [12]) (by kernel_rfl) (by simp) ?_
      refine AllReadyH.cons rfl (fun K hK => ?_) AllReadyH.nil
      go_simp
      go_at_call 48
      refine (sameAcc_true ak aa an av 0 _ _ _ _ _ _ [] _ (.inl ⟨rfl, rfl⟩) (.inl ⟨rfl, rfl⟩)).mono ?_
      rintro r w9 ⟨rfl, b9⟩
      have z9 := b9.size
      simp at z9
      have hb9b := fun o => b9.cell (p := ⟨w6.heap.size, o, none⟩) (by simp; try omega)
      have hb9t := fun o => b9.cell (p := ⟨wr.heap.size, o, none⟩) (by simp; try omega)
      go_wp2_with fail
      refine hK.out _ _ ?_ (fun hHeld => ?_)
      · try dsimp only
        go_keep
      clear hK K
      try simp only [Act.put, List.getElem_toArray, List.getElem_cons_zero, List.getElem_cons_succ, List.setIfInBounds_toArray, List.set_cons_zero, List.set_cons_succ]
      refine wpAnyH_take (i := 13) (v := ?_) rfl (by kernel_rfl) (by kernel_rfl) (by kernel_rfl) (fun _ _ _ h => h) (Or.inl ⟨by rfl, ?_⟩) (by assumption) ?_
      rotate_left
      · intro w0 hSw
        (try dsimp only at hSw)
        go_simp
        try with_reducible rfl
      simp only [Act.put, List.getElem_toArray, List.getElem_cons_zero, List.getElem_cons_succ, List.setIfInBounds_toArray, List.set_cons_zero, List.set_cons_succ]
      refine wpAnyH_take (i := 14) (v := ?_) rfl (by kernel_rfl) (by kernel_rfl) (by kernel_rfl) (fun _ _ _ h => h) (Or.inl ⟨by rfl, ?_⟩) (by assumption) ?_
      rotate_left
      · intro w0 hSw
        (try dsimp only at hSw)
        go_simp
        try with_reducible rfl
      simp only [Act.put, List.getElem_toArray, List.getElem_cons_zero, List.getElem_cons_succ, List.setIfInBounds_toArray, List.set_cons_zero, List.set_cons_succ]
      refine wpAnyH_done (by kernel_rfl) ?_ _
      have hb811 : Below w8.heap.size w8 w9 := (bel_drewN 1 (Below.refl w8.heap.size w8)).trans (b9.mono (by simp))
      have B11 := Lib.hid (B8.out.trans (hb811.mono (by omega)))
      have HST11 := Lib.hid (HST8.out.keep (M := fun _ => False) (Below.keeps hb811) (fun _ _ => id))
      have HLB11 := Lib.hid (HLB8.out.below hb811 (by omega))
      have z811 := hb811.size
      clear hHeld hb9b hb9t hb811 b9 cb0 cb1 cb2 cb3 cb4 cb5 ct2 ct3 ct4 ct5 ct6 ct7 ct8 HB8 HT8 HST8 B8 HLB8
      by_cases hjl : j < T.length
      · obtain ⟨bb, off, rfl, hcell⟩ : ∃ b off, t0 = some ⟨b, off, none⟩ ∧ ∀ i, i < T.length → w9.cell? ⟨b, off + i * 3, none⟩ = some (.int .u64 (gA T i).v) ∧ w9.cell? ⟨b, off + i * 3 + 1, none⟩ = some (.bool (gA T i).d) ∧ w9.cell? ⟨b, off + i * 3 + 2, none⟩ = some (gA T i).s := by
          rcases HT.out.below B11.out with ⟨_, e⟩ | ⟨_, _, _, e, _⟩ | ⟨b, off, cap, e1, e2, e3, e4⟩
          · rw [e] at hjl; cases hjl
          · rw [e] at hjl; cases hjl
          · cases e1
            exact ⟨b, off, rfl, e4⟩
        obtain ⟨y0, y1, y2⟩ := hcell j hjl
        obtain ⟨sa, sn, scc, hsv⟩ := HS.out j hjl
        rw [hsv] at y2
        have hjli : (j : Int) < (T.length : Int) := by omega
        clear hcell hsv
        go_wp2_with fail
        refine (iTake_any F q (L.drop j) _ _ sa sn scc _ HST11.out).mono ?_
        rintro e w12 ⟨rfl, F', hst', hF', k12⟩
        rw [List.tail_drop] at hst'
        have HST12 := Lib.hid hst'
        have HF' := Lib.hid hF'
        have HLB12 := Lib.hid (HLB11.out.keep k12 (fun h => by have := HF.out _ h; omega))
        have B12 := Lib.hid (B11.out.trans (k12.below (by omega) (fun k h1 h2 => by have := HF.out k h2; omega)))
        clear hst' hF' k12
        go_wp2
        refine ⟨⟨j + 1, F', by omega, by go_num, by rw [show min (j + 1) T.length = j + 1 by omega]; exact HST12.out, fun i hi => ?_, HLB12.out, B12.out⟩, by simp [intOf]; omega⟩
        rcases HF'.out i hi with h | h
        · exact HF.out i h
        · omega
      · have hjli : ¬ (j : Int) < (T.length : Int) := by omega
        go_wp2
        refine ⟨⟨j + 1, fun i => F i, by omega, by go_num, ?_, fun i hi => HF.out i hi, HLB11.out, B11.out⟩, by simp [intOf]; omega⟩
        rw [show min (j + 1) T.length = j by omega]
        exact HST11.out
    · have e1 : (j : Int) = (T.length : Int) + 1 := by omega
      have BX := Lib.hid hbel
      clear hbel hst hF hlb
      go_wp2_with fail
      refine (iTake_nil 0 false none 0 0 _).mono ?_
      rintro e w6 ⟨rfl, b6⟩
      have z6 := b6.size
      go_wp2_with fail
      refine (iNext_nil _).mono ?_
      rintro e w7 ⟨rfl, b7⟩
      have z7 := b7.size
      unfold Acc.V accZ
      dsimp only
      go_wp2
      go_ret
      exact ⟨rfl, ((BX.out.trans (b6.mono (by omega))).trans (b7.mono (by omega))).alloc (by omega) _⟩
theorem i64_bdi {a : Int} (h : (Lit.int .i64 a).wf = true) : -9223372036854775808 ≤ a ∧ a ≤ 9223372036854775807 := by
  simpa [Lit.wf, IntKind.min, IntKind.max, IntKind.signed, IntKind.bits] using h
theorem i32_bdi {a : Int} (h : (Lit.int .i32 a).wf = true) : -2147483648 ≤ a ∧ a ≤ 2147483647 := by
  simpa [Lit.wf, IntKind.min, IntKind.max, IntKind.signed, IntKind.bits] using h
theorem init_said (b t m s i ss st : Int) (wb : (Lit.int .i64 b).wf = true) (wt : (Lit.int .i64 t).wf = true) (wm : (Lit.int .i64 m).wf = true) (_ : (Lit.int .i64 s).wf = true) (wi : (Lit.int .i32 i).wf = true) (_ : (Lit.int .i32 ss).wf = true) (_ : (Lit.int .i32 st).wf = true) (t0 : Option Addr) (tn tc : Nat) (T : List AnsV) (w : World) (hT : RdA w (.slice t0 tn tc) T) (hA : AnsIs w T) :
    Calls Try.prog 9 #[.agg #[.int .i64 b, .int .i64 t, .int .i64 m, .int .i64 s, .int .i32 i, .int .i32 ss, .int .i32 st], .slice t0 tn tc] w fun r w' => r = .returned (.bool true) ∧ Below w.heap.size w w' := by
  have bb := i64_bdi wb
  have bt := i64_bdi wt
  have bm := i64_bdi wm
  have bi := i32_bdi wi
  by_cases h : (40 : Int) < (tn : Int)
  · exact init_early b t m s i ss st t0 tn tc w h
  · exact init_walk b t m s i ss st t0 tn tc T w hT (fun i hi => (hA i hi).1) (fun i hi => (hA i hi).2.1) bb.1 bb.2 bt.2 bm.1 bi.1 bi.2 h
end Go.Proofs.Ytabifjolocmonaa
