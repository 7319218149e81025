/- law05.made, law05.said: the machine and what the document says of it. Conditions: as each says. -/
import Derived.Test.YtkbjbpaeoopkfaaKz
import Derived.Test.YtkbjbpaeoopkfaaTc
namespace Go.Proofs.Ytkbjbpaeoopkfaa
set_option maxRecDepth 100000
open Go.RowKit
set_option linter.unusedVariables false
set_option linter.unusedSimpArgs false
def cpM0 (kind a n : Int) (l : List Int) : CpM :=
  if kind % 3 = 0 then ⟨true, a, l, 0, []⟩ else if kind % 3 = 1 then ⟨true, a, List.replicate (if n ≤ 131072 then n.toNat else 0) 0, 0, []⟩ else ⟨false, a, [], if n ≤ 131072 then n.toNat else 0, []⟩
theorem cpM0_0 {kind a n : Int} {l : List Int} (h : kind % 3 = 0) : cpM0 kind a n l = ⟨true, a, l, 0, []⟩ := by unfold cpM0; rw [if_pos h]
theorem cpM0_1 {kind a n : Int} {l : List Int} (h : kind % 3 = 1) : cpM0 kind a n l = ⟨true, a, List.replicate (if n ≤ 131072 then n.toNat else 0) 0, 0, []⟩ := by unfold cpM0; rw [if_neg (by omega), if_pos h]
theorem cpM0_2 {kind a n : Int} {l : List Int} (h0 : kind % 3 ≠ 0) (h1 : kind % 3 ≠ 1) : cpM0 kind a n l = ⟨false, a, [], if n ≤ 131072 then n.toNat else 0, []⟩ := by unfold cpM0; rw [if_neg h0, if_neg h1]
def CpM.run (m : CpM) (T : List AnsV) : CpM := T.foldl (fun m x => m.step x.b) m
theorem CpM.run_snoc (m : CpM) (T : List AnsV) (x : AnsV) : m.run (T ++ [x]) = (m.run T).step x.b := by simp [CpM.run]
theorem take_snocA (T : List AnsV) (i : Nat) (h : i < T.length) : T.take (i + 1) = T.take i ++ [gA T i] := by
  rw [List.take_succ_eq_append_getElem h]
  simp [gA, h]
theorem run_wr (a : Int) (l : List Int) (n : Nat) (T : List AnsV) : ∀ i, i ≤ T.length → CpM.run ⟨true, a, l, n, []⟩ (T.take i) = ⟨true, a + 8 * (min i ((l.length + 7) / 8) : Nat), l.drop (8 * i), n, []⟩
  | 0, _ => by simp [CpM.run]
  | i + 1, h => by
    rw [take_snocA T i (by omega), CpM.run_snoc, run_wr a l n T i (by omega)]
    unfold CpM.step CpM.live
    by_cases h8 : 8 * i < l.length
    · have e : (l.drop (8 * i)).length ≠ 0 := by simp; omega
      simp only [e, ne_eq, not_false_eq_true, decide_true, if_true, List.drop_drop, CpM.mk.injEq, true_and, and_true]
      refine ⟨by omega, ?_⟩
      rw [show 8 * i + 8 = 8 * (i + 1) by omega]
    · have e : (l.drop (8 * i)).length = 0 := by simp; omega
      simp only [e, ne_eq, not_true_eq_false, decide_false, if_true, Bool.false_eq_true, if_false, CpM.mk.injEq, true_and, and_true]
      refine ⟨by omega, ?_⟩
      rw [List.drop_of_length_le (by omega), List.drop_of_length_le (by omega)]
theorem run_rd (a : Int) (l : List Int) (n : Nat) (T : List AnsV) : ∀ i, i ≤ T.length → CpM.run ⟨false, a, l, n, []⟩ (T.take i) = ⟨false, a + (min n (8 * i) : Nat), l, n - 8 * i, catB T 0 (min i ((n + 7) / 8))⟩
  | 0, _ => by simp [CpM.run, catB]
  | i + 1, h => by
    rw [take_snocA T i (by omega), CpM.run_snoc, run_rd a l n T i (by omega)]
    unfold CpM.step CpM.live
    by_cases h8 : 8 * i < n
    · have e : n - 8 * i ≠ 0 := by omega
      simp only [e, ne_eq, not_false_eq_true, decide_true, if_true, Bool.false_eq_true, if_false, CpM.mk.injEq, true_and, and_true]
      refine ⟨by omega, by omega, ?_⟩
      rw [show min (i + 1) ((n + 7) / 8) = i + 1 by omega, show min i ((n + 7) / 8) = i by omega, catB_succ, Nat.zero_add]
    · have e : n - 8 * i = 0 := by omega
      simp only [e, ne_eq, not_true_eq_false, decide_false, Bool.false_eq_true, if_false, CpM.mk.injEq, true_and, and_true]
      refine ⟨by omega, by omega, ?_⟩
      rw [show min (i + 1) ((n + 7) / 8) = (n + 7) / 8 by omega, show min i ((n + 7) / 8) = (n + 7) / 8 by omega]
set_option maxHeartbeats 1000000 in
theorem made_any (kind a n : Int) (s0 : Option Addr) (sl sc : Nat) (l : List Int) (w : World) (h : RdB w (.slice s0 sl sc) l) (hl : l.length ≤ 131072) (hk : 0 ≤ kind ∧ kind ≤ 255) :
    Calls Try.prog 29 #[.int .u8 kind, .int .i64 a, .int .i64 n, .slice s0 sl sc] w fun e w' => ∃ q, e = .returned (ptr q) ∧ w.heap.size ≤ q ∧ Below w.heap.size w w' ∧ Cp w' (fun i => w.heap.size ≤ i ∧ i < w'.heap.size) q (cpM0 kind a n l) := by
  have H := Lib.hid h
  obtain ⟨hk0, hk1⟩ := hk
  obtain ⟨r, hr⟩ : ∃ r, r = kind % 3 := ⟨_, rfl⟩
  have hr' := hr.symm
  clear h hr
  by_cases c0 : r = 0
  · have HM := Lib.hid (cpM0_0 (a := a) (n := n) (l := l) (hr'.trans c0))
    subst c0
    go_enter Try.func29, Try.ntmps29
    go_wp2_with fail
    refine (cpIn_any a s0 sl sc l _ H.out hl).mono ?_
    rintro e w1 ⟨q, O, rfl, hq, b1, st, hO⟩
    unfold ptr
    have ST := Lib.hid st
    have HO := Lib.hid hO
    clear st hO
    go_wp2
    go_ret
    refine ⟨q, rfl, hq, b1, ?_⟩
    rw [HM.out]
    exact cp_made_wr 0 hq ST.out HO.out
  by_cases c1 : r = 1
  · have HM := Lib.hid (cpM0_1 (a := a) (n := n) (l := l) (hr'.trans c1))
    subst c1
    by_cases hb : 131072 < n
    · go_enter Try.func29, Try.ntmps29
      go_wp2_with fail
      refine (cpZero_big a n _ hb).mono ?_
      rintro e w1 ⟨q, rfl, hq, b1, st⟩
      unfold ptr
      have ST := Lib.hid st
      clear st
      go_wp2
      go_ret
      refine ⟨q, rfl, hq, b1, ?_⟩
      rw [HM.out, if_neg (by omega)]
      exact cp_made_wr (O := fun _ => False) 0 hq (.inr ⟨rfl, ST.out⟩) (fun i hi => hi.elim)
    · by_cases hz : n ≤ 0
      · go_enter Try.func29, Try.ntmps29
        go_wp2_with fail
        refine (cpZero_none a n _ hz).mono ?_
        rintro e w1 ⟨q, rfl, hq, b1, st⟩
        unfold ptr
        have ST := Lib.hid st
        clear st
        go_wp2
        go_ret
        refine ⟨q, rfl, hq, b1, ?_⟩
        rw [HM.out, if_pos (by omega), show n.toNat = 0 by omega]
        exact cp_made_wr (O := fun _ => False) 0 hq (.inr ⟨rfl, ST.out⟩) (fun i hi => hi.elim)
      · obtain ⟨N, rfl⟩ := Int.eq_ofNat_of_zero_le (show 0 ≤ n by omega)
        go_enter Try.func29, Try.ntmps29
        go_wp2_with fail
        refine (cpZero_any a N _ (by omega)).mono ?_
        rintro e w1 ⟨q, O, rfl, hq, b1, st, hO⟩
        unfold ptr
        have ST := Lib.hid st
        have HO := Lib.hid hO
        clear st hO
        go_wp2
        go_ret
        refine ⟨q, rfl, hq, b1, ?_⟩
        rw [HM.out, if_pos (by omega), Int.toNat_natCast]
        exact cp_made_wr 0 hq ST.out HO.out
  · have n0 : ¬ r = 0 := c0
    have HM := Lib.hid (cpM0_2 (a := a) (n := n) (l := l) (fun h => c0 (hr'.symm.trans h)) (fun h => c1 (hr'.symm.trans h)))
    by_cases hb : n < 1 ∨ 131072 < n
    · have HB := Lib.hid hb
      clear hb
      go_enter Try.func29, Try.ntmps29
      go_wp2_with fail
      refine (cpOut_none a n _ HB.out.symm).mono ?_
      rintro e w1 ⟨q, rfl, hq, b1, st⟩
      unfold ptr
      have ST := Lib.hid st
      clear st
      go_wp2
      go_ret
      refine ⟨q, rfl, hq, b1, ?_⟩
      have hb := HB.out
      rw [HM.out, show (if n ≤ 131072 then n.toNat else 0) = 0 by split <;> omega]
      exact cp_made_rd (O := fun _ => False) [] hq ⟨accZ, .nilFunc, nilS, ST.out, OwB.nil _ _ _, (fun b hb => by cases hb), .inl ⟨rfl, rfl⟩⟩ (fun i hi => hi.elim)
    · obtain ⟨N, rfl⟩ := Int.eq_ofNat_of_zero_le (show 0 ≤ n by omega)
      go_enter Try.func29, Try.ntmps29
      go_wp2_with fail
      refine (cpOut_any a N _ (by omega)).mono ?_
      rintro e w1 ⟨q, O, rfl, hq, b1, st, hO⟩
      unfold ptr
      have ST := Lib.hid st
      have HO := Lib.hid hO
      clear st hO
      go_wp2
      go_ret
      refine ⟨q, rfl, hq, b1, ?_⟩
      rw [HM.out, if_pos (by omega), Int.toNat_natCast]
      exact cp_made_rd [] hq ST.out HO.out
/-- What said leaves: the tape wants what the machine wants. -/
def SaidPost (w : World) (tb : Nat) (tv : Value) (m : CpM) (e : Ending) (w' : World) : Prop :=
  Keep (· = tb) w w' ∧ ∃ r0 rl rc k s0 sl sc, e = .returned (.slice r0 rl rc) ∧ RdB w' (.slice r0 rl rc) m.hv ∧ Tp w' tb tv k ⟨m.ak, m.aa, m.an, 0, 0, .slice s0 sl sc⟩ m.live ∧ RdB w' (.slice s0 sl sc) m.ab
theorem in_said {w w' : World} {tb : Nat} {tv : Value} {T : List AnsV} {a : Int} {l : List Int} {n : Nat} {e : Ending} (h : InPost w tb 0 tv T accZ a l e w') :
    (e = .returned (.bool true) ∨ e = .returned (.bool false)) ∧ SaidPost w tb tv (CpM.run ⟨true, a, l, n, []⟩ T) (.returned (.slice none 0 0)) w' := by
  obtain ⟨k, h⟩ := h
  have hrun := run_wr a l n T T.length (Nat.le_refl _)
  rw [List.take_length] at hrun
  rw [hrun]
  rcases h with ⟨h1, rfl, ht⟩ | ⟨h1, rfl, s0, sl, sc, ht, hr⟩
  · have e0 : (l.drop (8 * T.length)) = [] := List.drop_of_length_le (by omega)
    refine ⟨.inl rfl, k, none, 0, 0, 0 + (l.length + 7) / 8, none, 0, 0, rfl, .inl ⟨rfl, rfl⟩, ?_, ?_⟩
    · rw [e0]
      exact ht
    · rw [e0]
      exact .inl ⟨rfl, rfl⟩
  · have e0 : (l.drop (8 * T.length)).length ≠ 0 := by simp; omega
    refine ⟨.inr rfl, k, none, 0, 0, T.length, s0, sl, sc, rfl, .inl ⟨rfl, rfl⟩, ?_, ?_⟩
    · rw [Nat.sub_zero] at ht
      simp only [CpM.ak, CpM.aa, CpM.an, CpM.live, e0, ne_eq, not_false_eq_true, decide_true, if_true]
      rw [show min T.length ((l.length + 7) / 8) = T.length by omega, show (l.drop (8 * T.length)).length = l.length - 8 * T.length by simp]
      exact ht
    · simpa [CpM.ab] using hr
set_option maxHeartbeats 1000000 in
theorem said_any (tb : Nat) (tv : Value) (T : List AnsV) (kind a n : Int) (s0 : Option Addr) (sl sc : Nat) (l : List Int) (w : World) (ht : Tp w tb tv 0 accZ false) (hT : TOk w tb tv T) (h : RdB w (.slice s0 sl sc) l) (hb : l.length ≠ 0 → (Value.slice s0 sl sc).ownBlock ≠ some tb) (hl : l.length ≤ 131072) (hk : 0 ≤ kind ∧ kind ≤ 255)
    (hn0 : -9223372036854775808 ≤ n) (ha : -2305843009213693952 ≤ a) (ha' : a ≤ 2305843009213693952) :
    Calls Try.prog 30 #[ptr tb, .int .u8 kind, .int .i64 a, .int .i64 n, .slice s0 sl sc] w (SaidPost w tb tv ((cpM0 kind a n l).run T)) := by
  have H := Lib.hid h
  have HT := Lib.hid hT
  have HP := Lib.hid ht
  have HB := Lib.hid hb
  obtain ⟨hk0, hk1⟩ := hk
  obtain ⟨r, hr⟩ : ∃ r, r = kind % 3 := ⟨_, rfl⟩
  have hr' := hr.symm
  unfold ptr
  clear h hr ht hT hb
  by_cases c0 : r = 0
  · have HM := Lib.hid (cpM0_0 (a := a) (n := n) (l := l) (hr'.trans c0))
    subst c0
    rw [HM.out]
    go_enter Try.func30, Try.ntmps30
    go_wp2_with fail
    refine (tIn_any tb 0 tv T accZ a s0 sl sc l _ HP.out HT.out (by omega) hl HB.out H.out ha ha').mono ?_
    rintro e w1 hp
    obtain ⟨hee, hsp⟩ := in_said (n := 0) hp
    have HSP := Lib.hid hsp
    clear hp hsp
    rcases hee with rfl | rfl
    · go_wp2
      go_ret
      exact HSP.out
    · go_wp2
      go_ret
      exact HSP.out
  by_cases c1 : r = 1
  · have HM := Lib.hid (cpM0_1 (a := a) (n := n) (l := l) (hr'.trans c1))
    subst c1
    by_cases hb : n < 1 ∨ 131072 < n
    · have HB2 := Lib.hid hb
      have hrep : List.replicate (if n ≤ 131072 then n.toNat else 0) (0 : Int) = [] := by
        rw [show (if n ≤ 131072 then n.toNat else 0) = 0 by split <;> omega]
        rfl
      rw [HM.out, hrep]
      clear hb hrep
      go_enter Try.func30, Try.ntmps30
      go_wp2_with fail
      refine (tZero_none tb 0 tv T accZ a n _ HP.out (by omega) HB2.out).mono ?_
      rintro e w1 hp
      obtain ⟨hee, hsp⟩ := in_said (n := 0) hp
      have HSP := Lib.hid hsp
      clear hp hsp
      rcases hee with rfl | rfl
      · go_wp2
        go_ret
        exact HSP.out
      · go_wp2
        go_ret
        exact HSP.out
    · obtain ⟨N, rfl⟩ := Int.eq_ofNat_of_zero_le (show 0 ≤ n by omega)
      rw [HM.out, if_pos (by omega), Int.toNat_natCast]
      go_enter Try.func30, Try.ntmps30
      go_wp2_with fail
      refine (tZero_row tb 0 tv T accZ a N _ HP.out HT.out (by omega) (by omega) (by omega) ha ha').mono ?_
      rintro e w1 hp
      obtain ⟨hee, hsp⟩ := in_said (n := 0) hp
      have HSP := Lib.hid hsp
      clear hp hsp
      rcases hee with rfl | rfl
      · go_wp2
        go_ret
        exact HSP.out
      · go_wp2
        go_ret
        exact HSP.out
  · have n0 : ¬ r = 0 := c0
    have HM := Lib.hid (cpM0_2 (a := a) (n := n) (l := l) (fun h => c0 (hr'.symm.trans h)) (fun h => c1 (hr'.symm.trans h)))
    rw [HM.out]
    obtain ⟨M, hM⟩ : ∃ M, M = (if n ≤ 131072 then n.toNat else 0) := ⟨_, rfl⟩
    rw [← hM]
    have HMM := Lib.hid hM
    clear hM
    have key : ∀ (N P : Nat) (w1 : World) (e : Ending), N = M → P = (N + 7) / 8 → OutPost w tb 0 tv T accZ a N P e w1 →
        ∃ v0 vl vc bb, e = .returned (.tuple #[.slice v0 vl vc, .bool bb]) ∧ SaidPost w tb tv (CpM.run ⟨false, a, [], M, []⟩ T) (.returned (.slice v0 vl vc)) w1 := by
      rintro N P w1 e hN hP ⟨k, v, h⟩
      rw [← hN]
      have hrun := run_rd a [] N T T.length (Nat.le_refl _)
      rw [List.take_length] at hrun
      rw [hrun]
      rcases h with ⟨h1, rfl, ho, htp⟩ | ⟨h1, rfl, ho, htp⟩
      · obtain ⟨v0, vl, vc, rfl⟩ := ho.isSliceC
        refine ⟨v0, vl, vc, true, rfl, k, v0, vl, vc, 0 + P, none, 0, 0, rfl, ?_, ?_, .inl ⟨rfl, rfl⟩⟩
        · rw [show min T.length ((N + 7) / 8) = P by omega]
          exact ho.rd
        · have e0 : N - 8 * T.length = 0 := by omega
          rw [e0]
          exact htp
      · obtain ⟨v0, vl, vc, rfl⟩ := ho.isSliceC
        refine ⟨v0, vl, vc, false, rfl, k, v0, vl, vc, T.length, none, 0, 0, rfl, ?_, ?_, .inl ⟨rfl, rfl⟩⟩
        · rw [show min T.length ((N + 7) / 8) = T.length - 0 by omega]
          exact ho.rd
        · have e0 : N - 8 * T.length ≠ 0 := by omega
          rw [Nat.sub_zero] at htp
          simp only [CpM.ak, CpM.aa, CpM.an, CpM.live, e0, ne_eq, not_false_eq_true, decide_true, if_true, Bool.false_eq_true, if_false]
          rw [show min N (8 * T.length) = 8 * T.length by omega, show a + ((8 * T.length : Nat) : Int) = a + 8 * (T.length : Int) by omega]
          exact htp
    have KEY := Lib.hid key
    clear key
    by_cases hb : n < 1 ∨ 131072 < n
    · have HB2 := Lib.hid hb
      clear hb
      go_enter Try.func30, Try.ntmps30
      go_wp2_with fail
      refine (tOut_none tb 0 tv T accZ a n 0 _ HP.out (by omega) hn0 HB2.out).mono ?_
      rintro e w1 hp
      obtain ⟨v0, vl, vc, bb, rfl, hsp⟩ := KEY.out 0 0 w1 e (by rw [HMM.out]; have := HB2.out; split <;> omega) rfl hp
      have HSP := Lib.hid hsp
      clear hp hsp
      go_wp2
      go_ret
      exact HSP.out
    · obtain ⟨N, rfl⟩ := Int.eq_ofNat_of_zero_le (show 0 ≤ n by omega)
      go_enter Try.func30, Try.ntmps30
      go_wp2_with fail
      refine (tOut_row tb 0 tv T accZ a N _ HP.out HT.out (by omega) (by omega) (by omega) ha ha').mono ?_
      rintro e w1 hp
      obtain ⟨v0, vl, vc, bb, rfl, hsp⟩ := KEY.out N _ w1 e (by rw [HMM.out, if_pos (by omega), Int.toNat_natCast]) rfl hp
      have HSP := Lib.hid hsp
      clear hp hsp
      go_wp2
      go_ret
      exact HSP.out
end Go.Proofs.Ytkbjbpaeoopkfaa
