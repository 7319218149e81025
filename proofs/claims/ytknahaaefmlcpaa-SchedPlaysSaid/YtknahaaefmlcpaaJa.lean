/- ref06: a job in memory, and its next access. Conditions: as each says. -/
import Derived.Test.YtknahaaefmlcpaaSr
import Derived.Test.YtknahaaefmlcpaaTc
import Derived.Test.YtknahaaefmlcpaaRg
import Derived.BigRegion
namespace Go.Proofs.Ytknahaaefmlcpaa
set_option maxRecDepth 100000
open Go.RowKit
set_option linter.unusedVariables false
set_option linter.unusedSimpArgs false
/-- A machine that was told answers. -/
def CpM.told (m : CpM) (T : List AnsV) : CpM := T.foldl (fun m x => m.step x.b) m
theorem CpM.told_snoc (m : CpM) (T : List AnsV) (x : AnsV) : m.told (T ++ [x]) = (m.told T).step x.b := by simp [CpM.told]
theorem take_snocJ (T : List AnsV) (i : Nat) (h : i < T.length) : T.take (i + 1) = T.take i ++ [gA T i] := by
  rw [List.take_succ_eq_append_getElem h]
  simp [gA, h]
theorem told_wr (a : Int) (l : List Int) (n : Nat) (T : List AnsV) : ∀ i, i ≤ T.length → CpM.told ⟨true, a, l, n, []⟩ (T.take i) = ⟨true, a + 8 * (min i ((l.length + 7) / 8) : Nat), l.drop (8 * i), n, []⟩
  | 0, _ => by simp [CpM.told]
  | i + 1, h => by
    rw [take_snocJ T i (by omega), CpM.told_snoc, told_wr a l n T i (by omega)]
    unfold CpM.step CpM.live
    by_cases h8 : 8 * i < l.length
    · have e : (l.drop (8 * i)).length ≠ 0 := by simp; omega
      simp only [e, ne_eq, not_false_eq_true, decide_true, if_true, List.drop_drop, CpM.mk.injEq, true_and, and_true]
      refine ⟨by omega, ?_⟩
      rw [show 8 * i + 8 = 8 * (i + 1) by omega]
    · have e : (l.drop (8 * i)).length = 0 := by simp; omega
      simp only [e, ne_eq, not_true_eq_false, decide_false, if_true, Bool.false_eq_true, if_false, CpM.mk.injEq, true_and, and_true]
      refine ⟨by omega, ?_⟩
      rw [List.drop_of_length_le (by omega), List.drop_of_length_le (by omega)]
theorem told_rd (a : Int) (l : List Int) (n : Nat) (T : List AnsV) : ∀ i, i ≤ T.length → CpM.told ⟨false, a, l, n, []⟩ (T.take i) = ⟨false, a + (min n (8 * i) : Nat), l, n - 8 * i, catB T 0 (min i ((n + 7) / 8))⟩
  | 0, _ => by simp [CpM.told, catB]
  | i + 1, h => by
    rw [take_snocJ T i (by omega), CpM.told_snoc, told_rd a l n T i (by omega)]
    unfold CpM.step CpM.live
    by_cases h8 : 8 * i < n
    · have e : n - 8 * i ≠ 0 := by omega
      simp only [e, ne_eq, not_false_eq_true, decide_true, if_true, Bool.false_eq_true, if_false, CpM.mk.injEq, true_and, and_true]
      refine ⟨by omega, by omega, ?_⟩
      rw [show min (i + 1) ((n + 7) / 8) = i + 1 by omega, show min i ((n + 7) / 8) = i by omega, catB_succ, Nat.zero_add]
    · have e : n - 8 * i = 0 := by omega
      simp only [e, ne_eq, not_true_eq_false, decide_false, Bool.false_eq_true, if_false, CpM.mk.injEq, true_and, and_true]
      refine ⟨by omega, by omega, ?_⟩
      rw [show min (i + 1) ((n + 7) / 8) = (n + 7) / 8 by omega, show min i ((n + 7) / 8) = (n + 7) / 8 by omega]
/-- A job. -/
structure JbS where
  k : Int
  a : Int
  n : Int
  s : Value
  b : List Int
  t : Value
  T : List AnsV
  d : Bool
def JbS.cs (j : JbS) : List Value := [.int .i64 j.k, .int .i64 j.a, .int .i64 j.n, j.s, j.t, .bool j.d]
def JbS.mac (j : JbS) : CpM := (jbM j.k j.a j.n j.b).told j.T
structure JbS.Ok (w : World) (j : JbS) : Prop where
  k0 : 0 ≤ j.k
  k1 : j.k ≤ 2
  a0 : 0 ≤ j.a
  a1 : j.a ≤ 1000
  n0 : 0 ≤ j.n
  n1 : j.n ≤ 1000
  s : ∃ a n c, j.s = .slice a n c
  r : RdB w j.s j.b
  l : j.b.length ≤ 1000
  rd : RdA w j.t j.T
  sl : Sls j.T
  rds : RdAs w j.T
  len : j.T.length ≤ 100000
  lens : ∀ i, i < j.T.length → (gA j.T i).b.length ≤ 1000
theorem JbS.Ok.below {w w' : World} {j : JbS} (h : JbS.Ok w j) (b : Below w.heap.size w w') : JbS.Ok w' j :=
  ⟨h.k0, h.k1, h.a0, h.a1, h.n0, h.n1, h.s, h.r.below b, h.l, h.rd.below b, h.sl, h.rds.below b, h.len, h.lens⟩
theorem JbS.Ok.tok {w w' : World} {j : JbS} (h : JbS.Ok w j) (b : Below w.heap.size w w') {tb : Nat} (ht : w.heap.size ≤ tb) : TOk w' tb j.t j.T := by
  refine ⟨h.rd.below b, h.sl, h.rds.below b, fun h0 e => ?_, fun i hi h0 e => ?_, by have := h.len; omega⟩
  · have := h.rd.blk h0 tb e
    omega
  · have := (h.rds i hi).blk h0 tb e
    omega
/-- A tape that stands where a machine stands. -/
def TapeAt (P : Nat → Prop) (w : World) (tb : Nat) (tv : Value) (m : CpM) : Prop :=
  ∃ k s0 sl sc, Tp w tb tv k ⟨m.ak, m.aa, m.an, 0, 0, .slice s0 sl sc⟩ m.live ∧ RdB w (.slice s0 sl sc) m.ab ∧ ∀ i, (Value.slice s0 sl sc).ownBlock = some i → P i ∧ i < w.heap.size
theorem in_told {w w' : World} {tb : Nat} {tv : Value} {T : List AnsV} {a : Int} {l : List Int} {n : Nat} {P : Nat → Prop} {e : Ending} (h : InPostO w tb 0 tv T accZ a l P e w') :
    (∃ b : Bool, e = .returned (.bool b)) ∧ Keep (· = tb) w w' ∧ TapeAt P w' tb tv (CpM.told ⟨true, a, l, n, []⟩ T) := by
  obtain ⟨k, h⟩ := h
  have hrun := told_wr a l n T T.length (Nat.le_refl _)
  rw [List.take_length] at hrun
  rw [hrun]
  rcases h with ⟨h1, rfl, ht⟩ | ⟨h1, rfl, s0, sl, sc, ht, hr, ho⟩
  · have e0 : (l.drop (8 * T.length)) = [] := List.drop_of_length_le (by omega)
    refine ⟨⟨_, rfl⟩, k, 0 + (l.length + 7) / 8, none, 0, 0, ?_, ?_, fun i hi => by cases hi⟩
    · rw [e0]
      exact ht
    · rw [e0]
      exact .inl ⟨rfl, rfl⟩
  · have e0 : (l.drop (8 * T.length)).length ≠ 0 := by simp; omega
    refine ⟨⟨_, rfl⟩, k, T.length, s0, sl, sc, ?_, ?_, fun i hi => ⟨ho i hi, hr.blk (by simp; omega) i hi⟩⟩
    · rw [Nat.sub_zero] at ht
      simp only [CpM.ak, CpM.aa, CpM.an, CpM.live, e0, ne_eq, not_false_eq_true, decide_true, if_true]
      rw [show min T.length ((l.length + 7) / 8) = T.length by omega, show (l.drop (8 * T.length)).length = l.length - 8 * T.length by simp]
      exact ht
    · simpa [CpM.ab] using hr
theorem out_told {w w' : World} {tb : Nat} {tv : Value} {T : List AnsV} {a : Int} {N p : Nat} {P : Nat → Prop} {e : Ending} (hp : p = (N + 7) / 8) (h : OutPost w tb 0 tv T accZ a N p e w') :
    (∃ v0 vl vc bb, e = .returned (.tuple #[.slice v0 vl vc, .bool bb])) ∧ Keep (· = tb) w w' ∧ TapeAt P w' tb tv (CpM.told ⟨false, a, [], N, []⟩ T) := by
  obtain ⟨k, v, h⟩ := h
  have hrun := told_rd a [] N T T.length (Nat.le_refl _)
  rw [List.take_length] at hrun
  rw [hrun]
  rcases h with ⟨h1, rfl, ho, htp⟩ | ⟨h1, rfl, ho, htp⟩
  · obtain ⟨v0, vl, vc, rfl⟩ := ho.isSliceC
    refine ⟨⟨v0, vl, vc, true, rfl⟩, k, 0 + p, none, 0, 0, ?_, .inl ⟨rfl, rfl⟩, fun i hi => by cases hi⟩
    have e0 : N - 8 * T.length = 0 := by omega
    simp only [CpM.ak, CpM.aa, CpM.an, CpM.live, e0, ne_eq, not_true_eq_false, decide_false, Bool.false_eq_true, if_false]
    exact htp
  · obtain ⟨v0, vl, vc, rfl⟩ := ho.isSliceC
    refine ⟨⟨v0, vl, vc, false, rfl⟩, k, T.length, none, 0, 0, ?_, .inl ⟨rfl, rfl⟩, fun i hi => by cases hi⟩
    have e0 : N - 8 * T.length ≠ 0 := by omega
    rw [Nat.sub_zero] at htp
    simp only [CpM.ak, CpM.aa, CpM.an, CpM.live, e0, ne_eq, not_false_eq_true, decide_true, Bool.false_eq_true, if_false, if_true]
    rw [show min N (8 * T.length) = 8 * T.length by omega]
    have e1 : ((8 * T.length : Nat) : Int) = 8 * (T.length : Int) := by omega
    rw [e1]
    exact htp
/-- What Next tells. -/
def JnPost (w : World) (s : Value) (m : CpM) (e : Ending) (w' : World) : Prop :=
  ∃ s0 sl sc, e = .returned (.tuple #[m.want.V (.slice s0 sl sc), .bool m.live]) ∧ RdB w' (.slice s0 sl sc) m.want.b ∧ Below w.heap.size w w' ∧ ∀ i, (Value.slice s0 sl sc).ownBlock = some i → (s.ownBlock = some i ∨ w.heap.size ≤ i) ∧ i < w'.heap.size
set_option maxHeartbeats 2000000 in
theorem jNext_in (a n : Int) (s0 : Option Addr) (sl sc : Nat) (b : List Int) (tv : Value) (T : List AnsV) (d : Bool) (w : World) (h : JbS.Ok w ⟨0, a, n, .slice s0 sl sc, b, tv, T, d⟩) :
    Calls Try.prog 17 #[.agg #[.int .i64 0, .int .i64 a, .int .i64 n, .slice s0 sl sc, tv, .bool d]] w (JnPost w (.slice s0 sl sc) (CpM.told ⟨true, a, b, 0, []⟩ T)) := by
  obtain ⟨ta, tn, rfl⟩ := rdA_slice (show RdA w tv T from h.rd)
  have HJ := Lib.hid h
  have A0 := h.a0
  have A1 := h.a1
  have N0 := h.n0
  have N1 := h.n1
  dsimp only at A0 A1 N0 N1
  have bl : b.length ≠ 0 → ∀ i, (Value.slice s0 sl sc).ownBlock = some i → i < w.heap.size := fun h0 => h.r.blk h0
  have LB := Lib.hid (show b.length ≤ 1000 from h.l)
  have BL := Lib.hid bl
  clear h bl
  have b3 : Below w.heap.size w (((w.alloc (.cells #[.int .i64 0, .int .i64 a, .int .i64 n, .slice s0 sl sc, .slice ta T.length tn, .bool d] 61)).alloc (.cells #[.int .i64 0, .int .i64 0, .int .i64 0, .int .u64 0, .int .u64 0, .slice none 0 0] 47)).alloc (.cells #[.slice ta T.length tn, .int .i64 0, .int .i64 0, .int .i64 0, .int .i64 0, .int .u64 0, .int .u64 0, .slice none 0 0, .bool false] 117)) := (((Below.refl _ w).alloc (Nat.le_refl _) _).alloc (by simp) _).alloc (by simp; omega) _
  have W1 := Lib.hid (show Blk (((w.alloc (.cells #[.int .i64 0, .int .i64 a, .int .i64 n, .slice s0 sl sc, .slice ta T.length tn, .bool d] 61)).alloc (.cells #[.int .i64 0, .int .i64 0, .int .i64 0, .int .u64 0, .int .u64 0, .slice none 0 0] 47)).alloc (.cells #[.slice ta T.length tn, .int .i64 0, .int .i64 0, .int .i64 0, .int .i64 0, .int .u64 0, .int .u64 0, .slice none 0 0, .bool false] 117)) (w.heap.size + 1) [.int .i64 0, .int .i64 0, .int .i64 0, .int .u64 0, .int .u64 0, .slice none 0 0] from Blk.alloc (by have := Blk.made (w.alloc (.cells #[.int .i64 0, .int .i64 a, .int .i64 n, .slice s0 sl sc, .slice ta T.length tn, .bool d] 61)) #[.int .i64 0, .int .i64 0, .int .i64 0, .int .u64 0, .int .u64 0, .slice none 0 0] 47; rw [World.size_alloc] at this; exact this) _)
  have T1 := Lib.hid (show Tp (((w.alloc (.cells #[.int .i64 0, .int .i64 a, .int .i64 n, .slice s0 sl sc, .slice ta T.length tn, .bool d] 61)).alloc (.cells #[.int .i64 0, .int .i64 0, .int .i64 0, .int .u64 0, .int .u64 0, .slice none 0 0] 47)).alloc (.cells #[.slice ta T.length tn, .int .i64 0, .int .i64 0, .int .i64 0, .int .i64 0, .int .u64 0, .int .u64 0, .slice none 0 0, .bool false] 117)) (w.heap.size + 1 + 1) (.slice ta T.length tn) 0 accZ false from by have := Blk.made ((w.alloc (.cells #[.int .i64 0, .int .i64 a, .int .i64 n, .slice s0 sl sc, .slice ta T.length tn, .bool d] 61)).alloc (.cells #[.int .i64 0, .int .i64 0, .int .i64 0, .int .u64 0, .int .u64 0, .slice none 0 0] 47)) #[.slice ta T.length tn, .int .i64 0, .int .i64 0, .int .i64 0, .int .i64 0, .int .u64 0, .int .u64 0, .slice none 0 0, .bool false] 117; rw [World.size_alloc, World.size_alloc] at this; exact this)
  have B3 := Lib.hid b3
  clear b3
  obtain ⟨M, hM⟩ : ∃ M, M = CpM.told ⟨true, a, b, 0, []⟩ T := ⟨_, rfl⟩
  rw [← hM]
  have HM := Lib.hid hM
  clear hM
  go_enter Try.func17, Try.ntmps17
  go_wp2_with fail
  refine (tIn_anyO (w.heap.size + 1 + 1) 0 (.slice ta T.length tn) T accZ a s0 sl sc b _ T1.out (HJ.out.tok B3.out (by omega)) (by omega) (by have := LB.out; omega) (fun h0 e => by have := BL.out h0 _ e; omega) (HJ.out.r.below B3.out) (by omega) (by omega)).mono ?_
  rintro e w1 hp
  obtain ⟨⟨bb, rfl⟩, hk, hta⟩ := in_told (n := 0) hp
  rw [← HM.out] at hta
  clear hp
  have hk0 := hk
  have z3 : w.heap.size + 1 + 1 < w1.heap.size := by have := hk.size; simp at this; omega
  have WB := Lib.hid (W1.out.keep hk (by show ¬ w.heap.size + 1 = w.heap.size + 1 + 1; omega))
  have KB := Lib.hid (show Keep (fun i => w.heap.size ≤ i) w w1 from (Below.keep B3.out).trans (hk.mono fun i _ h => by subst h; show w.heap.size ≤ w.heap.size + 1 + 1; omega))
  obtain ⟨kk, t0, tl, tc, htp, hrd, hown⟩ := hta
  have HTP := Lib.hid htp
  have HRD := Lib.hid hrd
  have HOW := Lib.hid hown
  obtain ⟨d0, d1, d2, d3, d4, d5, d6, d7, d8⟩ := htp.cells
  have a0 := WB.out.cell 0
  have a1 := WB.out.cell 1
  have a2 := WB.out.cell 2
  have a3 := WB.out.cell 3
  have a4 := WB.out.cell 4
  have a5 := WB.out.cell 5
  have e0 := WB.out.frozen 0
  have e1 := WB.out.frozen 1
  have e2 := WB.out.frozen 2
  have e3 := WB.out.frozen 3
  have e4 := WB.out.frozen 4
  have e5 := WB.out.frozen 5
  simp only [List.getElem?_toArray, List.getElem?_cons_zero, List.getElem?_cons_succ] at a0 a1 a2 a3 a4 a5
  clear hk hk0 htp hrd hown
  go_wp2_with fail
  go_region
  go_wp2
  have g0 := (((((WB.out.set 0 (.int .i64 M.ak)).set 1 (.int .i64 M.aa)).set 2 (.int .i64 M.an)).set 3 (.int .u64 0)).set 4 (.int .u64 0)).set 5 (.slice t0 tl tc)
  refine bodyPost_ret (v := .tuple #[M.want.V (.slice t0 tl tc), .bool M.live]) (res_aa (c := M.want) rfl rfl rfl g0.drew) rfl ⟨t0, tl, tc, rfl, ?_, ?_, fun i hi => ⟨.inl (HOW.out i hi).1, ?_⟩⟩
  · refine HRD.out.keep (K := (· = w.heap.size + 1)) (Keep.drew ?_) (fun h => HRD.out.apart h WB.out rfl)
    repeat' (refine Keep.setCell (M := (· = w.heap.size + 1)) ?_ (Or.inl (by simp)) _)
    exact Keep.refl _ _
  · refine Below.drew ?_
    repeat' (refine Below.setCell ?_ (by simp; try omega) _)
    exact KB.out.below (Nat.le_refl _) (fun k hk h => by omega)
  · have := (HOW.out i hi).2
    simpa using this
set_option maxHeartbeats 2000000 in
theorem jNext_zero0 (a n : Int) (s0 : Option Addr) (sl sc : Nat) (b : List Int) (tv : Value) (T : List AnsV) (d : Bool) (w : World) (h : JbS.Ok w ⟨1, a, n, .slice s0 sl sc, b, tv, T, d⟩) (hz : n < 1) :
    Calls Try.prog 17 #[.agg #[.int .i64 1, .int .i64 a, .int .i64 n, .slice s0 sl sc, tv, .bool d]] w (JnPost w (.slice s0 sl sc) (CpM.told ⟨true, a, List.replicate n.toNat 0, 0, []⟩ T)) := by
  obtain ⟨ta, tn, rfl⟩ := rdA_slice (show RdA w tv T from h.rd)
  have HJ := Lib.hid h
  have A0 := h.a0
  have A1 := h.a1
  have N0 := h.n0
  have N1 := h.n1
  dsimp only at A0 A1 N0 N1
  have bl : b.length ≠ 0 → ∀ i, (Value.slice s0 sl sc).ownBlock = some i → i < w.heap.size := fun h0 => h.r.blk h0
  have LB := Lib.hid (show b.length ≤ 1000 from h.l)
  have BL := Lib.hid bl
  clear h bl
  have b3 : Below w.heap.size w (((w.alloc (.cells #[.int .i64 1, .int .i64 a, .int .i64 n, .slice s0 sl sc, .slice ta T.length tn, .bool d] 61)).alloc (.cells #[.int .i64 0, .int .i64 0, .int .i64 0, .int .u64 0, .int .u64 0, .slice none 0 0] 47)).alloc (.cells #[.slice ta T.length tn, .int .i64 0, .int .i64 0, .int .i64 0, .int .i64 0, .int .u64 0, .int .u64 0, .slice none 0 0, .bool false] 117)) := (((Below.refl _ w).alloc (Nat.le_refl _) _).alloc (by simp) _).alloc (by simp; omega) _
  have W1 := Lib.hid (show Blk (((w.alloc (.cells #[.int .i64 1, .int .i64 a, .int .i64 n, .slice s0 sl sc, .slice ta T.length tn, .bool d] 61)).alloc (.cells #[.int .i64 0, .int .i64 0, .int .i64 0, .int .u64 0, .int .u64 0, .slice none 0 0] 47)).alloc (.cells #[.slice ta T.length tn, .int .i64 0, .int .i64 0, .int .i64 0, .int .i64 0, .int .u64 0, .int .u64 0, .slice none 0 0, .bool false] 117)) (w.heap.size + 1) [.int .i64 0, .int .i64 0, .int .i64 0, .int .u64 0, .int .u64 0, .slice none 0 0] from Blk.alloc (by have := Blk.made (w.alloc (.cells #[.int .i64 1, .int .i64 a, .int .i64 n, .slice s0 sl sc, .slice ta T.length tn, .bool d] 61)) #[.int .i64 0, .int .i64 0, .int .i64 0, .int .u64 0, .int .u64 0, .slice none 0 0] 47; rw [World.size_alloc] at this; exact this) _)
  have T1 := Lib.hid (show Tp (((w.alloc (.cells #[.int .i64 1, .int .i64 a, .int .i64 n, .slice s0 sl sc, .slice ta T.length tn, .bool d] 61)).alloc (.cells #[.int .i64 0, .int .i64 0, .int .i64 0, .int .u64 0, .int .u64 0, .slice none 0 0] 47)).alloc (.cells #[.slice ta T.length tn, .int .i64 0, .int .i64 0, .int .i64 0, .int .i64 0, .int .u64 0, .int .u64 0, .slice none 0 0, .bool false] 117)) (w.heap.size + 1 + 1) (.slice ta T.length tn) 0 accZ false from by have := Blk.made ((w.alloc (.cells #[.int .i64 1, .int .i64 a, .int .i64 n, .slice s0 sl sc, .slice ta T.length tn, .bool d] 61)).alloc (.cells #[.int .i64 0, .int .i64 0, .int .i64 0, .int .u64 0, .int .u64 0, .slice none 0 0] 47)) #[.slice ta T.length tn, .int .i64 0, .int .i64 0, .int .i64 0, .int .i64 0, .int .u64 0, .int .u64 0, .slice none 0 0, .bool false] 117; rw [World.size_alloc, World.size_alloc] at this; exact this)
  have B3 := Lib.hid b3
  clear b3
  obtain ⟨M, hM⟩ : ∃ M, M = CpM.told ⟨true, a, List.replicate n.toNat 0, 0, []⟩ T := ⟨_, rfl⟩
  rw [← hM]
  have HM := Lib.hid hM
  clear hM
  go_enter Try.func17, Try.ntmps17
  go_wp2_with fail
  refine (tZero_noneO (fun _ => False) (w.heap.size + 1 + 1) 0 (.slice ta T.length tn) T accZ a n _ T1.out (by omega) (.inl hz)).mono ?_
  rintro e w1 hp
  rw [show (List.replicate n.toNat (0 : Int)) = [] by rw [show n.toNat = 0 by omega]; rfl] at HM
  obtain ⟨⟨bb, rfl⟩, hk, hta⟩ := in_told (n := 0) hp
  rw [← HM.out] at hta
  clear hp
  have hk0 := hk
  have z3 : w.heap.size + 1 + 1 < w1.heap.size := by have := hk.size; simp at this; omega
  have WB := Lib.hid (W1.out.keep hk (by show ¬ w.heap.size + 1 = w.heap.size + 1 + 1; omega))
  have KB := Lib.hid (show Keep (fun i => w.heap.size ≤ i) w w1 from (Below.keep B3.out).trans (hk.mono fun i _ h => by subst h; show w.heap.size ≤ w.heap.size + 1 + 1; omega))
  obtain ⟨kk, t0, tl, tc, htp, hrd, hown⟩ := hta
  have HTP := Lib.hid htp
  have HRD := Lib.hid hrd
  have HOW := Lib.hid hown
  obtain ⟨d0, d1, d2, d3, d4, d5, d6, d7, d8⟩ := htp.cells
  have a0 := WB.out.cell 0
  have a1 := WB.out.cell 1
  have a2 := WB.out.cell 2
  have a3 := WB.out.cell 3
  have a4 := WB.out.cell 4
  have a5 := WB.out.cell 5
  have e0 := WB.out.frozen 0
  have e1 := WB.out.frozen 1
  have e2 := WB.out.frozen 2
  have e3 := WB.out.frozen 3
  have e4 := WB.out.frozen 4
  have e5 := WB.out.frozen 5
  simp only [List.getElem?_toArray, List.getElem?_cons_zero, List.getElem?_cons_succ] at a0 a1 a2 a3 a4 a5
  clear hk hk0 htp hrd hown
  go_wp2_with fail
  go_region
  go_wp2
  have g0 := (((((WB.out.set 0 (.int .i64 M.ak)).set 1 (.int .i64 M.aa)).set 2 (.int .i64 M.an)).set 3 (.int .u64 0)).set 4 (.int .u64 0)).set 5 (.slice t0 tl tc)
  refine bodyPost_ret (v := .tuple #[M.want.V (.slice t0 tl tc), .bool M.live]) (res_aa (c := M.want) rfl rfl rfl g0.drew) rfl ⟨t0, tl, tc, rfl, ?_, ?_, fun i hi => ⟨(HOW.out i hi).1.elim, ?_⟩⟩
  · refine HRD.out.keep (K := (· = w.heap.size + 1)) (Keep.drew ?_) (fun h => HRD.out.apart h WB.out rfl)
    repeat' (refine Keep.setCell (M := (· = w.heap.size + 1)) ?_ (Or.inl (by simp)) _)
    exact Keep.refl _ _
  · refine Below.drew ?_
    repeat' (refine Below.setCell ?_ (by simp; try omega) _)
    exact KB.out.below (Nat.le_refl _) (fun k hk h => by omega)
  · have := (HOW.out i hi).2
    simpa using this
set_option maxHeartbeats 2000000 in
theorem jNext_zero (a n : Int) (s0 : Option Addr) (sl sc : Nat) (b : List Int) (tv : Value) (T : List AnsV) (d : Bool) (w : World) (h : JbS.Ok w ⟨1, a, n, .slice s0 sl sc, b, tv, T, d⟩) (hz : 1 ≤ n) :
    Calls Try.prog 17 #[.agg #[.int .i64 1, .int .i64 a, .int .i64 n, .slice s0 sl sc, tv, .bool d]] w (JnPost w (.slice s0 sl sc) (CpM.told ⟨true, a, List.replicate n.toNat 0, 0, []⟩ T)) := by
  obtain ⟨ta, tn, rfl⟩ := rdA_slice (show RdA w tv T from h.rd)
  have HJ := Lib.hid h
  have A0 := h.a0
  have A1 := h.a1
  have N0 := h.n0
  have N1 := h.n1
  dsimp only at A0 A1 N0 N1
  have bl : b.length ≠ 0 → ∀ i, (Value.slice s0 sl sc).ownBlock = some i → i < w.heap.size := fun h0 => h.r.blk h0
  have LB := Lib.hid (show b.length ≤ 1000 from h.l)
  have BL := Lib.hid bl
  clear h bl
  have b3 : Below w.heap.size w (((w.alloc (.cells #[.int .i64 1, .int .i64 a, .int .i64 n, .slice s0 sl sc, .slice ta T.length tn, .bool d] 61)).alloc (.cells #[.int .i64 0, .int .i64 0, .int .i64 0, .int .u64 0, .int .u64 0, .slice none 0 0] 47)).alloc (.cells #[.slice ta T.length tn, .int .i64 0, .int .i64 0, .int .i64 0, .int .i64 0, .int .u64 0, .int .u64 0, .slice none 0 0, .bool false] 117)) := (((Below.refl _ w).alloc (Nat.le_refl _) _).alloc (by simp) _).alloc (by simp; omega) _
  have W1 := Lib.hid (show Blk (((w.alloc (.cells #[.int .i64 1, .int .i64 a, .int .i64 n, .slice s0 sl sc, .slice ta T.length tn, .bool d] 61)).alloc (.cells #[.int .i64 0, .int .i64 0, .int .i64 0, .int .u64 0, .int .u64 0, .slice none 0 0] 47)).alloc (.cells #[.slice ta T.length tn, .int .i64 0, .int .i64 0, .int .i64 0, .int .i64 0, .int .u64 0, .int .u64 0, .slice none 0 0, .bool false] 117)) (w.heap.size + 1) [.int .i64 0, .int .i64 0, .int .i64 0, .int .u64 0, .int .u64 0, .slice none 0 0] from Blk.alloc (by have := Blk.made (w.alloc (.cells #[.int .i64 1, .int .i64 a, .int .i64 n, .slice s0 sl sc, .slice ta T.length tn, .bool d] 61)) #[.int .i64 0, .int .i64 0, .int .i64 0, .int .u64 0, .int .u64 0, .slice none 0 0] 47; rw [World.size_alloc] at this; exact this) _)
  have T1 := Lib.hid (show Tp (((w.alloc (.cells #[.int .i64 1, .int .i64 a, .int .i64 n, .slice s0 sl sc, .slice ta T.length tn, .bool d] 61)).alloc (.cells #[.int .i64 0, .int .i64 0, .int .i64 0, .int .u64 0, .int .u64 0, .slice none 0 0] 47)).alloc (.cells #[.slice ta T.length tn, .int .i64 0, .int .i64 0, .int .i64 0, .int .i64 0, .int .u64 0, .int .u64 0, .slice none 0 0, .bool false] 117)) (w.heap.size + 1 + 1) (.slice ta T.length tn) 0 accZ false from by have := Blk.made ((w.alloc (.cells #[.int .i64 1, .int .i64 a, .int .i64 n, .slice s0 sl sc, .slice ta T.length tn, .bool d] 61)).alloc (.cells #[.int .i64 0, .int .i64 0, .int .i64 0, .int .u64 0, .int .u64 0, .slice none 0 0] 47)) #[.slice ta T.length tn, .int .i64 0, .int .i64 0, .int .i64 0, .int .i64 0, .int .u64 0, .int .u64 0, .slice none 0 0, .bool false] 117; rw [World.size_alloc, World.size_alloc] at this; exact this)
  have B3 := Lib.hid b3
  clear b3
  obtain ⟨M, hM⟩ : ∃ M, M = CpM.told ⟨true, a, List.replicate n.toNat 0, 0, []⟩ T := ⟨_, rfl⟩
  rw [← hM]
  have HM := Lib.hid hM
  clear hM
  go_enter Try.func17, Try.ntmps17
  go_wp2_with fail
  refine (show Calls _ _ _ _ _ from by have := tZero_rowO (w.heap.size + 1 + 1) 0 (.slice ta T.length tn) T accZ a n.toNat _ T1.out (HJ.out.tok B3.out (by omega)) (by omega) (by omega) (by omega) (by omega) (by omega); rw [Int.toNat_of_nonneg (by omega)] at this; exact this).mono ?_
  rintro e w1 hp
  obtain ⟨⟨bb, rfl⟩, hk, hta⟩ := in_told (n := 0) hp
  rw [← HM.out] at hta
  clear hp
  have hk0 := hk
  have z3 : w.heap.size + 1 + 1 < w1.heap.size := by have := hk.size; simp at this; omega
  have WB := Lib.hid (W1.out.keep hk (by show ¬ w.heap.size + 1 = w.heap.size + 1 + 1; omega))
  have KB := Lib.hid (show Keep (fun i => w.heap.size ≤ i) w w1 from (Below.keep B3.out).trans (hk.mono fun i _ h => by subst h; show w.heap.size ≤ w.heap.size + 1 + 1; omega))
  obtain ⟨kk, t0, tl, tc, htp, hrd, hown⟩ := hta
  have HTP := Lib.hid htp
  have HRD := Lib.hid hrd
  have HOW := Lib.hid hown
  obtain ⟨d0, d1, d2, d3, d4, d5, d6, d7, d8⟩ := htp.cells
  have a0 := WB.out.cell 0
  have a1 := WB.out.cell 1
  have a2 := WB.out.cell 2
  have a3 := WB.out.cell 3
  have a4 := WB.out.cell 4
  have a5 := WB.out.cell 5
  have e0 := WB.out.frozen 0
  have e1 := WB.out.frozen 1
  have e2 := WB.out.frozen 2
  have e3 := WB.out.frozen 3
  have e4 := WB.out.frozen 4
  have e5 := WB.out.frozen 5
  simp only [List.getElem?_toArray, List.getElem?_cons_zero, List.getElem?_cons_succ] at a0 a1 a2 a3 a4 a5
  clear hk hk0 htp hrd hown
  go_wp2_with fail
  go_region
  go_wp2
  have g0 := (((((WB.out.set 0 (.int .i64 M.ak)).set 1 (.int .i64 M.aa)).set 2 (.int .i64 M.an)).set 3 (.int .u64 0)).set 4 (.int .u64 0)).set 5 (.slice t0 tl tc)
  refine bodyPost_ret (v := .tuple #[M.want.V (.slice t0 tl tc), .bool M.live]) (res_aa (c := M.want) rfl rfl rfl g0.drew) rfl ⟨t0, tl, tc, rfl, ?_, ?_, fun i hi => ⟨.inr (by have := (HOW.out i hi).1; simp at this; omega), ?_⟩⟩
  · refine HRD.out.keep (K := (· = w.heap.size + 1)) (Keep.drew ?_) (fun h => HRD.out.apart h WB.out rfl)
    repeat' (refine Keep.setCell (M := (· = w.heap.size + 1)) ?_ (Or.inl (by simp)) _)
    exact Keep.refl _ _
  · refine Below.drew ?_
    repeat' (refine Below.setCell ?_ (by simp; try omega) _)
    exact KB.out.below (Nat.le_refl _) (fun k hk h => by omega)
  · have := (HOW.out i hi).2
    simpa using this
set_option maxHeartbeats 2000000 in
theorem jNext_out0 (a n : Int) (s0 : Option Addr) (sl sc : Nat) (b : List Int) (tv : Value) (T : List AnsV) (d : Bool) (w : World) (h : JbS.Ok w ⟨2, a, n, .slice s0 sl sc, b, tv, T, d⟩) (hz : n < 1) :
    Calls Try.prog 17 #[.agg #[.int .i64 2, .int .i64 a, .int .i64 n, .slice s0 sl sc, tv, .bool d]] w (JnPost w (.slice s0 sl sc) (CpM.told ⟨false, a, [], n.toNat, []⟩ T)) := by
  obtain ⟨ta, tn, rfl⟩ := rdA_slice (show RdA w tv T from h.rd)
  have HJ := Lib.hid h
  have A0 := h.a0
  have A1 := h.a1
  have N0 := h.n0
  have N1 := h.n1
  dsimp only at A0 A1 N0 N1
  have bl : b.length ≠ 0 → ∀ i, (Value.slice s0 sl sc).ownBlock = some i → i < w.heap.size := fun h0 => h.r.blk h0
  have LB := Lib.hid (show b.length ≤ 1000 from h.l)
  have BL := Lib.hid bl
  clear h bl
  have b3 : Below w.heap.size w (((w.alloc (.cells #[.int .i64 2, .int .i64 a, .int .i64 n, .slice s0 sl sc, .slice ta T.length tn, .bool d] 61)).alloc (.cells #[.int .i64 0, .int .i64 0, .int .i64 0, .int .u64 0, .int .u64 0, .slice none 0 0] 47)).alloc (.cells #[.slice ta T.length tn, .int .i64 0, .int .i64 0, .int .i64 0, .int .i64 0, .int .u64 0, .int .u64 0, .slice none 0 0, .bool false] 117)) := (((Below.refl _ w).alloc (Nat.le_refl _) _).alloc (by simp) _).alloc (by simp; omega) _
  have W1 := Lib.hid (show Blk (((w.alloc (.cells #[.int .i64 2, .int .i64 a, .int .i64 n, .slice s0 sl sc, .slice ta T.length tn, .bool d] 61)).alloc (.cells #[.int .i64 0, .int .i64 0, .int .i64 0, .int .u64 0, .int .u64 0, .slice none 0 0] 47)).alloc (.cells #[.slice ta T.length tn, .int .i64 0, .int .i64 0, .int .i64 0, .int .i64 0, .int .u64 0, .int .u64 0, .slice none 0 0, .bool false] 117)) (w.heap.size + 1) [.int .i64 0, .int .i64 0, .int .i64 0, .int .u64 0, .int .u64 0, .slice none 0 0] from Blk.alloc (by have := Blk.made (w.alloc (.cells #[.int .i64 2, .int .i64 a, .int .i64 n, .slice s0 sl sc, .slice ta T.length tn, .bool d] 61)) #[.int .i64 0, .int .i64 0, .int .i64 0, .int .u64 0, .int .u64 0, .slice none 0 0] 47; rw [World.size_alloc] at this; exact this) _)
  have T1 := Lib.hid (show Tp (((w.alloc (.cells #[.int .i64 2, .int .i64 a, .int .i64 n, .slice s0 sl sc, .slice ta T.length tn, .bool d] 61)).alloc (.cells #[.int .i64 0, .int .i64 0, .int .i64 0, .int .u64 0, .int .u64 0, .slice none 0 0] 47)).alloc (.cells #[.slice ta T.length tn, .int .i64 0, .int .i64 0, .int .i64 0, .int .i64 0, .int .u64 0, .int .u64 0, .slice none 0 0, .bool false] 117)) (w.heap.size + 1 + 1) (.slice ta T.length tn) 0 accZ false from by have := Blk.made ((w.alloc (.cells #[.int .i64 2, .int .i64 a, .int .i64 n, .slice s0 sl sc, .slice ta T.length tn, .bool d] 61)).alloc (.cells #[.int .i64 0, .int .i64 0, .int .i64 0, .int .u64 0, .int .u64 0, .slice none 0 0] 47)) #[.slice ta T.length tn, .int .i64 0, .int .i64 0, .int .i64 0, .int .i64 0, .int .u64 0, .int .u64 0, .slice none 0 0, .bool false] 117; rw [World.size_alloc, World.size_alloc] at this; exact this)
  have B3 := Lib.hid b3
  clear b3
  obtain ⟨M, hM⟩ : ∃ M, M = CpM.told ⟨false, a, [], n.toNat, []⟩ T := ⟨_, rfl⟩
  rw [← hM]
  have HM := Lib.hid hM
  clear hM
  go_enter Try.func17, Try.ntmps17
  go_wp2_with fail
  refine (tOut_none (w.heap.size + 1 + 1) 0 (.slice ta T.length tn) T accZ a n n.toNat _ T1.out (by omega) (by omega) (.inl hz)).mono ?_
  rintro e w1 hp
  obtain ⟨⟨v0, vl, vc, bb, rfl⟩, hk, hta⟩ := out_told (P := fun _ => False) (by omega) hp
  rw [← HM.out] at hta
  clear hp
  have hk0 := hk
  have z3 : w.heap.size + 1 + 1 < w1.heap.size := by have := hk.size; simp at this; omega
  have WB := Lib.hid (W1.out.keep hk (by show ¬ w.heap.size + 1 = w.heap.size + 1 + 1; omega))
  have KB := Lib.hid (show Keep (fun i => w.heap.size ≤ i) w w1 from (Below.keep B3.out).trans (hk.mono fun i _ h => by subst h; show w.heap.size ≤ w.heap.size + 1 + 1; omega))
  obtain ⟨kk, t0, tl, tc, htp, hrd, hown⟩ := hta
  have HTP := Lib.hid htp
  have HRD := Lib.hid hrd
  have HOW := Lib.hid hown
  obtain ⟨d0, d1, d2, d3, d4, d5, d6, d7, d8⟩ := htp.cells
  have a0 := WB.out.cell 0
  have a1 := WB.out.cell 1
  have a2 := WB.out.cell 2
  have a3 := WB.out.cell 3
  have a4 := WB.out.cell 4
  have a5 := WB.out.cell 5
  have e0 := WB.out.frozen 0
  have e1 := WB.out.frozen 1
  have e2 := WB.out.frozen 2
  have e3 := WB.out.frozen 3
  have e4 := WB.out.frozen 4
  have e5 := WB.out.frozen 5
  simp only [List.getElem?_toArray, List.getElem?_cons_zero, List.getElem?_cons_succ] at a0 a1 a2 a3 a4 a5
  clear hk hk0 htp hrd hown
  go_wp2_with fail
  go_region
  go_wp2
  have g0 := (((((WB.out.set 0 (.int .i64 M.ak)).set 1 (.int .i64 M.aa)).set 2 (.int .i64 M.an)).set 3 (.int .u64 0)).set 4 (.int .u64 0)).set 5 (.slice t0 tl tc)
  refine bodyPost_ret (v := .tuple #[M.want.V (.slice t0 tl tc), .bool M.live]) (res_aa (c := M.want) rfl rfl rfl g0.drew) rfl ⟨t0, tl, tc, rfl, ?_, ?_, fun i hi => ⟨(HOW.out i hi).1.elim, ?_⟩⟩
  · refine HRD.out.keep (K := (· = w.heap.size + 1)) (Keep.drew ?_) (fun h => HRD.out.apart h WB.out rfl)
    repeat' (refine Keep.setCell (M := (· = w.heap.size + 1)) ?_ (Or.inl (by simp)) _)
    exact Keep.refl _ _
  · refine Below.drew ?_
    repeat' (refine Below.setCell ?_ (by simp; try omega) _)
    exact KB.out.below (Nat.le_refl _) (fun k hk h => by omega)
  · have := (HOW.out i hi).2
    simpa using this
set_option maxHeartbeats 2000000 in
theorem jNext_out (a n : Int) (s0 : Option Addr) (sl sc : Nat) (b : List Int) (tv : Value) (T : List AnsV) (d : Bool) (w : World) (h : JbS.Ok w ⟨2, a, n, .slice s0 sl sc, b, tv, T, d⟩) (hz : 1 ≤ n) :
    Calls Try.prog 17 #[.agg #[.int .i64 2, .int .i64 a, .int .i64 n, .slice s0 sl sc, tv, .bool d]] w (JnPost w (.slice s0 sl sc) (CpM.told ⟨false, a, [], n.toNat, []⟩ T)) := by
  obtain ⟨ta, tn, rfl⟩ := rdA_slice (show RdA w tv T from h.rd)
  have HJ := Lib.hid h
  have A0 := h.a0
  have A1 := h.a1
  have N0 := h.n0
  have N1 := h.n1
  dsimp only at A0 A1 N0 N1
  have bl : b.length ≠ 0 → ∀ i, (Value.slice s0 sl sc).ownBlock = some i → i < w.heap.size := fun h0 => h.r.blk h0
  have LB := Lib.hid (show b.length ≤ 1000 from h.l)
  have BL := Lib.hid bl
  clear h bl
  have b3 : Below w.heap.size w (((w.alloc (.cells #[.int .i64 2, .int .i64 a, .int .i64 n, .slice s0 sl sc, .slice ta T.length tn, .bool d] 61)).alloc (.cells #[.int .i64 0, .int .i64 0, .int .i64 0, .int .u64 0, .int .u64 0, .slice none 0 0] 47)).alloc (.cells #[.slice ta T.length tn, .int .i64 0, .int .i64 0, .int .i64 0, .int .i64 0, .int .u64 0, .int .u64 0, .slice none 0 0, .bool false] 117)) := (((Below.refl _ w).alloc (Nat.le_refl _) _).alloc (by simp) _).alloc (by simp; omega) _
  have W1 := Lib.hid (show Blk (((w.alloc (.cells #[.int .i64 2, .int .i64 a, .int .i64 n, .slice s0 sl sc, .slice ta T.length tn, .bool d] 61)).alloc (.cells #[.int .i64 0, .int .i64 0, .int .i64 0, .int .u64 0, .int .u64 0, .slice none 0 0] 47)).alloc (.cells #[.slice ta T.length tn, .int .i64 0, .int .i64 0, .int .i64 0, .int .i64 0, .int .u64 0, .int .u64 0, .slice none 0 0, .bool false] 117)) (w.heap.size + 1) [.int .i64 0, .int .i64 0, .int .i64 0, .int .u64 0, .int .u64 0, .slice none 0 0] from Blk.alloc (by have := Blk.made (w.alloc (.cells #[.int .i64 2, .int .i64 a, .int .i64 n, .slice s0 sl sc, .slice ta T.length tn, .bool d] 61)) #[.int .i64 0, .int .i64 0, .int .i64 0, .int .u64 0, .int .u64 0, .slice none 0 0] 47; rw [World.size_alloc] at this; exact this) _)
  have T1 := Lib.hid (show Tp (((w.alloc (.cells #[.int .i64 2, .int .i64 a, .int .i64 n, .slice s0 sl sc, .slice ta T.length tn, .bool d] 61)).alloc (.cells #[.int .i64 0, .int .i64 0, .int .i64 0, .int .u64 0, .int .u64 0, .slice none 0 0] 47)).alloc (.cells #[.slice ta T.length tn, .int .i64 0, .int .i64 0, .int .i64 0, .int .i64 0, .int .u64 0, .int .u64 0, .slice none 0 0, .bool false] 117)) (w.heap.size + 1 + 1) (.slice ta T.length tn) 0 accZ false from by have := Blk.made ((w.alloc (.cells #[.int .i64 2, .int .i64 a, .int .i64 n, .slice s0 sl sc, .slice ta T.length tn, .bool d] 61)).alloc (.cells #[.int .i64 0, .int .i64 0, .int .i64 0, .int .u64 0, .int .u64 0, .slice none 0 0] 47)) #[.slice ta T.length tn, .int .i64 0, .int .i64 0, .int .i64 0, .int .i64 0, .int .u64 0, .int .u64 0, .slice none 0 0, .bool false] 117; rw [World.size_alloc, World.size_alloc] at this; exact this)
  have B3 := Lib.hid b3
  clear b3
  obtain ⟨M, hM⟩ : ∃ M, M = CpM.told ⟨false, a, [], n.toNat, []⟩ T := ⟨_, rfl⟩
  rw [← hM]
  have HM := Lib.hid hM
  clear hM
  go_enter Try.func17, Try.ntmps17
  go_wp2_with fail
  refine (show Calls _ _ _ _ _ from by have := tOut_row (w.heap.size + 1 + 1) 0 (.slice ta T.length tn) T accZ a n.toNat _ T1.out (HJ.out.tok B3.out (by omega)) HJ.out.lens (by omega) (by omega) (by omega) (by omega) (by omega); rw [Int.toNat_of_nonneg (by omega)] at this; exact this).mono ?_
  rintro e w1 hp
  obtain ⟨⟨v0, vl, vc, bb, rfl⟩, hk, hta⟩ := out_told (P := fun _ => False) rfl hp
  rw [← HM.out] at hta
  clear hp
  have hk0 := hk
  have z3 : w.heap.size + 1 + 1 < w1.heap.size := by have := hk.size; simp at this; omega
  have WB := Lib.hid (W1.out.keep hk (by show ¬ w.heap.size + 1 = w.heap.size + 1 + 1; omega))
  have KB := Lib.hid (show Keep (fun i => w.heap.size ≤ i) w w1 from (Below.keep B3.out).trans (hk.mono fun i _ h => by subst h; show w.heap.size ≤ w.heap.size + 1 + 1; omega))
  obtain ⟨kk, t0, tl, tc, htp, hrd, hown⟩ := hta
  have HTP := Lib.hid htp
  have HRD := Lib.hid hrd
  have HOW := Lib.hid hown
  obtain ⟨d0, d1, d2, d3, d4, d5, d6, d7, d8⟩ := htp.cells
  have a0 := WB.out.cell 0
  have a1 := WB.out.cell 1
  have a2 := WB.out.cell 2
  have a3 := WB.out.cell 3
  have a4 := WB.out.cell 4
  have a5 := WB.out.cell 5
  have e0 := WB.out.frozen 0
  have e1 := WB.out.frozen 1
  have e2 := WB.out.frozen 2
  have e3 := WB.out.frozen 3
  have e4 := WB.out.frozen 4
  have e5 := WB.out.frozen 5
  simp only [List.getElem?_toArray, List.getElem?_cons_zero, List.getElem?_cons_succ] at a0 a1 a2 a3 a4 a5
  clear hk hk0 htp hrd hown
  go_wp2_with fail
  go_region
  go_wp2
  have g0 := (((((WB.out.set 0 (.int .i64 M.ak)).set 1 (.int .i64 M.aa)).set 2 (.int .i64 M.an)).set 3 (.int .u64 0)).set 4 (.int .u64 0)).set 5 (.slice t0 tl tc)
  refine bodyPost_ret (v := .tuple #[M.want.V (.slice t0 tl tc), .bool M.live]) (res_aa (c := M.want) rfl rfl rfl g0.drew) rfl ⟨t0, tl, tc, rfl, ?_, ?_, fun i hi => ⟨(HOW.out i hi).1.elim, ?_⟩⟩
  · refine HRD.out.keep (K := (· = w.heap.size + 1)) (Keep.drew ?_) (fun h => HRD.out.apart h WB.out rfl)
    repeat' (refine Keep.setCell (M := (· = w.heap.size + 1)) ?_ (Or.inl (by simp)) _)
    exact Keep.refl _ _
  · refine Below.drew ?_
    repeat' (refine Below.setCell ?_ (by simp; try omega) _)
    exact KB.out.below (Nat.le_refl _) (fun k hk h => by omega)
  · have := (HOW.out i hi).2
    simpa using this
theorem jNext_any (j : JbS) (w : World) (h : JbS.Ok w j) : Calls Try.prog 17 #[.agg j.cs.toArray] w (JnPost w j.s j.mac) := by
  obtain ⟨k, a, n, s, b, t, T, d⟩ := j
  obtain ⟨s0, sl, sc, hs⟩ := h.s
  dsimp only at hs
  subst hs
  have k0 := h.k0
  have k1 := h.k1
  dsimp only at k0 k1
  unfold JbS.mac jbM
  dsimp only
  by_cases c0 : k = 0
  · subst c0
    rw [if_pos (by decide)]
    exact jNext_in a n s0 sl sc b t T d w h
  by_cases c1 : k = 1
  · subst c1
    rw [if_neg (by decide), if_pos (by decide)]
    by_cases hz : n < 1
    · exact jNext_zero0 a n s0 sl sc b t T d w h hz
    · exact jNext_zero a n s0 sl sc b t T d w h (by omega)
  · obtain rfl : k = 2 := by omega
    rw [if_neg (by decide), if_neg (by decide)]
    by_cases hz : n < 1
    · exact jNext_out0 a n s0 sl sc b t T d w h hz
    · exact jNext_out a n s0 sl sc b t T d w h (by omega)
end Go.Proofs.Ytknahaaefmlcpaa
