/- The reference's tape: In of any bytes, Zero, Out. Conditions: as each says. -/
import Derived.Test.YtabifjolocmonaaTb
namespace Go.Proofs.Ytabifjolocmonaa
set_option maxRecDepth 100000
open Go.RowKit
set_option linter.unusedVariables false
set_option linter.unusedSimpArgs false
theorem RdB.keepO {w w' : World} {M : Nat → Prop} {v : Value} {l : List Int} (h : RdB w v l) (k : Keep M w w') (hne : l.length ≠ 0 → ∀ b, v.ownBlock = some b → ¬ M b) : RdB w' v l := by
  rcases h with h | h | ⟨b, off, cap, e1, e2, e3, e4⟩
  · exact .inl h
  · exact .inr (.inl h)
  · refine .inr <| .inr ⟨b, off, cap, e1, e2, e3, fun i hi => ?_⟩
    rw [k.cell _ (World.block_lt_of_cell? w _ (e4 i hi)) (hne (by omega) b (by rw [e1]; rfl))]
    exact e4 i hi
theorem grown_keep {w w' : World} {v : Value} (h : w.grownBy w' v.ownBlock) : Keep (fun i => v.ownBlock = some i) w w' :=
  ⟨h.os, h.tape, h.output, h.size, fun k hk hm => h.block k hk (fun e => hm e.symm)⟩
theorem OwB.keepB {E B : Nat} {M : Nat → Prop} {w w' : World} {v : Value} {l : List Int} (h : OwB E B w v l) (k : Keep M w w') (hm : ∀ i, v.ownBlock = some i → ¬ M i) : OwB E B w' v l := by
  obtain ⟨h1, h2⟩ := h
  refine ⟨h1, h2.imp id ?_⟩
  rintro ⟨g, cap, cur, e1, e2, e3, e4⟩
  exact ⟨g, cap, cur, e1, e2, by rw [k.block g (by have := Array.getElem?_eq_some_iff.1 e3; exact this.1) (hm _ (by rw [e1]; rfl))]; exact e3, e4⟩
/-- What a tape was told, and that it lies apart. -/
structure TOk (w : World) (tb : Nat) (tv : Value) (T : List AnsV) : Prop where
  rd : RdA w tv T
  sl : Sls T
  rds : RdAs w T
  apart : 0 < T.length → tv.ownBlock ≠ some tb
  aparts : ∀ i, i < T.length → (gA T i).b.length ≠ 0 → (gA T i).s.ownBlock ≠ some tb
  len : T.length ≤ 1000000
theorem TOk.keep {w w' : World} {tb : Nat} {tv : Value} {T : List AnsV} (h : TOk w tb tv T) (k : Keep (· = tb) w w') : TOk w' tb tv T :=
  ⟨h.rd.keep k (fun h0 i hi e => h.apart h0 (e ▸ hi)), h.sl, fun i hi => (h.rds i hi).keepO k (fun h0 b hb e => h.aparts i hi h0 (e ▸ hb)), h.apart, h.aparts, h.len⟩
theorem TOk.below {w w' : World} {tb : Nat} {tv : Value} {T : List AnsV} (h : TOk w tb tv T) (k : Below w.heap.size w w') : TOk w' tb tv T := h.keep (Below.keeps k)
set_option maxHeartbeats 1000000 in
theorem tIn_any (tb k0 : Nat) (tv : Value) (T : List AnsV) (c : Acc) (at0 : Int) (s0 : Option Addr) (sl sc : Nat) (l : List Int) (w : World) (h : Tp w tb tv k0 c false) (hT : TOk w tb tv T) (hk0 : k0 ≤ T.length)
    (hl : l.length ≤ 131072) (hb : l.length ≠ 0 → (Value.slice s0 sl sc).ownBlock ≠ some tb) (hr : RdB w (.slice s0 sl sc) l) (ha : -2305843009213693952 ≤ at0) (ha' : at0 ≤ 2305843009213693952) :
    Calls Try.prog 76 #[.pointer (some ⟨tb, 0, none⟩), .int .i64 at0, .slice s0 sl sc] w (InPost w tb k0 tv T c at0 l) := by
  by_cases h0 : l.length = 0
  · obtain rfl : l = [] := List.eq_nil_of_length_eq_zero h0
    obtain rfl : sl = 0 := by
      rcases hr with ⟨e, _⟩ | ⟨_, _, e, _⟩ | ⟨_, _, _, e, _⟩
      · cases e; rfl
      · cases e; rfl
      · cases e; rfl
    have H := Lib.hid h
    clear h hT hr
    go_enter Try.func76, Try.ntmps76
    go_wp2_with fail
    refine (refChunks_out 0 _ (by omega) (by omega)).mono ?_
    rintro e w1 ⟨rfl, rfl⟩
    go_wp2_with fail
    go_loopw [15] (fun i wr => i = .int .i64 0 ∧ wr = w) (fun _ _ => 0)
    case atStart => exact ⟨rfl, rfl⟩
    case round =>
      obtain ⟨rfl, rfl⟩ := hrel
      go_wp2
      go_ret
      exact ⟨Keep.refl _ _, .inl ⟨by simpa using hk0, rfl, by simpa using H.out⟩⟩
  · rcases hr with ⟨_, e⟩ | ⟨_, _, _, e, _⟩ | ⟨b, off, cap, e, e2, e3, e4⟩
    · rw [e] at h0; exact absurd rfl h0
    · rw [e] at h0; exact absurd rfl h0
    · cases e
      exact tIn_row tb k0 tv T c at0 b off sc l w h hT.rd hk0 hT.len hT.apart hT.sl h0 hl e2 e3 (fun e => hb h0 (e ▸ rfl)) e4 ha ha'
theorem InPost.below {w w1 w' : World} {tb k0 : Nat} {tv : Value} {T : List AnsV} {c : Acc} {at0 : Int} {l : List Int} {e : Ending} (h : InPost w1 tb k0 tv T c at0 l e w') (b : Below w.heap.size w w1) : InPost w tb k0 tv T c at0 l e w' :=
  ⟨(Below.keeps b).trans h.1, h.2⟩
set_option maxHeartbeats 1000000 in
theorem tZero_none (tb k0 : Nat) (tv : Value) (T : List AnsV) (c : Acc) (at0 n : Int) (w : World) (h : Tp w tb tv k0 c false) (hk0 : k0 ≤ T.length) (hn : n < 1 ∨ 131072 < n) :
    Calls Try.prog 77 #[.pointer (some ⟨tb, 0, none⟩), .int .i64 at0, .int .i64 n] w (InPost w tb k0 tv T c at0 []) := by
  have H := Lib.hid h
  clear h
  by_cases h1 : n < 1
  · clear hn
    go_enter Try.func77, Try.ntmps77
    go_wp2
    go_ret
    exact ⟨Keep.refl _ _, .inl ⟨by simpa using hk0, rfl, by simpa using H.out⟩⟩
  · have h2 : 131072 < n := by omega
    clear hn
    go_enter Try.func77, Try.ntmps77
    go_wp2
    go_ret
    exact ⟨Keep.refl _ _, .inl ⟨by simpa using hk0, rfl, by simpa using H.out⟩⟩
theorem own_blkT {w : World} {B E g n : Nat} {xs : List Value} (h : w.ownsRow B E 1 (.slice (some ⟨g, 0, none⟩) n n) n xs) : Blk w g xs ∧ B ≤ g := by
  rcases h.2 with ⟨h, _⟩ | ⟨g', cap, cur, e, hb, hg, hn, hc, hs, ht⟩
  · cases h
  · cases e
    refine ⟨⟨E, ?_⟩, hb⟩
    rw [hg, ← ht, List.take_of_length_le (by simp; omega)]
theorem rep_cellsT (n : Nat) : ((List.replicate n (0 : Int)).map (Value.int .u8)) = (madeCells #[Value.int .u8 0] n).toList := by
  simp only [madeCells, List.map_replicate]
  apply List.ext_getElem
  · simp
  · intro i h1 h2
    simp [Nat.mod_one]
set_option maxHeartbeats 1000000 in
theorem tZero_row (tb k0 : Nat) (tv : Value) (T : List AnsV) (c : Acc) (at0 : Int) (n : Nat) (w : World) (h : Tp w tb tv k0 c false) (hT : TOk w tb tv T) (hk0 : k0 ≤ T.length) (hn : 1 ≤ n) (hn' : n ≤ 131072) (ha : -2305843009213693952 ≤ at0) (ha' : at0 ≤ 2305843009213693952) :
    Calls Try.prog 77 #[.pointer (some ⟨tb, 0, none⟩), .int .i64 at0, .int .i64 n] w (InPost w tb k0 tv T c at0 (List.replicate n 0)) := by
  obtain ⟨i0, hi, hz0, hz1, hz2⟩ := info_parts u8info
  have hlt := h.lt
  have H := Lib.hid h
  have HT := Lib.hid hT
  clear h hT
  go_enter Try.func77, Try.ntmps77
  go_wp2_with (refine wpList_make_full _ rfl _ _ 54 rfl w.heap.size 5 i0 (.int .u8 0) 1 Try.underlying54 hi hz0 hz1 _ _ _ _ n rfl rfl rfl rfl (by rw [hz2]; omega) (by unfold maxLen; omega) (Nat.le_refl _) ?_)
  intro w1 own1 hg1
  obtain ⟨hblk, _⟩ := own_blkT own1
  have b1 : Below w.heap.size w w1 := (Below.refl _ _).grown hg1 (Nat.le_refl _) (fun k hk => by cases hk)
  have hr : RdB w1 (.slice (some ⟨w.heap.size, 0, none⟩) n n) (List.replicate n 0) := by
    refine RdB.cells (by simp) (by omega) (by unfold maxLen; omega) fun i hi => ?_
    rw [Blk.cell hblk (0 + i), ← rep_cellsT n]
    simp [gB, hi]
  have HR := Lib.hid hr
  have B1 := Lib.hid b1
  have hne : ¬ w.heap.size = tb := by omega
  clear own1 hg1 hblk b1 hr
  go_wp2_with fail
  refine (tIn_any tb k0 tv T c at0 (some ⟨w.heap.size, 0, none⟩) n n (List.replicate n 0) _ (Blk.below H.out B1.out hlt) (HT.out.below B1.out) hk0 (by simp; omega) (fun _ e => hne (by simpa [Value.ownBlock] using e)) HR.out ha ha').mono ?_
  rintro e w2 hp
  have HP := Lib.hid (hp.below B1.out)
  obtain ⟨_, ⟨_, rfl, _⟩ | ⟨_, rfl, _⟩⟩ := hp
  · go_wp2
    go_ret
    exact HP.out
  · go_wp2
    go_ret
    exact HP.out
/-- The bytes that were told, from one answer on. -/
def catB (T : List AnsV) (k j : Nat) : List Int := ((List.range j).map fun i => (gA T (k + i)).b).flatten
theorem catB_zero (T : List AnsV) (k : Nat) : catB T k 0 = [] := rfl
theorem catB_succ (T : List AnsV) (k j : Nat) : catB T k (j + 1) = catB T k j ++ (gA T (k + j)).b := by
  simp [catB, List.range_succ]
theorem catB_len (T : List AnsV) (k : Nat) (B : Nat) : ∀ j, (∀ i, i < j → (gA T (k + i)).b.length ≤ B) → (catB T k j).length ≤ B * j
  | 0, _ => by simp [catB]
  | j + 1, h => by
    rw [catB_succ, List.length_append, Nat.mul_succ]
    have := catB_len T k B j (fun i hi => h i (by omega))
    have := h j (by omega)
    omega
/-- What Out leaves, where there are P parts. -/
def OutPost (w : World) (tb k0 : Nat) (tv : Value) (T : List AnsV) (c : Acc) (at0 : Int) (n P : Nat) (e : Ending) (w' : World) : Prop :=
  Keep (· = tb) w w' ∧ ∃ v, ((k0 + P ≤ T.length ∧ e = .returned (.tuple #[v, .bool true]) ∧ OwB 5 w.heap.size w' v (catB T k0 P) ∧ Tp w' tb tv (k0 + P) c false) ∨
    (T.length < k0 + P ∧ e = .returned (.tuple #[v, .bool false]) ∧ OwB 5 w.heap.size w' v (catB T k0 (T.length - k0)) ∧ Tp w' tb tv T.length ⟨5, at0 + 8 * ((T.length - k0 : Nat) : Int), min ((n - 8 * (T.length - k0) : Nat) : Int) 8, 0, 0, .slice none 0 0⟩ true))
set_option maxHeartbeats 1000000 in
theorem tOut_none (tb k0 : Nat) (tv : Value) (T : List AnsV) (c : Acc) (at0 n : Int) (m : Nat) (w : World) (h : Tp w tb tv k0 c false) (hk0 : k0 ≤ T.length) (hn0 : -9223372036854775808 ≤ n) (hn : n < 1 ∨ 131072 < n) :
    Calls Try.prog 78 #[.pointer (some ⟨tb, 0, none⟩), .int .i64 at0, .int .i64 n] w (OutPost w tb k0 tv T c at0 m 0) := by
  have H := Lib.hid h
  have HN := Lib.hid hn
  clear h hn
  go_enter Try.func78, Try.ntmps78
  go_wp2_with fail
  refine (refChunks_out n _ hn0 HN.out).mono ?_
  rintro e w1 ⟨rfl, rfl⟩
  go_wp2_with fail
  go_loopw [8, 16] (fun o i wr => o = .slice none 0 0 ∧ i = .int .i64 0 ∧ wr = w) (fun _ _ _ => 0)
  case atStart => exact ⟨rfl, rfl, rfl⟩
  case round =>
    obtain ⟨rfl, rfl, rfl⟩ := hrel
    go_wp2
    go_ret2
    exact ⟨Keep.refl _ _, .slice none 0 0, .inl ⟨by simpa using hk0, rfl, OwB.nil _ _ _, by simpa using H.out⟩⟩
set_option maxHeartbeats 2000000 in
theorem tOut_row (tb k0 : Nat) (tv : Value) (T : List AnsV) (c : Acc) (at0 : Int) (n : Nat) (w : World) (h : Tp w tb tv k0 c false) (hT : TOk w tb tv T) (hlens : ∀ i, i < T.length → (gA T i).b.length ≤ 1000) (hk0 : k0 ≤ T.length)
    (hn : 1 ≤ n) (hn' : n ≤ 131072) (ha : -2305843009213693952 ≤ at0) (ha' : at0 ≤ 2305843009213693952) :
    Calls Try.prog 78 #[.pointer (some ⟨tb, 0, none⟩), .int .i64 at0, .int .i64 n] w (OutPost w tb k0 tv T c at0 n ((n + 7) / 8)) := by
  have hlt := h.lt
  have H := Lib.hid h
  have HT := Lib.hid hT
  have HLN := Lib.hid hlens
  have hTl := hT.len
  obtain ⟨K, hK⟩ : ∃ K, K = chK (n : Int) := ⟨_, rfl⟩
  have hkb := chK_bd (n := n) (by omega)
  rw [← hK] at hkb
  have hP : (n + 7) / 8 = K + 1 := by omega
  have HP := Lib.hid hP
  have HK := Lib.hid hK
  have hcl : (chL (n : Int)).length = K + 1 := by rw [chL_in (by omega) (by omega), ← hK]; simp
  have HCL := Lib.hid hcl
  clear h hT hlens hK hP hcl
  go_enter Try.func78, Try.ntmps78
  go_wp2_with fail
  refine (refChunks_new n _ (by omega) (by omega)).mono ?_
  rintro e w1 ⟨g1, cap1, rfl, hgn, hg1, hc1, hm1, hcell1, b1⟩
  have z1 := b1.size
  have H1 := Lib.hid (Blk.below H.out b1 hlt)
  have HC1 := Lib.hid hcell1
  have B1 := Lib.hid b1
  rw [HCL.out]
  clear hcell1 b1
  go_wp2_with fail
  go_loopw [1, 8, 16] (fun av ov i wr => ∃ j : Nat, j ≤ K + 1 ∧ i = .int .i64 j ∧ k0 + j ≤ T.length ∧ (j ≤ K → av = .int .i64 (at0 + 8 * (j : Int))) ∧ (∃ x, av = .int .i64 x) ∧ (∃ oa on oc, ov = .slice oa on oc ∧ OwB 5 w1.heap.size wr (.slice oa on oc) (catB T k0 j)) ∧ Tp wr tb tv (k0 + j) c false ∧ Keep (· = tb) w1 wr) (fun _ _ i _ => K + 1 - (intOf i).toNat)
  case atStart => exact ⟨0, by omega, rfl, by omega, fun _ => by simp, ⟨_, rfl⟩, ⟨_, _, _, rfl, OwB.nil _ _ _⟩, H1.out, Keep.refl _ _⟩
  case round =>
    obtain ⟨j, hj, rfl, hjT, hav, ⟨av, rfl⟩, ⟨oa, on, oc, rfl, hov⟩, htp, hkp⟩ := hrel
    have zr := hkp.size
    by_cases hlt2 : j < K + 1
    · have hav2 := hav (by omega)
      obtain rfl : av = at0 + 8 * (j : Int) := by injection hav2
      obtain ⟨N, hN⟩ : ∃ N, N = min (n - 8 * j) 8 := ⟨_, rfl⟩
      have hch := chL_get (n := (n : Int)) (by omega) (by omega) j (by have := HK.out; omega)
      have hcc := (hkp.cell (b := g1) j hg1 (by show ¬ g1 = tb; omega)).trans (HC1.out j hch.2)
      rw [hch.1, show min ((n : Int) - 8 * (j : Int)) 8 = (N : Int) by omega] at hcc
      have HTP := Lib.hid htp
      have HKP := Lib.hid hkp
      have HTr := Lib.hid (HT.out.keep ((Below.keeps B1.out).trans hkp))
      have n8 : N ≤ 8 := by omega
      have n1 : 1 ≤ N := by omega
      have tlr := htp.lt
      have HN := Lib.hid hN
      have HO := Lib.hid hov
      clear hch htp hkp hav hav2 hN hov
      by_cases htold : k0 + j < T.length
      · go_wp2_with fail
        refine (tDo_told tb (k0 + j) tv T c _ HTP.out HTr.out.rd htold hTl (HTr.out.apart (by omega)) (HTr.out.sl _ htold) 5 (at0 + 8 * (j : Int)) N 0 0 none 0 0).mono ?_
        rintro e w2 ⟨rfl, t2, k2⟩
        obtain ⟨sa, sn, scc, hsv⟩ := HTr.out.sl _ htold
        have hrd := HTr.out.rds _ htold
        have hap := HTr.out.aparts _ htold
        have hbl := HLN.out _ htold
        unfold AnsV.V
        rw [hsv] at hrd hap ⊢
        have HRD := Lib.hid (hrd.keepO k2 (fun h0 b hb e => hap h0 (e ▸ hb)))
        have z2 := k2.size
        have hcat := catB_len T k0 1000 j (fun i hi => HLN.out _ (by omega))
        have HO2 := Lib.hid (HO.out.keepB k2 (fun i hi e => by have := HO.out.own_ge i hi; omega))
        have T2 := Lib.hid t2
        have K2 := Lib.hid k2
        have hge := Lib.hid (HO.out.own_ge)
        have tl2 := t2.lt
        clear t2 k2 hsv hrd hap
        go_wp2_with (refine list_app rfl (.tmp 31) (.tmp 33) rfl w1.heap.size _ _ _ _ rfl ((HO2.out.below (Below.alloc (Below.refl _ _) (Nat.le_refl _) _))) rfl (HRD.out.below (Below.alloc (Below.refl _ _) (Nat.le_refl _) _)) (by omega) (by simp; omega) ?_)
        intro v' w3 p3
        obtain ⟨va, vn, vc, rfl⟩ : ∃ a n c, v' = .slice a n c := by
          rcases p3.1.2 with ⟨rfl, _⟩ | ⟨g, cap, cur, rfl, _⟩
          · exact ⟨_, _, _, rfl⟩
          · exact ⟨_, _, _, rfl⟩
        have HP3 := Lib.hid p3
        have K3 := Lib.hid (grown_keep p3.2.1)
        have zz := K3.out.size
        rw [World.size_alloc] at zz
        clear p3
        go_wp2
        refine ⟨⟨j + 1, by omega, by go_num, by omega, fun hjk => ?_, ⟨_, rfl⟩, ?_, ?_, ?_⟩, by simp [intOf]; omega⟩
        · have := HN.out
          exact int_eq (by omega)
        · refine ⟨_, _, _, rfl, ?_⟩
          rw [catB_succ]
          exact HP3.out.1
        · exact Blk.keep (Blk.alloc T2.out _) K3.out (fun e => by have := hge.out _ e; omega)
        · exact (HKP.out.trans (K2.out.alloc _)).then K3.out (fun i hi e => by have := hge.out _ e; omega)
      · have hkj : k0 + j = T.length := by omega
        have HTP2 := HTP.out
        rw [hkj] at HTP2
        have HTE := Lib.hid HTP2
        have HKJ := Lib.hid hkj
        clear HTP HTP2 hkj
        go_wp2_with fail
        refine (tDo_end tb tv T c _ HTE.out HTr.out.rd 5 (at0 + 8 * (j : Int)) N 0 0 none 0 0).mono ?_
        rintro e w2 ⟨rfl, t2, k2⟩
        unfold ansZ AnsV.V
        dsimp only
        have T2 := Lib.hid t2
        have K2 := Lib.hid k2
        clear t2 k2
        go_wp2
        go_ret2
        have hkk := HKJ.out
        have hnn := HN.out
        refine ⟨((Below.keeps B1.out).trans (HKP.out.trans K2.out)).alloc _, .slice oa on oc, .inr ⟨by have := HP.out; omega, rfl, ?_, ?_⟩⟩
        · rw [show T.length - k0 = j by omega]
          exact (((HO.out.keepB K2.out (fun i hi e => by have := HO.out.own_ge i hi; omega)).mono (by omega)).below (Below.alloc (Below.refl _ _) (Nat.le_refl _) _))
        · rw [show T.length - k0 = j by omega, show min ((n - 8 * j : Nat) : Int) 8 = (N : Int) by omega]
          exact Blk.alloc T2.out _
    · obtain rfl : j = K + 1 := by omega
      clear hlt2
      have HTP := Lib.hid htp
      have HKP := Lib.hid hkp
      have HO := Lib.hid hov
      clear htp hkp hav hov
      go_wp2
      go_ret2
      refine ⟨(Below.keeps B1.out).trans HKP.out, .slice oa on oc, .inl ⟨by have := HP.out; omega, rfl, ?_, ?_⟩⟩
      · rw [HP.out]
        exact HO.out.mono (by omega)
      · rw [HP.out]
        exact HTP.out
end Go.Proofs.Ytabifjolocmonaa
