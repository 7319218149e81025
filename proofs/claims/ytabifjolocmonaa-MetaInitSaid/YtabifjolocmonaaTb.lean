/- The reference's tape: its In, Zero, Out. Conditions: as each says. -/
import Derived.Test.YtabifjolocmonaaTa
import Derived.Test.YtabifjolocmonaaCh
import Derived.Test.YtabifjolocmonaaAp
namespace Go.Proofs.Ytabifjolocmonaa
set_option maxRecDepth 100000
open Go.RowKit
set_option linter.unusedVariables false
set_option linter.unusedSimpArgs false
theorem chL_get {n : Int} (h1 : 1 ≤ n) (h2 : n ≤ 131072) (j : Nat) (hj : j ≤ chK n) : gB (chL n) j = min (n - 8 * j) 8 ∧ j < (chL n).length := by
  have hb := chK_bd h1
  rw [chL_in h1 h2]
  by_cases h : j < chK n
  · simp [gB, List.getD, List.getElem?_append, h]
    omega
  · have e : j = chK n := by omega
    subst e
    simp [gB, List.getD, List.getElem?_append]
    omega
theorem refChunks_new (n : Int) (w : World) (h1 : 1 ≤ n) (h2 : n ≤ 131072) :
    Calls Try.prog 106 #[.int .i64 n] w fun e w' => ∃ g cap, e = .returned (.slice (some ⟨g, 0, none⟩) (chL n).length cap) ∧ w.heap.size ≤ g ∧ g < w'.heap.size ∧ (chL n).length ≤ cap ∧ cap ≤ maxLen ∧ (∀ i, i < (chL n).length → w'.cell? ⟨g, i, none⟩ = some (.int .i64 (gB (chL n) i))) ∧ Below w.heap.size w w' := by
  refine (refChunks_any n w (by omega)).mono ?_
  rintro e w' ⟨v, rfl, own, hb⟩
  obtain ⟨g, cap, rfl, hB, hg, hc, hm, hcell⟩ := own.slice (by rw [chL_in h1 h2]; simp)
  exact ⟨g, cap, rfl, hB, hg, hc, hm, hcell, hb⟩
/-- Every answer's slice is one. -/
def Sls (T : List AnsV) : Prop := ∀ i, i < T.length → ∃ a n c, (gA T i).s = .slice a n c
/-- What In leaves. -/
def InPost (w : World) (tb k0 : Nat) (tv : Value) (T : List AnsV) (c : Acc) (at0 : Int) (l : List Int) (e : Ending) (w' : World) : Prop :=
  Keep (· = tb) w w' ∧ ((k0 + (l.length + 7) / 8 ≤ T.length ∧ e = .returned (.bool true) ∧ Tp w' tb tv (k0 + (l.length + 7) / 8) c false) ∨
    (T.length < k0 + (l.length + 7) / 8 ∧ e = .returned (.bool false) ∧ ∃ s0 sl sc, Tp w' tb tv T.length ⟨6, at0 + 8 * ((T.length - k0 : Nat) : Int), min ((l.length - 8 * (T.length - k0) : Nat) : Int) 8, 0, 0, .slice s0 sl sc⟩ true ∧ RdB w' (.slice s0 sl sc) ((l.drop (8 * (T.length - k0))).take 8)))
set_option maxHeartbeats 2000000 in
theorem tIn_row (tb k0 : Nat) (tv : Value) (T : List AnsV) (c : Acc) (at0 : Int) (b off cap : Nat) (l : List Int) (w : World) (h : Tp w tb tv k0 c false) (hT : RdA w tv T) (hk0 : k0 ≤ T.length) (hTl : T.length ≤ 1000000) (htb : 0 < T.length → tv.ownBlock ≠ some tb) (hs : Sls T)
    (h0 : l.length ≠ 0) (hl : l.length ≤ 131072) (hlc : l.length ≤ cap) (hcm : cap ≤ maxLen) (hb : b ≠ tb) (hcell : ∀ i, i < l.length → w.cell? ⟨b, off + i, none⟩ = some (.int .u8 (gB l i))) (ha : -2305843009213693952 ≤ at0) (ha' : at0 ≤ 2305843009213693952) :
    Calls Try.prog 76 #[.pointer (some ⟨tb, 0, none⟩), .int .i64 at0, .slice (some ⟨b, off, none⟩) l.length cap] w (InPost w tb k0 tv T c at0 l) := by
  have hlt := h.lt
  have H := Lib.hid h
  have HT := Lib.hid hT
  have HS := Lib.hid hs
  have HC := Lib.hid hcell
  obtain ⟨K, hK⟩ : ∃ K, K = chK (l.length : Int) := ⟨_, rfl⟩
  have hkb := chK_bd (n := l.length) (by omega)
  rw [← hK] at hkb
  have hP : (l.length + 7) / 8 = K + 1 := by omega
  have HP := Lib.hid hP
  have HK := Lib.hid hK
  have hcl : (chL (l.length : Int)).length = K + 1 := by rw [chL_in (by omega) (by omega), ← hK]; simp
  have HCL := Lib.hid hcl
  clear h hT hs hcell hK hP hcl
  go_enter Try.func76, Try.ntmps76
  go_wp2_with fail
  refine (refChunks_new l.length _ (by omega) (by omega)).mono ?_
  rintro e w1 ⟨g1, cap1, rfl, hgn, hg1, hc1, hm1, hcell1, b1⟩
  have z1 := b1.size
  have H1 := Lib.hid (Blk.below H.out b1 hlt)
  have HT1 := Lib.hid (HT.out.below b1)
  have HC1 := Lib.hid hcell1
  have B1 := Lib.hid b1
  rw [HCL.out]
  clear hcell1 b1
  go_wp2_with fail
  go_loopw [1, 2, 15] (fun av bv i wr => ∃ j : Nat, j ≤ K + 1 ∧ i = .int .i64 j ∧ k0 + j ≤ T.length ∧ (j ≤ K → av = .int .i64 (at0 + 8 * (j : Int))) ∧ (∃ x y z, bv = .slice x y z ∧ (8 * j < l.length → x = some ⟨b, off + 8 * j, none⟩ ∧ y = l.length - 8 * j ∧ z = cap - 8 * j)) ∧ (∃ x, av = .int .i64 x) ∧ Tp wr tb tv (k0 + j) c false ∧ Keep (· = tb) w1 wr) (fun _ _ i _ => K + 1 - (intOf i).toNat)
  case atStart => exact ⟨0, by omega, rfl, by omega, fun _ => by simp, ⟨_, _, _, rfl, fun _ => ⟨rfl, rfl, rfl⟩⟩, ⟨_, rfl⟩, H1.out, Keep.refl _ _⟩
  case round =>
    obtain ⟨j, hj, rfl, hjT, hav, ⟨x, y, z, rfl, hbv⟩, ⟨av, rfl⟩, htp, hkp⟩ := hrel
    have zr := hkp.size
    by_cases hlt2 : j < K + 1
    · obtain ⟨rfl, rfl, rfl⟩ := hbv (by omega)
      have hav2 := hav (by omega)
      obtain rfl : av = at0 + 8 * (j : Int) := by injection hav2
      obtain ⟨N, hN⟩ : ∃ N, N = min (l.length - 8 * j) 8 := ⟨_, rfl⟩
      have hch := chL_get (n := (l.length : Int)) (by omega) (by omega) j (by have := HK.out; omega)
      have hcc := (hkp.cell (b := g1) j hg1 (by show ¬ g1 = tb; omega)).trans (HC1.out j hch.2)
      rw [hch.1, show min ((l.length : Int) - 8 * (j : Int)) 8 = (N : Int) by omega] at hcc
      have HTP := Lib.hid htp
      have HKP := Lib.hid hkp
      have HTr := Lib.hid (HT1.out.keep hkp (fun h0 i hi e => htb h0 (e ▸ hi)))
      have n8 : N ≤ 8 := by omega
      have n1 : 1 ≤ N := by omega
      have nl : 8 * j + N ≤ l.length := by omega
      have nlc : (N : Int) ≤ ((cap - 8 * j : Nat) : Int) := by omega
      have tlr := htp.lt
      have HN := Lib.hid hN
      clear hch htp hkp hav hav2 hbv hN
      by_cases htold : k0 + j < T.length
      · go_wp2_with fail
        refine (tDo_told tb (k0 + j) tv T c _ HTP.out HTr.out htold hTl (htb (by omega)) (HS.out _ htold) 6 (at0 + 8 * (j : Int)) N 0 0 (some ⟨b, off + 8 * j, none⟩) N (cap - 8 * j)).mono ?_
        rintro e w2 ⟨rfl, t2, k2⟩
        obtain ⟨sa, sn, scc, hsv⟩ := HS.out _ htold
        unfold AnsV.V
        rw [hsv]
        have T2 := Lib.hid t2
        have K2 := Lib.hid k2
        clear t2 k2 hsv
        by_cases hcap : cap - 8 * j = N
        · go_wp2
          refine ⟨⟨j + 1, by omega, by go_num, by omega, fun hjk => ?_, ⟨_, _, _, rfl, fun hjl => ?_⟩, ⟨_, rfl⟩, ?_, ?_⟩, by simp [intOf]; omega⟩
          · have := HN.out
            exact int_eq (by omega)
          · have := HN.out
            omega
          · exact Blk.alloc T2.out _
          · exact (HKP.out.trans K2.out).alloc _
        · go_wp2
          refine ⟨⟨j + 1, by omega, by go_num, by omega, fun hjk => ?_, ⟨_, _, _, rfl, fun hjl => ?_⟩, ⟨_, rfl⟩, ?_, ?_⟩, by simp [intOf]; omega⟩
          · have := HN.out
            exact int_eq (by omega)
          · have := HN.out
            refine ⟨?_, by omega, by omega⟩
            rw [show off + 8 * j + N = off + 8 * (j + 1) by omega]
          · exact Blk.alloc T2.out _
          · exact (HKP.out.trans K2.out).alloc _
      · have hkj : k0 + j = T.length := by omega
        have HTP2 := HTP.out
        rw [hkj] at HTP2
        have HTE := Lib.hid HTP2
        have HKJ := Lib.hid hkj
        clear HTP HTP2 hkj
        go_wp2_with fail
        refine (tDo_end tb tv T c _ HTE.out HTr.out 6 (at0 + 8 * (j : Int)) N 0 0 (some ⟨b, off + 8 * j, none⟩) N (cap - 8 * j)).mono ?_
        rintro e w2 ⟨rfl, t2, k2⟩
        unfold ansZ AnsV.V
        dsimp only
        have T2 := Lib.hid t2
        have K2 := Lib.hid k2
        clear t2 k2
        go_wp2
        go_ret
        have hkk := HKJ.out
        have hnn := HN.out
        refine ⟨((Below.keeps B1.out).trans (HKP.out.trans K2.out)).alloc _, .inr ⟨by have := HP.out; omega, rfl, some ⟨b, off + 8 * j, none⟩, N, cap - 8 * j, ?_, ?_⟩⟩
        · rw [show T.length - k0 = j by omega, show min ((l.length - 8 * j : Nat) : Int) 8 = (N : Int) by omega]
          exact Blk.alloc T2.out _
        · rw [show T.length - k0 = j by omega]
          refine RdB.cells (by simp; omega) (by omega) (by omega) fun i hi => ?_
          have hx := HC.out (8 * j + i) (by omega)
          have hbw := World.block_lt_of_cell? w _ hx
          have e1 := ((((Below.keeps B1.out).trans (HKP.out.trans K2.out)).alloc (Obj.cells #[Value.int IntKind.u64 0, Value.bool false, Value.slice none 0 0] 69)).cell (off + 8 * j + i) hbw (fun e => hb e))
          rw [e1, Nat.add_assoc, hx, gB_take _ _ _ (by omega)]
          simp [gB, List.getD]
    · obtain rfl : j = K + 1 := by omega
      clear hlt2
      have HTP := Lib.hid htp
      have HKP := Lib.hid hkp
      clear htp hkp hav hbv
      go_wp2
      go_ret
      refine ⟨(Below.keeps B1.out).trans HKP.out, .inl ⟨by have := HP.out; omega, rfl, ?_⟩⟩
      rw [HP.out]
      exact HTP.out
end Go.Proofs.Ytabifjolocmonaa
