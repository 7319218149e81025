/- law05.run: a copy that writes, on a buffer, to its end. Conditions: as it says. -/
import Derived.Test.YtkbjbpaeoopkfaaKq
import Derived.Test.YtkbjbpaeoopkfaaBm
import Derived.Test.YtkbjbpaeoopkfaaBe
namespace Go.Proofs.Ytkbjbpaeoopkfaa
set_option maxRecDepth 100000
open Go.RowKit
set_option linter.unusedVariables false
set_option linter.unusedSimpArgs false
theorem acE_wr {size : Nat} {a n : Nat} (h : a + n ≤ size) (hn : n ≤ 8) : acE size 6 a n n = 0 := by
  have hz : acSized 6 n n = true := by
    unfold acSized
    simp
    omega
  unfold acE
  rw [if_neg (by rw [hz]; decide), if_neg (by omega), if_neg (by omega)]
theorem spl_more (bs l : List Int) (a k n : Nat) (hk : k + n ≤ l.length) (h : a + l.length ≤ bs.length) : spl (spl bs a (l.take k)) (a + k) ((l.drop k).take n) = spl bs a (l.take (k + n)) := by
  have l1 : (l.take k).length = k := by simp; omega
  have l2 : (l.take (k + n)).length = k + n := by simp; omega
  have l3 : ((l.drop k).take n).length = n := by simp; omega
  have s1 := spl_len bs a (l.take k) (by omega)
  have s2 := spl_len bs a (l.take (k + n)) (by omega)
  have s3 := spl_len (spl bs a (l.take k)) (a + k) ((l.drop k).take n) (by omega)
  apply List.ext_getElem (by omega)
  intro i h1 h2
  have g : gB (spl (spl bs a (l.take k)) (a + k) ((l.drop k).take n)) i = gB (spl bs a (l.take (k + n))) i := by
    by_cases c1 : i < a
    · rw [spl_lt _ _ _ (by omega) _ (by omega), spl_lt _ _ _ (by omega) _ c1, spl_lt _ _ _ (by omega) _ c1]
    · by_cases c2 : i < a + k
      · rw [spl_lt _ _ _ (by omega) _ c2, spl_in _ _ _ (by omega) _ (by omega) (by omega), spl_in _ _ _ (by omega) _ (by omega) (by omega), gB_take _ _ _ (by omega), gB_take _ _ _ (by omega)]
      · by_cases c3 : i < a + k + n
        · rw [spl_in _ _ _ (by omega) _ (by omega) (by omega), spl_in _ _ _ (by omega) _ (by omega) (by omega), gB_take _ _ _ (by omega), gB_take _ _ _ (by omega)]
          simp [gB, List.getD]
          rw [show k + (i - (a + k)) = i - a by omega]
        · rw [spl_ge _ _ _ (by omega) _ (by omega), spl_ge _ _ _ (by omega) _ (by omega), spl_ge _ _ _ (by omega) _ (by omega)]
  have e1 := gB_get _ _ h1
  have e2 := gB_get _ _ h2
  rw [← e1, ← e2]
  exact g
-- RUN
set_option maxHeartbeats 1000000 in
theorem run_in (p c q : Nat) (cnt : Int) (bs l : List Int) (a : Nat) (r : List Value) (O : Nat → Prop) (w : World) (h : Buf w p c cnt bs) (hst : (l.length ≠ 0 ∧ InSt w O q a l fnNone r) ∨ (l.length = 0 ∧ Mch w q accZ .nilFunc r)) (hb : IsB l) (hl : l.length ≤ 3100) (ha : a + l.length ≤ bs.length)
    (hc0 : 0 ≤ cnt) (hc1 : cnt ≤ 1000000000) (hq : q ≠ p ∧ q ≠ c) (hO : ∀ i, O i → i ≠ p ∧ i ≠ c ∧ i ≠ q ∧ i < w.heap.size) :
    Calls Try.prog 43 #[.pointer (some ⟨p, 0, none⟩), .pointer (some ⟨q, 0, none⟩)] w fun e w' => e = .returned (.bool true) ∧ (∃ cnt', 0 ≤ cnt' ∧ cnt' ≤ cnt + 400 ∧ Buf w' p c cnt' (spl bs a l)) ∧ Keep (fun k => k = p ∨ k = c ∨ k = q) w w' := by
  have hle := h.le
  have H := Lib.hid h
  have HST := Lib.hid hst
  have HO := Lib.hid hO
  have HQ := Lib.hid hq
  clear h hst hO hq
  go_enter Try.func43, Try.ntmps43
  go_wp2_with fail
  go_loopw [9] (fun i wr => ∃ k : Nat, k ≤ 399 ∧ i = .int .i64 k ∧ 8 * k ≤ l.length + 8 ∧ (∃ cnt', 0 ≤ cnt' ∧ cnt' ≤ cnt + k ∧ Buf wr p c cnt' (spl bs a (l.take (8 * k)))) ∧ Keep (fun i => i = p ∨ i = c ∨ i = q) w wr ∧ ((8 * k < l.length ∧ ∃ O', InSt wr O' q (a + 8 * k : Nat) (l.drop (8 * k)) fnNone r ∧ ∀ i, O' i → i ≠ p ∧ i ≠ c ∧ i ≠ q ∧ i < wr.heap.size) ∨ (l.length ≤ 8 * k ∧ Mch wr q accZ .nilFunc r))) (fun i _ => 400 - (intOf i).toNat)
  case atStart =>
    refine ⟨0, by omega, rfl, by omega, ⟨cnt, hc0, by omega, by simpa [spl_nil] using H.out⟩, Keep.refl _ _, ?_⟩
    rcases HST.out with ⟨h1, h2⟩ | ⟨h1, h2⟩
    · exact .inl ⟨by omega, O, by simpa using h2, HO.out⟩
    · exact .inr ⟨by omega, h2⟩
  case round =>
    obtain ⟨k, hk, rfl, hk8, ⟨cnt', hn0, hn1, hbuf⟩, hkp, hs⟩ := hrel
    have zk := hkp.size
    rcases hs with ⟨hlt, O', hs, hO'⟩ | ⟨hge, hm⟩
    · obtain ⟨A, hA⟩ : ∃ A, A = a + 8 * k := ⟨_, rfl⟩
      rw [← hA] at hs
      obtain ⟨N, hN⟩ : ∃ N, N = min (l.drop (8 * k)).length 8 := ⟨_, rfl⟩
      have hdl : (l.drop (8 * k)).length = l.length - 8 * k := by simp
      have hN8 : N ≤ 8 := by omega
      have hNl : 8 * k + N ≤ l.length := by omega
      have hNt : ((l.drop (8 * k)).take 8).length = N := by simp; omega
      have hTK : (l.drop (8 * k)).take 8 = (l.drop (8 * k)).take N := by
        by_cases h8 : (l.drop (8 * k)).length ≤ 8
        · rw [List.take_of_length_le h8, List.take_of_length_le (by omega)]
        · rw [show N = 8 by omega]
      have hsp := Lib.hid (spl_more bs l a (8 * k) N hNl ha)
      have hslen := Lib.hid (spl_len bs a (l.take (8 * k)) (by simp; omega))
      have HA := Lib.hid hA
      have HN := Lib.hid hN
      have HS := Lib.hid hs
      have HB := Lib.hid hbuf
      have hpl := hbuf.hd.lt
      have hcl := hbuf.wd.lt
      have hql : q < wr.heap.size := by
        obtain ⟨_, _, _, _, _, mm, _⟩ := hs
        exact Blk.lt mm
      have HO' := Lib.hid hO'
      have HTK := Lib.hid hTK
      have HNT := Lib.hid hNt
      clear hA hN hs hbuf hO' hTK hNt
      go_wp2_with fail
      refine (cpNext_in O' q A (l.drop (8 * k)) _ _ r _ HS.out).mono ?_
      rintro e w2 ⟨s2, rfl, o2, b2⟩
      rw [← HN.out]
      obtain ⟨x2, n2, c2, rfl⟩ := o2.isSliceC
      have z2 := b2.size
      have HS2 := Lib.hid (HS.out.keep (M := fun _ => False) (Below.keeps b2) (fun _ _ => id) id)
      have R2 := Lib.hid (o2.rd.below ((Below.refl _ _).alloc (Nat.le_refl _) (Obj.cells #[Value.int IntKind.i64 6, Value.int IntKind.i64 A, Value.int IntKind.i64 N, Value.int IntKind.u64 0, Value.int IntKind.u64 0, Value.slice x2 n2 c2] 50)))
      have HB2 := Lib.hid (HB.out.belows b2)
      have hn2 : n2 = N := by
        have := rd_len o2.rd
        rw [HNT.out] at this
        exact this
      obtain rfl : N = n2 := hn2.symm
      have K2 := Lib.hid (hkp.trans (Below.keeps b2))
      clear o2 b2
      unfold Acc.V
      dsimp only
      go_wp2_with fail
      refine (mDo_write p c cnt' _ A N 0 0 x2 N c2 _ (HB2.out.alloc _) hn0 (by omega) (by rw [hslen.out]; exact acE_wr (by have := HA.out; omega) hN8) _ R2.out ((hb.drop _).take _)).mono ?_
      rintro e w3 ⟨rfl, hb3, k3⟩
      have z3 := k3.size
      rw [World.size_alloc] at z3
      unfold anV
      dsimp only
      go_wp2_with fail
      have kp3 := Lib.hid ((((Keep.refl (fun i => i = p ∨ i = c) w2).alloc _).trans k3).alloc (Obj.cells #[Value.int IntKind.u64 0, Value.bool false, Value.slice none 0 0] 46))
      have HS3 := Lib.hid (HS2.out.keep kp3.out (fun i hi => by have := HO'.out i hi; omega) (by have := HQ.out; omega))
      have HB3 := Lib.hid (hb3.alloc (Obj.cells #[Value.int IntKind.u64 0, Value.bool false, Value.slice none 0 0] 46))
      clear hb3 k3
      by_cases h8 : 8 < (l.drop (8 * k)).length
      · have hN8' : N = 8 := by have := HN.out; omega
        subst hN8'
        refine (cpTake_more O' q A _ _ _ r 0 false none 0 0 _ HS3.out (fun h => by have := HO'.out _ h; omega) h8 (by omega) (by omega) (by have := HA.out; omega)).mono ?_
        rintro e w4 ⟨rfl, hs4, k4⟩
        have z4 := k4.size
        rw [World.size_alloc] at z4
        go_wp2_with fail
        have e8 : spl (spl bs a (l.take (8 * k))) A ((l.drop (8 * k)).take 8) = spl bs a (l.take (8 * (k + 1))) := by
          rw [HA.out, hsp.out, show 8 * k + 8 = 8 * (k + 1) by omega]
        have ae : (A : Int) + 8 = ((a + 8 * (k + 1) : Nat) : Int) := by
          have := HA.out
          omega
        rw [ae, List.drop_drop, show 8 * k + 8 = 8 * (k + 1) by omega] at hs4
        refine ⟨⟨k + 1, by omega, by simp, by omega, ⟨cnt' + 1, by omega, by omega, ?_⟩, (K2.out.then kp3.out fun i _ h => h.elim .inl (.inr ∘ .inl)).then k4 fun i _ h => .inr (.inr h), .inl ⟨by omega, _, hs4, ?_⟩⟩, ?_⟩
        · have := HB3.out.keep k4 (by have := HQ.out; omega) (by have := HQ.out; omega)
          rw [e8] at this
          exact this
        · intro i hi
          rcases hi with hi | ⟨hi, hj⟩
          · have := HO'.out i hi
            omega
          · rw [World.size_alloc] at hi
            omega
        · simp [intOf]
          omega
      · refine (cpTake_last O' q A _ r 0 false none 0 0 _ HS3.out (fun h => by have := HO'.out _ h; omega) (by omega) (by omega) (by have := HA.out; omega)).mono ?_
        rintro e w4 ⟨rfl, hs4, k4⟩
        have z4 := k4.size
        rw [World.size_alloc] at z4
        go_wp2_with fail
        have e8 : spl (spl bs a (l.take (8 * k))) A ((l.drop (8 * k)).take 8) = spl bs a (l.take (8 * (k + 1))) := by
          rw [HTK.out, HA.out, hsp.out, List.take_of_length_le (by have := HN.out; omega), List.take_of_length_le (l := l) (i := 8 * (k + 1)) (by omega)]
        refine ⟨⟨k + 1, by omega, by simp, by omega, ⟨cnt' + 1, by omega, by omega, ?_⟩, (K2.out.then kp3.out fun i _ h => h.elim .inl (.inr ∘ .inl)).then k4 fun i _ h => .inr (.inr h), .inr ⟨by omega, hs4⟩⟩, ?_⟩
        · have := HB3.out.keep k4 (by have := HQ.out; omega) (by have := HQ.out; omega)
          rw [e8] at this
          exact this
        · simp [intOf]
          omega
    · have hB := Lib.hid hbuf
      go_wp2_with fail
      refine (cpNext_end q accZ r _ hm).mono ?_
      rintro e w2 ⟨s2, rfl, o2, b2⟩
      obtain ⟨x2, n2, c2, rfl⟩ := o2.isSliceC
      unfold Acc.V
      dsimp only
      have z2 := b2.size
      clear hbuf o2
      go_wp2
      go_ret
      refine ⟨rfl, ⟨cnt', hn0, by omega, ?_⟩, (hkp.trans (Below.keeps b2)).alloc _⟩
      have e := (hB.out.belows b2).alloc (Obj.cells #[Value.int IntKind.i64 0, Value.int IntKind.i64 0, Value.int IntKind.i64 0, Value.int IntKind.u64 0, Value.int IntKind.u64 0, Value.slice x2 n2 c2] 50)
      rw [List.take_of_length_le (by omega)] at e
      exact e
end Go.Proofs.Ytkbjbpaeoopkfaa
