/- law05.run: a copy that reads, on a buffer, to its end. Conditions: as it says. -/
import Derived.Test.YtkbjbpaeoopkfaaKr
namespace Go.Proofs.Ytkbjbpaeoopkfaa
set_option maxRecDepth 100000
open Go.RowKit
set_option linter.unusedVariables false
set_option linter.unusedSimpArgs false
theorem acE_rd {size : Nat} {a n : Nat} (h : a + n ≤ size) (hn : n ≤ 8) : acE size 5 a n 0 = 0 := by
  have hz : acSized 5 n 0 = true := by
    unfold acSized
    simp
    omega
  unfold acE
  rw [if_neg (by rw [hz]; decide), if_neg (by omega), if_neg (by omega)]
theorem take_more (l : List Int) (k n : Nat) : l.take k ++ (l.drop k).take n = l.take (k + n) := by
  rw [List.take_add]
set_option maxHeartbeats 1000000 in
theorem run_out (p c q : Nat) (cnt : Int) (bs : List Int) (a n : Nat) (O R : Nat → Prop) (w : World) (h : Buf w p c cnt bs) (hst : OutSt w O R q a n []) (hl : n ≤ 3100) (ha : a + n ≤ bs.length)
    (hc0 : 0 ≤ cnt) (hc1 : cnt ≤ 1000000000) (hq : q ≠ p ∧ q ≠ c) (hO : ∀ i, O i → i ≠ p ∧ i ≠ c ∧ i ≠ q ∧ ¬ R i ∧ i < w.heap.size) (hR : ∀ i, R i → i ≠ p ∧ i ≠ c ∧ i ≠ q ∧ i < w.heap.size) :
    Calls Try.prog 43 #[.pointer (some ⟨p, 0, none⟩), .pointer (some ⟨q, 0, none⟩)] w fun e w' => e = .returned (.bool true) ∧ (∃ cnt', 0 ≤ cnt' ∧ cnt' ≤ cnt + 400 ∧ Buf w' p c cnt' bs) ∧ Keep (fun k => k = p ∨ k = c ∨ k = q ∨ R k) w w' ∧
      ∃ O' R', OutSt w' O' R' q (a + n : Nat) 0 ((bs.drop a).take n) ∧ ∀ i, R' i → R i ∨ (w.heap.size ≤ i ∧ i < w'.heap.size) := by
  have hle := h.le
  have H := Lib.hid h
  have HST := Lib.hid hst
  have HO := Lib.hid hO
  have HQ := Lib.hid hq
  have HR := Lib.hid hR
  clear h hst hO hq hR
  go_enter Try.func43, Try.ntmps43
  go_wp2_with fail
  go_loopw [9] (fun i wr => ∃ k : Nat, k ≤ 399 ∧ i = .int .i64 k ∧ 8 * k ≤ n + 8 ∧ (∃ cnt', 0 ≤ cnt' ∧ cnt' ≤ cnt + k ∧ Buf wr p c cnt' bs) ∧ Keep (fun i => i = p ∨ i = c ∨ i = q ∨ R i) w wr ∧ ∃ O' R', OutSt wr O' R' q (a + min (8 * k) n : Nat) (n - min (8 * k) n) ((bs.drop a).take (min (8 * k) n)) ∧ (∀ i, O' i → i ≠ p ∧ i ≠ c ∧ i ≠ q ∧ ¬ R' i ∧ i < wr.heap.size) ∧ ∀ i, R' i → i ≠ p ∧ i ≠ c ∧ i ≠ q ∧ i < wr.heap.size ∧ (R i ∨ w.heap.size ≤ i)) (fun i _ => 400 - (intOf i).toNat)
  case atStart =>
    refine ⟨0, by omega, rfl, by omega, ⟨cnt, hc0, by omega, H.out⟩, Keep.refl _ _, O, R, by simpa using HST.out, HO.out, fun i hi => ?_⟩
    have := HR.out i hi
    exact ⟨this.1, this.2.1, this.2.2.1, this.2.2.2, .inl hi⟩
  case round =>
    obtain ⟨k, hk, rfl, hk8, ⟨cnt', hn0, hn1, hbuf⟩, hkp, O', R', hs, hO', hR'⟩ := hrel
    have zk := hkp.size
    by_cases hlt : 8 * k < n
    · obtain ⟨A, hA⟩ : ∃ A, A = a + 8 * k := ⟨_, rfl⟩
      rw [show min (8 * k) n = 8 * k by omega, ← hA] at hs
      obtain ⟨N, hN⟩ : ∃ N, N = min (n - 8 * k) 8 := ⟨_, rfl⟩
      have hN8 : N ≤ 8 := by omega
      have hNl : 8 * k + N ≤ n := by omega
      have HA := Lib.hid hA
      have HN := Lib.hid hN
      have HS := Lib.hid hs
      have HB := Lib.hid hbuf
      have hpl := hbuf.hd.lt
      have hcl := hbuf.wd.lt
      have hql : q < wr.heap.size := by
        obtain ⟨_, _, _, mm, _⟩ := hs
        exact Blk.lt mm
      have HO' := Lib.hid hO'
      have HR' := Lib.hid hR'
      clear hA hN hs hbuf hO' hR'
      go_wp2_with fail
      refine (cpNext_out O' R' q A (n - 8 * k) _ _ HS.out).mono ?_
      rintro e w2 ⟨s2, rfl, o2, b2⟩
      rw [if_neg (by omega), show min ((n - 8 * k : Nat) : Int) 8 = (N : Int) by have := HN.out; omega, show decide (n - 8 * k ≠ 0) = true by simp; omega]
      obtain ⟨x2, n2, c2, rfl⟩ := o2.isSliceC
      have z2 := b2.size
      have HS2 := Lib.hid (HS.out.keep (M := fun _ => False) (Below.keeps b2) (fun _ _ => id) (fun _ _ => id) id)
      have HB2 := Lib.hid (HB.out.belows b2)
      obtain rfl : n2 = 0 := by
        have := rd_len o2.rd
        simpa using this
      have K2 := Lib.hid (hkp.trans (Below.keeps b2))
      clear o2 b2
      unfold Acc.V
      dsimp only
      go_wp2_with fail
      refine (mDo_read p c cnt' _ A N 0 0 x2 0 c2 _ (HB2.out.alloc _) hn0 (by omega) (acE_rd (by have := HA.out; omega) hN8)).mono ?_
      rintro e w3 ⟨s3, rfl, o3, hb3, k3⟩
      obtain ⟨x3, n3, c3, rfl⟩ := o3.isSliceC
      have z3 := k3.size
      rw [World.size_alloc] at z3
      have R3 := Lib.hid (o3.rd.below ((Below.refl _ _).alloc (Nat.le_refl _) (Obj.cells #[Value.int IntKind.u64 0, Value.bool false, Value.slice x3 n3 c3] 46)))
      have kp3 := Lib.hid ((((Keep.refl (fun i => i = p ∨ i = c) w2).alloc _).trans k3).alloc (Obj.cells #[Value.int IntKind.u64 0, Value.bool false, Value.slice x3 n3 c3] 46))
      have HS3 := Lib.hid (HS2.out.keep kp3.out (fun i hi => by have := HO'.out i hi; omega) (fun i hi => by have := HR'.out i hi; omega) (by have := HQ.out; omega))
      have HB3 := Lib.hid (hb3.alloc (Obj.cells #[Value.int IntKind.u64 0, Value.bool false, Value.slice x3 n3 c3] 46))
      clear hb3 k3 o3
      unfold anV
      dsimp only
      go_wp2_with fail
      have hrl : (List.take N (List.drop A bs)).length = N := by have := HA.out; simp; omega
      refine (cpTake_out O' R' q A _ _ _ 0 false x3 n3 c3 _ HS3.out (by omega) (by omega) R3.out (by rw [hrl]; simp; omega) (fun i h => by have := HO'.out _ h; exact ⟨this.2.2.1, this.2.2.2.1⟩) (fun h => (HR'.out _ h).2.2.1 rfl) (by omega) (by have := HA.out; omega)).mono ?_
      rintro e w4 ⟨rfl, ⟨m4, y1, y2, hs4⟩, k4⟩
      have z4 := k4.size
      rw [World.size_alloc] at z4 y1
      have e8 : List.take (8 * k) (List.drop a bs) ++ List.take N (List.drop A bs) = List.take (min (8 * (k + 1)) n) (List.drop a bs) := by
        rw [HA.out, ← List.drop_drop, take_more, show min (8 * (k + 1)) n = 8 * k + N by have := HN.out; omega]
      have ae : (A : Int) + ((min (n - 8 * k) 8 : Nat) : Int) = ((a + min (8 * (k + 1)) n : Nat) : Int) := by
        have := HA.out
        omega
      rw [ae, e8, show n - 8 * k - min (n - 8 * k) 8 = n - min (8 * (k + 1)) n by omega] at hs4
      clear ae e8
      have HS4 := Lib.hid hs4
      clear hs4
      go_wp2_with fail
      refine ⟨⟨k + 1, by omega, by simp, by omega, ⟨cnt' + 1, by omega, by omega, HB3.out.keep k4 ?_ ?_⟩, (K2.out.then kp3.out fun i _ h => h.elim .inl (.inr ∘ .inl)).then k4 fun i hi h => ?_, _, _, HS4.out, ?_, ?_⟩, ?_⟩
      · rintro (h | h)
        · exact HQ.out.1 h.symm
        · exact (HR'.out _ h).1 rfl
      · rintro (h | h)
        · exact HQ.out.2 h.symm
        · exact (HR'.out _ h).2.1 rfl
      · rcases h with h | h
        · exact .inr <| .inr <| .inl h
        · rcases (HR'.out _ h).2.2.2.2 with h | h
          · exact .inr <| .inr <| .inr h
          · omega
      · rintro i ⟨h1, h2⟩
        refine ⟨by omega, by omega, by omega, ?_, by omega⟩
        rintro (h | h)
        · have := (HR'.out _ h).2.2.2.1
          omega
        · omega
      · rintro i (h | ⟨h1, h2⟩)
        · have := HR'.out _ h
          exact ⟨this.1, this.2.1, this.2.2.1, by omega, this.2.2.2.2⟩
        · rw [World.size_alloc] at h1
          exact ⟨by omega, by omega, by omega, by omega, .inr (by omega)⟩
      · simp [intOf]
        omega
    · rw [show min (8 * k) n = n by omega, Nat.sub_self] at hs
      have hB := Lib.hid hbuf
      have HS := Lib.hid hs
      have hql : q < wr.heap.size := by
        obtain ⟨_, _, _, mm, _⟩ := hs
        exact Blk.lt mm
      clear hs
      go_wp2_with fail
      refine (cpNext_out O' R' q _ 0 _ _ HS.out).mono ?_
      rintro e w2 ⟨s2, rfl, o2, b2⟩
      obtain ⟨x2, n2, c2, rfl⟩ := o2.isSliceC
      rw [if_pos rfl, show decide ((0 : Nat) ≠ 0) = false by simp]
      unfold Acc.V
      dsimp only
      have z2 := b2.size
      clear hbuf o2
      go_wp2
      go_ret
      refine ⟨rfl, ⟨cnt', hn0, by omega, (hB.out.belows b2).alloc _⟩, (hkp.trans (Below.keeps b2)).alloc _, O', R', (HS.out.keep (M := fun _ => False) (Below.keeps b2) (fun _ _ => id) (fun _ _ => id) id).keep (M := fun _ => False) ((Keep.refl _ _).alloc _) (fun _ _ => id) (fun _ _ => id) id, fun i h => ?_⟩
      have := hR' _ h
      rcases this.2.2.2.2 with h2 | h2
      · exact .inl h2
      · exact .inr ⟨h2, by rw [World.size_alloc]; omega⟩
end Go.Proofs.Ytkbjbpaeoopkfaa
