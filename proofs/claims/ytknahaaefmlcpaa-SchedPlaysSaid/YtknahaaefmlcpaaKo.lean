/- Contracts of copies.Copy's out, and of what it goes on with. Conditions: as each says. -/
import Derived.Test.YtknahaaefmlcpaaKf
import Derived.Deep.RegionHeld3
import Derived.Deep.RegionLaw
namespace Go.Proofs.Ytknahaaefmlcpaa
set_option maxRecDepth 100000
open Go.RowKit
set_option linter.unusedVariables false
set_option linter.unusedSimpArgs false
/-- What out goes on with. -/
def OutK (w : World) (O : Nat → Prop) (t : Value) (q : Nat) (at0 k n : Int) : Prop :=
  ∃ cb ab kb nb, t = .func (.func 96) #[] #[ptr cb, ptr ab, ptr kb, ptr nb] ∧ Blk w cb [ptr q] ∧ Blk w ab [.int .i64 at0] ∧ Blk w kb [.int .i64 k] ∧ Blk w nb [.int .i64 n] ∧ O cb ∧ O ab ∧ O kb ∧ O nb
set_option maxHeartbeats 1000000 in
theorem out_end (q : Nat) (at0 n : Int) (w : World) (h : n < 1) :
    Calls Try.prog 68 #[.pointer (some ⟨q, 0, none⟩), .int .i64 at0, .int .i64 n] w fun e w' => e = .returned (.tuple #[]) ∧ Below w.heap.size w w' := by
  go_enter Try.func68, Try.ntmps68
  go_wp2
  exact bodyPost_ret (v := .tuple #[]) (results_none rfl _ _ _) rfl ⟨rfl, by go_grown⟩
set_option maxHeartbeats 2000000 in
theorem out_more (q : Nat) (c : Acc) (t : Value) (r : List Value) (at0 : Int) (n : Nat) (w : World) (h : Mch w q c t r) (hn : 1 ≤ n) (hn' : n ≤ 131072) :
    Calls Try.prog 68 #[.pointer (some ⟨q, 0, none⟩), .int .i64 at0, .int .i64 n] w fun e w' => e = .returned (.tuple #[]) ∧
      ∃ t', Mch w' q ⟨5, at0, min (n : Int) 8, 0, 0, .slice none 0 0⟩ t' r ∧ OutK w' (fun k => w.heap.size ≤ k ∧ k < w'.heap.size) t' q at0 (min (n : Int) 8) n ∧ Keep (· = q) w w' := by
  have hlt := h.lt
  have H := Lib.hid h
  have q1 : ¬ (n : Int) < 1 := by omega
  clear h
  by_cases h8 : (n : Int) ≤ 8
  · have hmn : min (n : Int) 8 = (n : Int) := by omega
    rw [hmn]
    clear hmn
    go_enter Try.func68, Try.ntmps68
    go_wp2_with fail
    obtain ⟨w4, hw4, k0, k1, k2, k3, hs4, b4⟩ := box4 w (.pointer (some ⟨q, 0, none⟩)) (.int .i64 at0) (.int .i64 n) (.int .i64 (n : Int)) 84 3 3 3
    rw [← hw4]
    have K0 := Lib.hid k0
    have K1 := Lib.hid k1
    have K2 := Lib.hid k2
    have K3 := Lib.hid k3
    have p0 := k0.cell 0
    have p1 := k1.cell 0
    have p2 := k2.cell 0
    have p3 := k3.cell 0
    simp only [List.getElem?_cons_zero] at p0 p1 p2 p3
    have H1 := Lib.hid (show Mch w4 q c t r from Blk.below H.out b4 hlt)
    have yq : q < w4.heap.size := by omega
    clear k0 k1 k2 k3 hw4
    go_region_held3 (fun w' => w'.cell? ⟨w.heap.size, 0, none⟩ = some (.pointer (some ⟨q, 0, none⟩)) ∧ w'.cell? ⟨w.heap.size + 1, 0, none⟩ = some (.int .i64 at0) ∧ w'.cell? ⟨w.heap.size + 1 + 1 + 1, 0, none⟩ = some (.int .i64 (n : Int))) (go_keep)
      ((go_at_call 82; refine (cDo_any q c t r 5 at0 (n : Int) 0 0 none 0 0 _ _ _ (Blk.drew H1.out)).mono ?_; rintro e w2 ⟨rfl, m2, k5⟩; have hc0 := fun o => k5.cell (b := w.heap.size) o (by simp; omega) (by show ¬ w.heap.size = q; omega); have hc1 := fun o => k5.cell (b := w.heap.size + 1) o (by simp; omega) (by show ¬ w.heap.size + 1 = q; omega); have hc3 := fun o => k5.cell (b := w.heap.size + 1 + 1 + 1) o (by simp; omega) (by show ¬ w.heap.size + 1 + 1 + 1 = q; omega)))
    have z2 := k5.size
    simp at z2
    clear hc0 hc1 hc3
    go_wp2
    go_end0
    refine ⟨rfl, _, m2, ⟨w.heap.size, w.heap.size + 1, w.heap.size + 1 + 1 + 1, w.heap.size + 1 + 1, rfl, ?_, ?_, ?_, ?_, by omega, by omega, by omega, by omega⟩, ?_⟩
    · exact K0.out.drew.keep k5 (by show ¬ w.heap.size = q; omega)
    · exact K1.out.drew.keep k5 (by show ¬ w.heap.size + 1 = q; omega)
    · exact K3.out.drew.keep k5 (by show ¬ w.heap.size + 1 + 1 + 1 = q; omega)
    · exact K2.out.drew.keep k5 (by show ¬ w.heap.size + 1 + 1 = q; omega)
    · exact (Below.keeps b4).drew.trans k5
  · have hmn : min (n : Int) 8 = 8 := by omega
    rw [hmn]
    clear hmn
    go_enter Try.func68, Try.ntmps68
    go_wp2_with fail
    obtain ⟨w4, hw4, k0, k1, k2, k3, hs4, b4⟩ := box4 w (.pointer (some ⟨q, 0, none⟩)) (.int .i64 at0) (.int .i64 n) (.int .i64 8) 84 3 3 3
    rw [← hw4]
    have K0 := Lib.hid k0
    have K1 := Lib.hid k1
    have K2 := Lib.hid k2
    have K3 := Lib.hid k3
    have p0 := k0.cell 0
    have p1 := k1.cell 0
    have p2 := k2.cell 0
    have p3 := k3.cell 0
    simp only [List.getElem?_cons_zero] at p0 p1 p2 p3
    have H1 := Lib.hid (show Mch w4 q c t r from Blk.below H.out b4 hlt)
    have yq : q < w4.heap.size := by omega
    clear k0 k1 k2 k3 hw4
    go_region_held3 (fun w' => w'.cell? ⟨w.heap.size, 0, none⟩ = some (.pointer (some ⟨q, 0, none⟩)) ∧ w'.cell? ⟨w.heap.size + 1, 0, none⟩ = some (.int .i64 at0) ∧ w'.cell? ⟨w.heap.size + 1 + 1 + 1, 0, none⟩ = some (.int .i64 8)) (go_keep)
      ((go_at_call 82; refine (cDo_any q c t r 5 at0 8 0 0 none 0 0 _ _ _ (Blk.drew H1.out)).mono ?_; rintro e w2 ⟨rfl, m2, k5⟩; have hc0 := fun o => k5.cell (b := w.heap.size) o (by simp; omega) (by show ¬ w.heap.size = q; omega); have hc1 := fun o => k5.cell (b := w.heap.size + 1) o (by simp; omega) (by show ¬ w.heap.size + 1 = q; omega); have hc3 := fun o => k5.cell (b := w.heap.size + 1 + 1 + 1) o (by simp; omega) (by show ¬ w.heap.size + 1 + 1 + 1 = q; omega)))
    have z2 := k5.size
    simp at z2
    clear hc0 hc1 hc3
    go_wp2
    go_end0
    refine ⟨rfl, _, m2, ⟨w.heap.size, w.heap.size + 1, w.heap.size + 1 + 1 + 1, w.heap.size + 1 + 1, rfl, ?_, ?_, ?_, ?_, by omega, by omega, by omega, by omega⟩, ?_⟩
    · exact K0.out.drew.keep k5 (by show ¬ w.heap.size = q; omega)
    · exact K1.out.drew.keep k5 (by show ¬ w.heap.size + 1 = q; omega)
    · exact K3.out.drew.keep k5 (by show ¬ w.heap.size + 1 + 1 + 1 = q; omega)
    · exact K2.out.drew.keep k5 (by show ¬ w.heap.size + 1 + 1 = q; omega)
    · exact (Below.keeps b4).drew.trans k5
set_option maxHeartbeats 4000000 in
theorem outK_any (q : Nat) (c : Acc) (t rv : Value) (r : List Value) (have0 l : List Int) (at0 : Int) (k n : Nat) (v : Int) (d : Bool) (s0 : Option Addr) (sl sc : Nat) (cb ab kb nb : Nat) (w : World)
    (h0 : Blk w cb [ptr q]) (h1 : Blk w ab [.int .i64 at0]) (h2 : Blk w kb [.int .i64 k]) (h3 : Blk w nb [.int .i64 n]) (hM : Mch w q c t (rv :: r)) (hown : OwB 5 0 w rv have0) (hr : RdB w (.slice s0 sl sc) l) (hlen : have0.length + l.length ≤ 70368744177664)
    (ha : -2305843009213693952 ≤ at0) (ha' : at0 ≤ 2305843009213693952) (hk : k ≤ 8) (hn : n ≤ 131072) (hkn : k ≤ n) (hq : cb ≠ q ∧ ab ≠ q ∧ kb ≠ q ∧ nb ≠ q) (hrq : rv.ownBlock ≠ some q ∧ rv.ownBlock ≠ some cb ∧ rv.ownBlock ≠ some ab ∧ rv.ownBlock ≠ some kb ∧ rv.ownBlock ≠ some nb) (Q : World → Prop)
    (hF : ∀ w1 rv', Mch w1 q c t (rv' :: r) → OwB 5 0 w1 rv' (have0 ++ l) → (rv'.ownBlock = rv.ownBlock ∨ ∃ b, rv'.ownBlock = some b ∧ w.heap.size ≤ b ∧ b < w1.heap.size) → Keep (fun i => i = q ∨ rv.ownBlock = some i) w w1 → Calls Try.prog 68 #[.pointer (some ⟨q, 0, none⟩), .int .i64 (at0 + k), .int .i64 ((n : Int) - k)] w1 fun e w' => e = .returned (.tuple #[]) ∧ Q w') :
    Calls Try.prog 96 #[.agg #[.int .u64 v, .bool d, .slice s0 sl sc], ptr cb, ptr ab, ptr kb, ptr nb] w fun e w' => e = .returned (.tuple #[]) ∧ Q w' := by
  have HF := Lib.hid hF
  have HM := Lib.hid hM
  have HO := Lib.hid hown
  have HR := Lib.hid hr
  have l0 := h0.lt
  have l1 := h1.lt
  have l2 := h2.lt
  have l3 := h3.lt
  have lq := hM.lt
  have c0 := h0.cell 0
  have c1 := h1.cell 0
  have c2 := h2.cell 0
  have c3 := h3.cell 0
  have c7 := Blk.cell hM 7
  have f7 := Blk.frozen hM 7
  have e7 : (c.cs ++ t :: rv :: r)[7]? = some rv := rfl
  rw [e7] at c7
  simp only [List.getElem?_cons_zero, ptr] at c0 c1 c2 c3
  unfold ptr
  clear hF h0 h1 h2 h3 hM hown hr e7
  go_enter Try.func96, Try.ntmps96
  go_wp2_with fail
  go_region_law ((refine step_app (by rfl) _ _ (by rfl) 0 rv (.slice s0 sl sc) have0 l (by rfl) (HO.out.below (by go_grown)) (by rfl) (HR.out.below (by go_grown)) (by omega) (by omega) ?_; intro rv' w1 p1; obtain ⟨ra, rn, rc, rfl⟩ := p1.1.isSliceC; have hc7 := p1.2.1.cell_far ⟨q, 7, none⟩ (by simp; omega) (fun e => hrq.1 e.symm); have hcb := p1.2.1.cell_far ⟨cb, 0, none⟩ (by simp; omega) (fun e => hrq.2.1 e.symm); have hf7 := p1.2.1.frozen_far ⟨q, 7, none⟩ (by simp; omega) (fun e => hrq.1 e.symm)))
  all_goals
    have g0 := p1.2.1.cell_far ⟨cb, 0, none⟩ (by simp; omega) (fun e => hrq.2.1 e.symm)
    have g1 := p1.2.1.cell_far ⟨ab, 0, none⟩ (by simp; omega) (fun e => hrq.2.2.1 e.symm)
    have g2 := p1.2.1.cell_far ⟨kb, 0, none⟩ (by simp; omega) (fun e => hrq.2.2.2.1 e.symm)
    have g3 := p1.2.1.cell_far ⟨nb, 0, none⟩ (by simp; omega) (fun e => hrq.2.2.2.2 e.symm)
    obtain ⟨n0, n1, n2, n3⟩ := hq
    have z1 := p1.2.1.size
    simp at z1
    have HP := Lib.hid p1
    have HQ := Lib.hid hrq
    clear p1 hc7 hcb hf7 hrq
    go_wp2_with fail
    refine (HF.out _ (.slice ra rn rc) ?_ ?_ ?_ ?_).mono ?_
    · have hb := Blk.grown (Blk.drew (Blk.alloc HM.out _)) HP.out.2.1 (fun e => HQ.out.1 e.symm)
      exact hb.set 7 (.slice ra rn rc)
    · refine OwB.farNe HP.out.1 ?_ _
      rcases HP.out.2.2 with e | e
      · rw [e]
        exact HQ.out.1
      · rw [e]
        intro h
        simp at h
        omega
    · rcases HP.out.2.2 with e | e
      · exact .inl e
      · refine .inr ⟨_, e, by simp, ?_⟩
        have := World.ownsRow.lt HP.out.1 _ e
        simpa [World.setCell] using this.2
    · refine Keep.setCell ?_ (p := ⟨q, 7, none⟩) (.inl (.inl rfl)) _
      exact (((Keep.refl _ w).alloc _).drew).trans (Keep.mono (keep_grown HP.out.2.1) (fun i _ h => .inr h))
    · rintro e w' ⟨rfl, hQ'⟩
      go_wp2
      go_end0
      exact ⟨rfl, hQ'⟩
end Go.Proofs.Ytknahaaefmlcpaa
