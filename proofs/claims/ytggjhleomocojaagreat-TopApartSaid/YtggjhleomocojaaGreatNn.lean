/- A hear's header is told. Conditions: as each says. -/
import Derived.Test.YtggjhleomocojaaGreatNm
import Derived.Test.YtggjhleomocojaaGreatGp
namespace Go.Proofs.YtggjhleomocojaaGreat
set_option maxRecDepth 100000
open Go.RowKit
set_option linter.unusedVariables false
set_option linter.unusedSimpArgs false
set_option maxHeartbeats 8000000 in
theorem hRecordK_any {O R : Nat → Prop} {q : Nat} {m : HeaM} {mv : Value} (v : Int) (pb : Nat) (w : World) (h : HeaW w O R q m mv) (hp : Blk w pb [ptr q]) (op : O pb) (hv : inU v) :
  Calls Tryz.prog 141 #[.int .u64 v, ptr pb] w fun e w' => e = .returned (.tuple #[]) ∧ HeaTo w O R q (m.head v) w' := by
 have H := Lib.hid h
 have hlt := h.lt
 obtain ⟨b0, b1, b2, b3, b4, b5⟩ := h.bd
 have lp := hp.lt
 have np : pb ≠ q := fun e => h.nqo (e ▸ op)
 have p0 := hp.cell 0
 simp only [List.getElem?_cons_zero, ptr] at p0
 obtain ⟨PL, hPL⟩ : ∃ p, p = m.place := ⟨_, rfl⟩
 have m1 : 0 ≤ PL := by rw [hPL]; exact Int.emod_nonneg m.c (show m.s ≠ 0 by omega)
 have m2 : PL < m.s := by rw [hPL]; exact Int.emod_lt_of_pos m.c (show 0 < m.s by omega)
 have lb := loS_bdG v
 have hbb := hiS_bdG v
 obtain ⟨L, hL⟩ : ∃ L, L = loS v := ⟨_, rfl⟩
 obtain ⟨Y, hY⟩ : ∃ Y, Y = hiS v := ⟨_, rfl⟩
 have HPL := Lib.hid hPL
 have HL := Lib.hid hL
 have HY := Lib.hid hY
 have HP := Lib.hid hp
 rw [← hL] at lb
 rw [← hY] at hbb
 have hsz : alV (max L 0) 8 = rsz L := by rw [alV_8 (by omega) (by omega)]; rfl
 obtain ⟨Z, hZ⟩ : ∃ Z, Z = rsz L := ⟨_, rfl⟩
 have HZ := Lib.hid hZ
 have HSZ := Lib.hid (hsz.trans hZ.symm)
 have W1 : IntKind.i64.wrap (max L 0) = max L 0 := IntWalk.i64_in _ ⟨by omega, by omega⟩
 have W3 : IntKind.i64.wrap L = L := IntWalk.i64_in _ ⟨by omega, by omega⟩
 have W4 : IntKind.i64.wrap (m.s - PL) = m.s - PL := IntWalk.i64_in _ ⟨by omega, by omega⟩
 have HLOST : Hid (∀ wx : World, HeaW wx (Gr O w wx) R q m mv → Below w.heap.size w wx → m.head v = m.lost → Calls Tryz.prog 142 #[.pointer (some ⟨q, 0, none⟩)] wx fun e w' => e = .returned (.tuple #[]) ∧ HeaTo w O R q (m.head v) w') := Lib.hid (by
  intro wx hx bx he
  refine (hLost_any wx hx).mono ?_
  rintro e w5 ⟨rfl, hto⟩
  exact ⟨rfl, by rw [he]; exact hto.from (Below.keeps bx) (fun i hi => hi.elim .inl (fun h => .inr (.inr h.1))) (fun i hi => .inl hi)⟩)
 unfold ptr
 clear h hp b0 b1 hL hY hZ hsz hPL
 go_enter Tryz.func141, Tryz.ntmps141
 go_wp2_with fail
 refine (split_any v _ hv.1 hv.2).mono ?_
 rintro e w1 ⟨rfl, rfl⟩
 rw [← HL.out, ← HY.out]
 by_cases h1 : L ≤ 0
 ·have h2 : L < 8 := by omega
  have HR := Lib.hid (show m.head v = m.lost by unfold HeaM.head; rw [← HL.out, if_pos (.inl h2)])
  have hmx : max L 0 = 0 := by omega
  go_wp2_with fail
  all_goals
   refine (align_any _ _ _ (by decide)).mono ?_
   rintro e w1 ⟨rfl, rfl⟩
   first
    | (have HSZ2 := HSZ.out; rw [hmx] at HSZ2; rw [HSZ2]; clear HSZ2)
    | (have HSZ2 := HSZ.out; rw [show max L 0 = L by omega] at HSZ2; rw [HSZ2]; clear HSZ2)
   go_upto_region 4 with fail
   obtain ⟨w2, hw2⟩ : ∃ w2, w2 = w.alloc (.cells #[.int .i64 Z] 2) := ⟨_, rfl⟩
   have bb2 : Below w.heap.size w w2 := by rw [hw2]; go_grown
   have xx0 : Blk w2 w.heap.size [.int .i64 Z] := by rw [hw2]; exact Blk.made w _ _
   rw [← hw2]
   have B2 := Lib.hid bb2
   have X0 := Lib.hid xx0
   have s0 := xx0.cell 0
   have P2 := Lib.hid (HP.out.below bb2 lp)
   have q0 := P2.out.cell 0
   simp only [List.getElem?_cons_zero, ptr] at s0 q0
   have H2 := Lib.hid ((H.out.below bb2).gr H.out)
   have d8 := (hea_cells H2.out.mch).2.1
   have d13 := (hea_cells H2.out.mch).2.2.2.2.2.2.1
   have ls2 := xx0.lt
   have lp2 := P2.out.lt
   have lq2 := H2.out.lt
   clear hw2 bb2 xx0 p0
   refine wp_region_held_drew (S := fun w' => w'.cell? ⟨pb, 0, none⟩ = some (.pointer (some ⟨q, 0, none⟩)) ∧ w'.cell? ⟨w.heap.size, 0, none⟩ = some (.int .i64 Z) ∧ w'.cell? ⟨q, 8, none⟩ = some (.int .i64 m.s)) (by kernel_rfl) ?_ (fun hHeld => ?_)
   ·try dsimp only
    exact ⟨q0, s0, d8⟩
   refine wpT 0 rfl ?_
   try simp only [Act.put, tS]
   refine wpT 1 rfl ?_
   try simp only [Act.put, tS]
   refine wpT 2 rfl ?_
   try simp only [Act.put, tS]
   refine wpAnyH_take (i := 3) (v := undef) rfl (by kernel_rfl) (by kernel_rfl) (by kernel_rfl) (fun _ _ _ h => h) (Or.inr ⟨by rfl, rfl⟩) (by assumption) ?_
   simp only [Act.put, tS]
   refine wpAnyH_take (i := 4) (v := undef) rfl (by kernel_rfl) (by kernel_rfl) (by kernel_rfl) (fun _ _ _ h => h) (Or.inr ⟨by rfl, rfl⟩) (by assumption) ?_
   simp only [Act.put, tS]
   refine wpAnyH_take (i := 5) (v := undef) rfl (by kernel_rfl) (by kernel_rfl) (by kernel_rfl) (fun _ _ _ h => h) (Or.inr ⟨by rfl, rfl⟩) (by assumption) ?_
   simp only [Act.put, tS]
   refine wpAnyH_take (i := 6) (v := undef) rfl (by kernel_rfl) (by kernel_rfl) (by kernel_rfl) (fun _ _ _ h => h) (Or.inr ⟨by rfl, rfl⟩) (by assumption) ?_
   simp only [Act.put, tS]
   refine wpAnyH_take (i := 7) (v := undef) rfl (by kernel_rfl) (by kernel_rfl) (by kernel_rfl) (fun _ _ _ h => h) (Or.inr ⟨by rfl, rfl⟩) (by assumption) ?_
   simp only [Act.put, tS]
   refine wpAnyH_take (i := 8) (v := undef) rfl (by kernel_rfl) (by kernel_rfl) (by kernel_rfl) (fun _ _ _ h => h) (Or.inr ⟨by rfl, rfl⟩) (by assumption) ?_
   simp only [Act.put, tS]
   refine wpAnyH_take (i := 9) (v := undef) rfl (by kernel_rfl) (by kernel_rfl) (by kernel_rfl) (fun _ _ _ h => h) (Or.inr ⟨by rfl, rfl⟩) (by assumption) ?_
   simp only [Act.put, tS]
   refine wpAnyH_take (i := 10) (v := undef) rfl (by kernel_rfl) (by kernel_rfl) (by kernel_rfl) (fun _ _ _ h => h) (Or.inr ⟨by rfl, rfl⟩) (by assumption) ?_
   simp only [Act.put, tS]
   refine wpAnyH_take (i := 11) (v := undef) rfl (by kernel_rfl) (by kernel_rfl) (by kernel_rfl) (fun _ _ _ h => h) (Or.inr ⟨by rfl, rfl⟩) (by assumption) ?_
   simp only [Act.put, tS]
   refine wpAnyH_take (i := 12) (v := undef) rfl (by kernel_rfl) (by kernel_rfl) (by kernel_rfl) (fun _ _ _ h => h) (Or.inr ⟨by rfl, rfl⟩) (by assumption) ?_
   simp only [Act.put, tS]
   refine wpT 13 rfl ?_
   try simp only [Act.put, tS]
   refine wpT 14 rfl ?_
   try simp only [Act.put, tS]
   refine wpAnyH_done (by kernel_rfl) ?_ _
   clear hHeld
   go_wp2_with fail
   refine (HLOST.out _ H2.out.drew (bel_drewN 1 B2.out) HR.out).mono ?_
   rintro e w5 ⟨rfl, hto⟩
   go_wp2
   first
    | exact bodyPost_ret (v := .tuple #[]) (results_none rfl _ _ _) rfl ⟨rfl, hto⟩
    | (go_end0; exact ⟨rfl, hto⟩)
 have hmx : max L 0 = L := by omega
 have h1'' : 0 ≤ L := by omega
 go_wp2_with fail
 refine (align_any _ _ _ (by decide)).mono ?_
 rintro e w1 ⟨rfl, rfl⟩
 have HSZ2 := HSZ.out
 rw [hmx] at HSZ2
 rw [HSZ2]
 clear HSZ2
 by_cases h2 : L < 8
 ·have HR := Lib.hid (show m.head v = m.lost by unfold HeaM.head; rw [← HL.out, if_pos (.inl h2)])
  go_upto_region 4 with fail
  obtain ⟨w2, hw2⟩ : ∃ w2, w2 = w.alloc (.cells #[.int .i64 Z] 2) := ⟨_, rfl⟩
  have bb2 : Below w.heap.size w w2 := by rw [hw2]; go_grown
  have xx0 : Blk w2 w.heap.size [.int .i64 Z] := by rw [hw2]; exact Blk.made w _ _
  rw [← hw2]
  have B2 := Lib.hid bb2
  have X0 := Lib.hid xx0
  have s0 := xx0.cell 0
  have P2 := Lib.hid (HP.out.below bb2 lp)
  have q0 := P2.out.cell 0
  simp only [List.getElem?_cons_zero, ptr] at s0 q0
  have H2 := Lib.hid ((H.out.below bb2).gr H.out)
  have d8 := (hea_cells H2.out.mch).2.1
  have d13 := (hea_cells H2.out.mch).2.2.2.2.2.2.1
  have ls2 := xx0.lt
  have lp2 := P2.out.lt
  have lq2 := H2.out.lt
  clear hw2 bb2 xx0 p0
  refine wp_region_held_drew (S := fun w' => w'.cell? ⟨pb, 0, none⟩ = some (.pointer (some ⟨q, 0, none⟩)) ∧ w'.cell? ⟨w.heap.size, 0, none⟩ = some (.int .i64 Z) ∧ w'.cell? ⟨q, 8, none⟩ = some (.int .i64 m.s)) (by kernel_rfl) ?_ (fun hHeld => ?_)
  ·try dsimp only
   exact ⟨q0, s0, d8⟩
  refine wpT 0 rfl ?_
  try simp only [Act.put, tS]
  refine wpT 1 rfl ?_
  try simp only [Act.put, tS]
  refine wpT 2 rfl ?_
  try simp only [Act.put, tS]
  refine wpAnyH_take (i := 3) (v := undef) rfl (by kernel_rfl) (by kernel_rfl) (by kernel_rfl) (fun _ _ _ h => h) (Or.inr ⟨by rfl, rfl⟩) (by assumption) ?_
  simp only [Act.put, tS]
  refine wpAnyH_take (i := 4) (v := undef) rfl (by kernel_rfl) (by kernel_rfl) (by kernel_rfl) (fun _ _ _ h => h) (Or.inr ⟨by rfl, rfl⟩) (by assumption) ?_
  simp only [Act.put, tS]
  refine wpAnyH_take (i := 5) (v := undef) rfl (by kernel_rfl) (by kernel_rfl) (by kernel_rfl) (fun _ _ _ h => h) (Or.inr ⟨by rfl, rfl⟩) (by assumption) ?_
  simp only [Act.put, tS]
  refine wpAnyH_take (i := 6) (v := undef) rfl (by kernel_rfl) (by kernel_rfl) (by kernel_rfl) (fun _ _ _ h => h) (Or.inr ⟨by rfl, rfl⟩) (by assumption) ?_
  simp only [Act.put, tS]
  refine wpAnyH_take (i := 7) (v := undef) rfl (by kernel_rfl) (by kernel_rfl) (by kernel_rfl) (fun _ _ _ h => h) (Or.inr ⟨by rfl, rfl⟩) (by assumption) ?_
  simp only [Act.put, tS]
  refine wpAnyH_take (i := 8) (v := undef) rfl (by kernel_rfl) (by kernel_rfl) (by kernel_rfl) (fun _ _ _ h => h) (Or.inr ⟨by rfl, rfl⟩) (by assumption) ?_
  simp only [Act.put, tS]
  refine wpAnyH_take (i := 9) (v := undef) rfl (by kernel_rfl) (by kernel_rfl) (by kernel_rfl) (fun _ _ _ h => h) (Or.inr ⟨by rfl, rfl⟩) (by assumption) ?_
  simp only [Act.put, tS]
  refine wpAnyH_take (i := 10) (v := undef) rfl (by kernel_rfl) (by kernel_rfl) (by kernel_rfl) (fun _ _ _ h => h) (Or.inr ⟨by rfl, rfl⟩) (by assumption) ?_
  simp only [Act.put, tS]
  refine wpAnyH_take (i := 11) (v := undef) rfl (by kernel_rfl) (by kernel_rfl) (by kernel_rfl) (fun _ _ _ h => h) (Or.inr ⟨by rfl, rfl⟩) (by assumption) ?_
  simp only [Act.put, tS]
  refine wpAnyH_take (i := 12) (v := undef) rfl (by kernel_rfl) (by kernel_rfl) (by kernel_rfl) (fun _ _ _ h => h) (Or.inr ⟨by rfl, rfl⟩) (by assumption) ?_
  simp only [Act.put, tS]
  refine wpT 13 rfl ?_
  try simp only [Act.put, tS]
  refine wpT 14 rfl ?_
  try simp only [Act.put, tS]
  refine wpAnyH_done (by kernel_rfl) ?_ _
  clear hHeld
  go_wp2_with fail
  refine (HLOST.out _ H2.out.drew (bel_drewN 1 B2.out) HR.out).mono ?_
  rintro e w5 ⟨rfl, hto⟩
  go_wp2
  first
   | exact bodyPost_ret (v := .tuple #[]) (results_none rfl _ _ _) rfl ⟨rfl, hto⟩
   | (go_end0; exact ⟨rfl, hto⟩)
 have hZ : Z = (L + 7) / 8 * 8 := by
  rw [HZ.out]
  unfold rsz
  omega
 have hd2 : decide (L < 8) = false := decide_eq_false h2
 have hzl : L ≤ Z := by omega
 have hzb : Z ≤ 2147483656 := by omega
 clear hZ
 go_upto_region 4 with fail
 obtain ⟨w2, hw2⟩ : ∃ w2, w2 = w.alloc (.cells #[.int .i64 Z] 2) := ⟨_, rfl⟩
 have bb2 : Below w.heap.size w w2 := by rw [hw2]; go_grown
 have xx0 : Blk w2 w.heap.size [.int .i64 Z] := by rw [hw2]; exact Blk.made w _ _
 rw [← hw2]
 have B2 := Lib.hid bb2
 have X0 := Lib.hid xx0
 have s0 := xx0.cell 0
 have P2 := Lib.hid (HP.out.below bb2 lp)
 have q0 := P2.out.cell 0
 simp only [List.getElem?_cons_zero, ptr] at s0 q0
 have H2 := Lib.hid ((H.out.below bb2).gr H.out)
 have d8 := (hea_cells H2.out.mch).2.1
 have d13 := (hea_cells H2.out.mch).2.2.2.2.2.2.1
 have ls2 := xx0.lt
 have lp2 := P2.out.lt
 have lq2 := H2.out.lt
 clear hw2 bb2 xx0 p0
 by_cases h3 : m.s - PL < Z
 ·have HR := Lib.hid (show m.head v = m.lost by unfold HeaM.head; rw [← HL.out, ← HPL.out, if_pos (.inr (by rw [← HZ.out]; exact h3))])
  refine wp_region_held_drew (S := fun w' => w'.cell? ⟨pb, 0, none⟩ = some (.pointer (some ⟨q, 0, none⟩)) ∧ w'.cell? ⟨w.heap.size, 0, none⟩ = some (.int .i64 Z) ∧ w'.cell? ⟨q, 8, none⟩ = some (.int .i64 m.s)) (by kernel_rfl) ?_ (fun hHeld => ?_)
  ·try dsimp only
   exact ⟨q0, s0, d8⟩
  refine wpT 0 rfl ?_
  try simp only [Act.put, tS]
  refine wpT 1 rfl ?_
  try simp only [Act.put, tS]
  refine wpT 2 rfl ?_
  try simp only [Act.put, tS]
  refine wpT 3 rfl ?_
  try simp only [Act.put, tS]
  refine wpT 4 rfl ?_
  try simp only [Act.put, tS]
  refine wpT 5 rfl ?_
  try simp only [Act.put, tS]
  refine wpT 6 rfl ?_
  try simp only [Act.put, tS]
  refine wpT 7 rfl ?_
  try simp only [Act.put, tS]
  refine wpT 8 rfl ?_
  try simp only [Act.put, tS]
  refine wpT 9 rfl ?_
  try simp only [Act.put, tS]
  refine wpR 10 rfl fun K hK => ?_
  go_simp
  go_at_call 140
  refine (hPlace_any _ H2.out.drew).mono ?_
  rintro e w4 ⟨he4, b4⟩
  rw [← HPL.out] at he4
  subst he4
  go_wp2_with fail
  refine hK.out _ _ ?_ (fun hHeld => ?_)
  ·try dsimp only
   exact ⟨(b4.cell (p := ⟨pb, 0, none⟩) (by simpa using lp2)).trans q0, (b4.cell (p := ⟨w.heap.size, 0, none⟩) (by simpa using ls2)).trans s0, (b4.cell (p := ⟨q, 8, none⟩) (by simpa using lq2)).trans d8⟩
  clear hK K
  try simp only [Act.put, tS]
  refine wpT 11 rfl ?_
  try simp only [Act.put, tS]
  refine wpT 12 rfl ?_
  try simp only [Act.put, tS]
  refine wpT 13 rfl ?_
  try simp only [Act.put, tS]
  refine wpT 14 rfl ?_
  try simp only [Act.put, tS]
  refine wpAnyH_done (by kernel_rfl) ?_ _
  have b5 : Below w.heap.size w w4 := (bel_drewN 1 B2.out).trans (b4.mono (by have := B2.out.size; simpa using this))
  have h5 := (H.out.below b5).gr H.out
  have q5 := (b4.cell (p := ⟨pb, 0, none⟩) (by simpa using lp2)).trans q0
  clear hHeld
  go_wp2_with fail
  refine (HLOST.out _ h5 b5 HR.out).mono ?_
  rintro e w5 ⟨rfl, hto⟩
  go_wp2
  first
   | exact bodyPost_ret (v := .tuple #[]) (results_none rfl _ _ _) rfl ⟨rfl, hto⟩
   | (go_end0; exact ⟨rfl, hto⟩)
 have hn3 : ¬ (L < 8 ∨ m.s - m.place < rsz L) := by rw [← HPL.out, ← HZ.out]; omega
 have HN3 := Lib.hid hn3
 clear hn3
 refine wp_region_held_drew (S := fun w' => w'.cell? ⟨pb, 0, none⟩ = some (.pointer (some ⟨q, 0, none⟩)) ∧ w'.cell? ⟨w.heap.size, 0, none⟩ = some (.int .i64 Z) ∧ w'.cell? ⟨q, 8, none⟩ = some (.int .i64 m.s)) (by kernel_rfl) ?_ (fun hHeld => ?_)
 ·try dsimp only
  exact ⟨q0, s0, d8⟩
 refine wpT 0 rfl ?_
 try simp only [Act.put, tS]
 refine wpT 1 rfl ?_
 try simp only [Act.put, tS]
 refine wpT 2 rfl ?_
 try simp only [Act.put, tS]
 refine wpT 3 rfl ?_
 try simp only [Act.put, tS]
 refine wpT 4 rfl ?_
 try simp only [Act.put, tS]
 refine wpT 5 rfl ?_
 try simp only [Act.put, tS]
 refine wpT 6 rfl ?_
 try simp only [Act.put, tS]
 refine wpT 7 rfl ?_
 try simp only [Act.put, tS]
 refine wpT 8 rfl ?_
 try simp only [Act.put, tS]
 refine wpT 9 rfl ?_
 try simp only [Act.put, tS]
 refine wpR 10 rfl fun K hK => ?_
 go_simp
 go_at_call 140
 refine (hPlace_any _ H2.out.drew).mono ?_
 rintro e w4 ⟨he4, b4⟩
 rw [← HPL.out] at he4
 subst he4
 go_wp2_with fail
 refine hK.out _ _ ?_ (fun hHeld => ?_)
 ·try dsimp only
  exact ⟨(b4.cell (p := ⟨pb, 0, none⟩) (by simpa using lp2)).trans q0, (b4.cell (p := ⟨w.heap.size, 0, none⟩) (by simpa using ls2)).trans s0, (b4.cell (p := ⟨q, 8, none⟩) (by simpa using lq2)).trans d8⟩
 clear hK K
 try simp only [Act.put, tS]
 refine wpT 11 rfl ?_
 try simp only [Act.put, tS]
 refine wpT 12 rfl ?_
 try simp only [Act.put, tS]
 refine wpT 13 rfl ?_
 try simp only [Act.put, tS]
 refine wpT 14 rfl ?_
 try simp only [Act.put, tS]
 refine wpAnyH_done (by kernel_rfl) ?_ _
 clear hHeld
 have b5 : Below w.heap.size w w4 := (bel_drewN 1 B2.out).trans (b4.mono (by have := B2.out.size; simpa using this))
 have z4 := b4.size
 simp at z4
 have H4 := Lib.hid ((H.out.below b5).gr H.out)
 have X4 := Lib.hid ((X0.out.drew).below b4 (by simpa using ls2))
 have P4 := Lib.hid ((P2.out.drew).below b4 (by simpa using lp2))
 have B4 := Lib.hid b5
 have s4 := X4.out.cell 0
 have q4 := P4.out.cell 0
 simp only [List.getElem?_cons_zero, ptr] at s4 q4
 have e8 := (hea_cells H4.out.mch).2.1
 have e13 := (hea_cells H4.out.mch).2.2.2.2.2.2.1
 have ls4 := X4.out.lt
 have lp4 := P4.out.lt
 have lq4 := H4.out.lt
 have hpd := H4.out.pd
 clear b4 b5 s0 q0 d8 d13
 by_cases h4 : Y = -1
 ·have HY4 := Lib.hid h4
  by_cases h5 : 0 < m.pads
  ·have HR := Lib.hid (show m.head v = m.lost by unfold HeaM.head; rw [← HL.out, ← HY.out, if_neg HN3.out, if_pos h4, if_pos (.inl h5)])
   go_upto_region 6 with fail
   refine wp_region_held_drew (S := fun w' => w'.cell? ⟨pb, 0, none⟩ = some (.pointer (some ⟨q, 0, none⟩)) ∧ w'.cell? ⟨w.heap.size, 0, none⟩ = some (.int .i64 Z) ∧ w'.cell? ⟨q, 8, none⟩ = some (.int .i64 m.s) ∧ w'.cell? ⟨q, 13, none⟩ = some (.int .i64 m.pads)) (by kernel_rfl) ?_ (fun hHeld => ?_)
   ·try dsimp only
    exact ⟨q4, s4, e8, e13⟩
   refine wpT 0 rfl ?_
   try simp only [Act.put, tS]
   refine wpT 1 rfl ?_
   try simp only [Act.put, tS]
   refine wpT 2 rfl ?_
   try simp only [Act.put, tS]
   refine wpT 3 rfl ?_
   try simp only [Act.put, tS]
   refine wpT 4 rfl ?_
   try simp only [Act.put, tS]
   refine wpT 5 rfl ?_
   try simp only [Act.put, tS]
   refine wpT 6 rfl ?_
   try simp only [Act.put, tS]
   refine wpT 7 rfl ?_
   try simp only [Act.put, tS]
   refine wpAnyH_take (i := 8) (v := undef) rfl (by kernel_rfl) (by kernel_rfl) (by kernel_rfl) (fun _ _ _ h => h) (Or.inr ⟨by rfl, rfl⟩) (by assumption) ?_
   simp only [Act.put, tS]
   refine wpAnyH_take (i := 9) (v := undef) rfl (by kernel_rfl) (by kernel_rfl) (by kernel_rfl) (fun _ _ _ h => h) (Or.inr ⟨by rfl, rfl⟩) (by assumption) ?_
   simp only [Act.put, tS]
   refine wpAnyH_take (i := 10) (v := undef) rfl (by kernel_rfl) (by kernel_rfl) (by kernel_rfl) (fun _ _ _ h => h) (Or.inr ⟨by rfl, rfl⟩) (by assumption) ?_
   simp only [Act.put, tS]
   refine wpAnyH_take (i := 11) (v := undef) rfl (by kernel_rfl) (by kernel_rfl) (by kernel_rfl) (fun _ _ _ h => h) (Or.inr ⟨by rfl, rfl⟩) (by assumption) ?_
   simp only [Act.put, tS]
   refine wpAnyH_take (i := 12) (v := undef) rfl (by kernel_rfl) (by kernel_rfl) (by kernel_rfl) (fun _ _ _ h => h) (Or.inr ⟨by rfl, rfl⟩) (by assumption) ?_
   simp only [Act.put, tS]
   refine wpAnyH_take (i := 13) (v := undef) rfl (by kernel_rfl) (by kernel_rfl) (by kernel_rfl) (fun _ _ _ h => h) (Or.inr ⟨by rfl, rfl⟩) (by assumption) ?_
   simp only [Act.put, tS]
   refine wpAnyH_take (i := 14) (v := undef) rfl (by kernel_rfl) (by kernel_rfl) (by kernel_rfl) (fun _ _ _ h => h) (Or.inr ⟨by rfl, rfl⟩) (by assumption) ?_
   simp only [Act.put, tS]
   refine wpAnyH_take (i := 15) (v := undef) rfl (by kernel_rfl) (by kernel_rfl) (by kernel_rfl) (fun _ _ _ h => h) (Or.inr ⟨by rfl, rfl⟩) (by assumption) ?_
   simp only [Act.put, tS]
   refine wpAnyH_take (i := 16) (v := undef) rfl (by kernel_rfl) (by kernel_rfl) (by kernel_rfl) (fun _ _ _ h => h) (Or.inr ⟨by rfl, rfl⟩) (by assumption) ?_
   simp only [Act.put, tS]
   refine wpAnyH_take (i := 17) (v := undef) rfl (by kernel_rfl) (by kernel_rfl) (by kernel_rfl) (fun _ _ _ h => h) (Or.inr ⟨by rfl, rfl⟩) (by assumption) ?_
   simp only [Act.put, tS]
   refine wpT 18 rfl ?_
   try simp only [Act.put, tS]
   refine wpT 19 rfl ?_
   try simp only [Act.put, tS]
   refine wpT 20 rfl ?_
   try simp only [Act.put, tS]
   refine wpAnyH_done (by kernel_rfl) ?_ _
   clear hHeld
   go_wp2_with fail
   refine (HLOST.out _ H4.out.drew (bel_drewN 1 B4.out) HR.out).mono ?_
   rintro e w5 ⟨rfl, hto⟩
   go_wp2
   first
    | exact bodyPost_ret (v := .tuple #[]) (results_none rfl _ _ _) rfl ⟨rfl, hto⟩
    | (go_end0; exact ⟨rfl, hto⟩)
  by_cases h6 : Z < m.s - PL
  ·have HR := Lib.hid (show m.head v = m.lost by unfold HeaM.head; rw [← HL.out, ← HY.out, if_neg HN3.out, if_pos h4, if_pos (.inr (by rw [← HPL.out, ← HZ.out]; exact h6))])
   go_upto_region 6 with fail
   refine wp_region_held_drew (S := fun w' => w'.cell? ⟨pb, 0, none⟩ = some (.pointer (some ⟨q, 0, none⟩)) ∧ w'.cell? ⟨w.heap.size, 0, none⟩ = some (.int .i64 Z) ∧ w'.cell? ⟨q, 8, none⟩ = some (.int .i64 m.s) ∧ w'.cell? ⟨q, 13, none⟩ = some (.int .i64 m.pads)) (by kernel_rfl) ?_ (fun hHeld => ?_)
   ·try dsimp only
    exact ⟨q4, s4, e8, e13⟩
   refine wpT 0 rfl ?_
   try simp only [Act.put, tS]
   refine wpT 1 rfl ?_
   try simp only [Act.put, tS]
   refine wpT 2 rfl ?_
   try simp only [Act.put, tS]
   refine wpT 3 rfl ?_
   try simp only [Act.put, tS]
   refine wpT 4 rfl ?_
   try simp only [Act.put, tS]
   refine wpT 5 rfl ?_
   try simp only [Act.put, tS]
   refine wpT 6 rfl ?_
   try simp only [Act.put, tS]
   refine wpT 7 rfl ?_
   try simp only [Act.put, tS]
   refine wpT 8 rfl ?_
   try simp only [Act.put, tS]
   refine wpT 9 rfl ?_
   try simp only [Act.put, tS]
   refine wpT 10 rfl ?_
   try simp only [Act.put, tS]
   refine wpT 11 rfl ?_
   try simp only [Act.put, tS]
   refine wpT 12 rfl ?_
   try simp only [Act.put, tS]
   refine wpT 13 rfl ?_
   try simp only [Act.put, tS]
   refine wpT 14 rfl ?_
   try simp only [Act.put, tS]
   refine wpR 15 rfl fun K hK => ?_
   go_simp
   go_at_call 140
   refine (hPlace_any _ H4.out.drew).mono ?_
   rintro e w6 ⟨he4, b6⟩
   rw [← HPL.out] at he4
   subst he4
   go_wp2_with fail
   refine hK.out _ _ ?_ (fun hHeld => ?_)
   ·try dsimp only
    exact ⟨(b6.cell (p := ⟨pb, 0, none⟩) (by simpa using lp4)).trans q4, (b6.cell (p := ⟨w.heap.size, 0, none⟩) (by simpa using ls4)).trans s4, (b6.cell (p := ⟨q, 8, none⟩) (by simpa using lq4)).trans e8, (b6.cell (p := ⟨q, 13, none⟩) (by simpa using lq4)).trans e13⟩
   clear hK K
   try simp only [Act.put, tS]
   refine wpT 16 rfl ?_
   try simp only [Act.put, tS]
   refine wpT 17 rfl ?_
   try simp only [Act.put, tS]
   refine wpT 18 rfl ?_
   try simp only [Act.put, tS]
   refine wpT 19 rfl ?_
   try simp only [Act.put, tS]
   refine wpT 20 rfl ?_
   try simp only [Act.put, tS]
   refine wpAnyH_done (by kernel_rfl) ?_ _
   have b7 : Below w.heap.size w w6 := (bel_drewN 1 B4.out).trans (b6.mono (by have := B4.out.size; simpa using this))
   have h7 := (H.out.below b7).gr H.out
   have q7 := (b6.cell (p := ⟨pb, 0, none⟩) (by simpa using lp4)).trans q4
   clear hHeld
   go_wp2_with fail
   refine (HLOST.out _ h7 b7 HR.out).mono ?_
   rintro e w5 ⟨rfl, hto⟩
   go_wp2
   first
    | exact bodyPost_ret (v := .tuple #[]) (results_none rfl _ _ _) rfl ⟨rfl, hto⟩
    | (go_end0; exact ⟨rfl, hto⟩)
  have HR := Lib.hid (show m.head v = { m with pc := .pv Z } by unfold HeaM.head; rw [← HL.out, ← HY.out, if_neg HN3.out, if_pos h4, if_neg (by rw [← HPL.out, ← HZ.out]; omega), ← HZ.out])
  go_upto_region 6 with fail
  refine wp_region_held_drew (S := fun w' => w'.cell? ⟨pb, 0, none⟩ = some (.pointer (some ⟨q, 0, none⟩)) ∧ w'.cell? ⟨w.heap.size, 0, none⟩ = some (.int .i64 Z) ∧ w'.cell? ⟨q, 8, none⟩ = some (.int .i64 m.s) ∧ w'.cell? ⟨q, 13, none⟩ = some (.int .i64 m.pads)) (by kernel_rfl) ?_ (fun hHeld => ?_)
  ·try dsimp only
   exact ⟨q4, s4, e8, e13⟩
  refine wpT 0 rfl ?_
  try simp only [Act.put, tS]
  refine wpT 1 rfl ?_
  try simp only [Act.put, tS]
  refine wpT 2 rfl ?_
  try simp only [Act.put, tS]
  refine wpT 3 rfl ?_
  try simp only [Act.put, tS]
  refine wpT 4 rfl ?_
  try simp only [Act.put, tS]
  refine wpT 5 rfl ?_
  try simp only [Act.put, tS]
  refine wpT 6 rfl ?_
  try simp only [Act.put, tS]
  refine wpT 7 rfl ?_
  try simp only [Act.put, tS]
  refine wpT 8 rfl ?_
  try simp only [Act.put, tS]
  refine wpT 9 rfl ?_
  try simp only [Act.put, tS]
  refine wpT 10 rfl ?_
  try simp only [Act.put, tS]
  refine wpT 11 rfl ?_
  try simp only [Act.put, tS]
  refine wpT 12 rfl ?_
  try simp only [Act.put, tS]
  refine wpT 13 rfl ?_
  try simp only [Act.put, tS]
  refine wpT 14 rfl ?_
  try simp only [Act.put, tS]
  refine wpR 15 rfl fun K hK => ?_
  go_simp
  go_at_call 140
  refine (hPlace_any _ H4.out.drew).mono ?_
  rintro e w6 ⟨he4, b6⟩
  rw [← HPL.out] at he4
  subst he4
  go_wp2_with fail
  refine hK.out _ _ ?_ (fun hHeld => ?_)
  ·try dsimp only
   exact ⟨(b6.cell (p := ⟨pb, 0, none⟩) (by simpa using lp4)).trans q4, (b6.cell (p := ⟨w.heap.size, 0, none⟩) (by simpa using ls4)).trans s4, (b6.cell (p := ⟨q, 8, none⟩) (by simpa using lq4)).trans e8, (b6.cell (p := ⟨q, 13, none⟩) (by simpa using lq4)).trans e13⟩
  clear hK K
  try simp only [Act.put, tS]
  refine wpT 16 rfl ?_
  try simp only [Act.put, tS]
  refine wpT 17 rfl ?_
  try simp only [Act.put, tS]
  refine wpT 18 rfl ?_
  try simp only [Act.put, tS]
  refine wpT 19 rfl ?_
  try simp only [Act.put, tS]
  refine wpT 20 rfl ?_
  try simp only [Act.put, tS]
  refine wpAnyH_done (by kernel_rfl) ?_ _
  have b7 : Below w.heap.size w w6 := (bel_drewN 1 B4.out).trans (b6.mono (by have := B4.out.size; simpa using this))
  have h7 := (H.out.below b7).gr H.out
  have q7 := (b6.cell (p := ⟨pb, 0, none⟩) (by simpa using lp4)).trans q4
  clear hHeld
  have X6 := (X4.out.drew).below b6 (by simpa using ls4)
  have P6 := (P4.out.drew).below b6 (by simpa using lp4)
  have z6 := b6.size
  simp at z6
  have q6 := P6.cell 0
  simp only [List.getElem?_cons_zero, ptr] at q6
  have HT : Hid (HThen w6 (Gr O w w6) q { m with pc := .pv Z } (hLost q) (.func (.func 143) #[] #[.pointer (some ⟨pb, 0, none⟩), .pointer (some ⟨w.heap.size, 0, none⟩)])) := Lib.hid ⟨rfl, Clo.mk2 P6 (.inl op) X6 (.inr ⟨Nat.le_refl _, X6.lt⟩)⟩
  unfold hLost ptr at HT
  have H7 := Lib.hid h7
  have B7 := Lib.hid b7
  clear b6 b7 h7 X6 P6 q4 s4 e8 e13 q7
  go_wp2_with fail
  refine (hValid_any (.pv Z) _ H7.out HT.out).mono ?_
  rintro e w8 ⟨rfl, hto⟩
  go_wp2
  have hfin : HeaTo w O R q (m.head v) w8 := by rw [HR.out]; exact hto.from (Below.keeps B7.out) (fun i hi => hi.elim .inl (fun h => .inr (.inr h.1))) (fun i hi => .inl hi)
  first
   | exact bodyPost_ret (v := .tuple #[]) (results_none rfl _ _ _) rfl ⟨rfl, hfin⟩
   | (go_end0; exact ⟨rfl, hfin⟩)
 have HR := Lib.hid (show m.head v = m.bytes Y L Z by unfold HeaM.head HeaM.bytes; rw [← HL.out, ← HY.out, if_neg HN3.out, if_neg h4, ← HZ.out])
 have hbY : (Y == -1) = false := by simpa using h4
 go_upto_region 6 with fail
 refine wp_region_held_drew (S := fun w' => w'.cell? ⟨pb, 0, none⟩ = some (.pointer (some ⟨q, 0, none⟩)) ∧ w'.cell? ⟨w.heap.size, 0, none⟩ = some (.int .i64 Z) ∧ w'.cell? ⟨q, 8, none⟩ = some (.int .i64 m.s) ∧ w'.cell? ⟨q, 13, none⟩ = some (.int .i64 m.pads)) (by kernel_rfl) ?_ (fun hHeld => ?_)
 ·try dsimp only
  exact ⟨q4, s4, e8, e13⟩
 refine wpT 0 rfl ?_
 try simp only [Act.put, tS]
 refine wpT 1 rfl ?_
 try simp only [Act.put, tS]
 refine wpAnyH_take (i := 2) (v := undef) rfl (by kernel_rfl) (by kernel_rfl) (by kernel_rfl) (fun _ _ _ h => h) (Or.inr ⟨by rfl, rfl⟩) (by assumption) ?_
 simp only [Act.put, tS]
 refine wpAnyH_take (i := 3) (v := undef) rfl (by kernel_rfl) (by kernel_rfl) (by kernel_rfl) (fun _ _ _ h => h) (Or.inr ⟨by rfl, rfl⟩) (by assumption) ?_
 simp only [Act.put, tS]
 refine wpAnyH_take (i := 4) (v := undef) rfl (by kernel_rfl) (by kernel_rfl) (by kernel_rfl) (fun _ _ _ h => h) (Or.inr ⟨by rfl, rfl⟩) (by assumption) ?_
 simp only [Act.put, tS]
 refine wpAnyH_take (i := 5) (v := undef) rfl (by kernel_rfl) (by kernel_rfl) (by kernel_rfl) (fun _ _ _ h => h) (Or.inr ⟨by rfl, rfl⟩) (by assumption) ?_
 simp only [Act.put, tS]
 refine wpAnyH_take (i := 6) (v := undef) rfl (by kernel_rfl) (by kernel_rfl) (by kernel_rfl) (fun _ _ _ h => h) (Or.inr ⟨by rfl, rfl⟩) (by assumption) ?_
 simp only [Act.put, tS]
 refine wpAnyH_take (i := 7) (v := undef) rfl (by kernel_rfl) (by kernel_rfl) (by kernel_rfl) (fun _ _ _ h => h) (Or.inr ⟨by rfl, rfl⟩) (by assumption) ?_
 simp only [Act.put, tS]
 refine wpAnyH_take (i := 8) (v := undef) rfl (by kernel_rfl) (by kernel_rfl) (by kernel_rfl) (fun _ _ _ h => h) (Or.inr ⟨by rfl, rfl⟩) (by assumption) ?_
 simp only [Act.put, tS]
 refine wpAnyH_take (i := 9) (v := undef) rfl (by kernel_rfl) (by kernel_rfl) (by kernel_rfl) (fun _ _ _ h => h) (Or.inr ⟨by rfl, rfl⟩) (by assumption) ?_
 simp only [Act.put, tS]
 refine wpAnyH_take (i := 10) (v := undef) rfl (by kernel_rfl) (by kernel_rfl) (by kernel_rfl) (fun _ _ _ h => h) (Or.inr ⟨by rfl, rfl⟩) (by assumption) ?_
 simp only [Act.put, tS]
 refine wpAnyH_take (i := 11) (v := undef) rfl (by kernel_rfl) (by kernel_rfl) (by kernel_rfl) (fun _ _ _ h => h) (Or.inr ⟨by rfl, rfl⟩) (by assumption) ?_
 simp only [Act.put, tS]
 refine wpAnyH_take (i := 12) (v := undef) rfl (by kernel_rfl) (by kernel_rfl) (by kernel_rfl) (fun _ _ _ h => h) (Or.inr ⟨by rfl, rfl⟩) (by assumption) ?_
 simp only [Act.put, tS]
 refine wpAnyH_take (i := 13) (v := undef) rfl (by kernel_rfl) (by kernel_rfl) (by kernel_rfl) (fun _ _ _ h => h) (Or.inr ⟨by rfl, rfl⟩) (by assumption) ?_
 simp only [Act.put, tS]
 refine wpAnyH_take (i := 14) (v := undef) rfl (by kernel_rfl) (by kernel_rfl) (by kernel_rfl) (fun _ _ _ h => h) (Or.inr ⟨by rfl, rfl⟩) (by assumption) ?_
 simp only [Act.put, tS]
 refine wpAnyH_take (i := 15) (v := undef) rfl (by kernel_rfl) (by kernel_rfl) (by kernel_rfl) (fun _ _ _ h => h) (Or.inr ⟨by rfl, rfl⟩) (by assumption) ?_
 simp only [Act.put, tS]
 refine wpAnyH_take (i := 16) (v := undef) rfl (by kernel_rfl) (by kernel_rfl) (by kernel_rfl) (fun _ _ _ h => h) (Or.inr ⟨by rfl, rfl⟩) (by assumption) ?_
 simp only [Act.put, tS]
 refine wpAnyH_take (i := 17) (v := undef) rfl (by kernel_rfl) (by kernel_rfl) (by kernel_rfl) (fun _ _ _ h => h) (Or.inr ⟨by rfl, rfl⟩) (by assumption) ?_
 simp only [Act.put, tS]
 refine wpAnyH_take (i := 18) (v := undef) rfl (by kernel_rfl) (by kernel_rfl) (by kernel_rfl) (fun _ _ _ h => h) (Or.inr ⟨by rfl, rfl⟩) (by assumption) ?_
 simp only [Act.put, tS]
 refine wpT 19 rfl ?_
 try simp only [Act.put, tS]
 refine wpT 20 rfl ?_
 try simp only [Act.put, tS]
 refine wpAnyH_done (by kernel_rfl) ?_ _
 clear hHeld
 go_wp2_with fail
 refine (hBytes_any Y L Z _ H4.out.drew (by omega) (by omega)).mono ?_
 rintro e w8 ⟨rfl, hto⟩
 go_wp2
 have hfin : HeaTo w O R q (m.head v) w8 := by rw [HR.out]; exact hto.from (Below.keeps (bel_drewN 1 B4.out)) (fun i hi => hi.elim .inl (fun h => .inr (.inr h.1))) (fun i hi => .inl hi)
 first
  | exact bodyPost_ret (v := .tuple #[]) (results_none rfl _ _ _) rfl ⟨rfl, hfin⟩
  | (go_end0; exact ⟨rfl, hfin⟩)
end Go.Proofs.YtggjhleomocojaaGreat
