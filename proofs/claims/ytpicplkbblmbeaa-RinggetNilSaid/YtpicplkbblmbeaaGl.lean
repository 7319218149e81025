/- A get in memory: a record's header is known; New's closure; the head moves on. Conditions: as each says. -/
import Derived.Test.YtpicplkbblmbeaaGk
namespace Go.Proofs.Ytpicplkbblmbeaa
set_option maxRecDepth 100000
open Go.RowKit
set_option linter.unusedVariables false
set_option linter.unusedSimpArgs false
theorem alV_8 {n : Int} (h0 : 0 ≤ n) (h1 : n ≤ 2147483647) : alV n 8 = (n + 7) / 8 * 8 := by
  have hp : isP 8 = true := by decide
  have e3 : decide (n < 0) = false := decide_eq_false (by omega)
  have e4 : decide (4611686018427387904 < n) = false := decide_eq_false (by omega)
  unfold alV alBad
  rw [e3, e4, hp]
  simp only [Bool.or_false, Bool.not_true, Bool.false_eq_true, if_false]
  split <;> omega
/-- What is done where a record's header is known. -/
def GetM.seen (m : GetM) (v : Int) : GetM :=
  if loS v < 1 then m.zero
  else if loS v < 8 ∨ m.left < rsz (loS v) then ({ m with odd := true } : GetM).zero
  else if hiS v = -1 then ({ m with dn := m.dn + rsz (loS v) } : GetM).record
  else m.taken m.at (loS v) (rsz (loS v)) (hiS v)
theorem loS_bdG (v : Int) : -2147483648 ≤ loS v ∧ loS v ≤ 2147483647 := by unfold loS wrap32; omega
theorem hiS_bdG (v : Int) : -2147483648 ≤ hiS v ∧ hiS v ≤ 2147483647 := by unfold hiS wrap32; omega
set_option maxHeartbeats 4000000 in
theorem gRecordK_any {O R : Nat → Prop} {q : Nat} {m : GetM} {ov : Value} (v : Int) (gb ab : Nat) (w : World) (h : GetW w O R q m ov) (hb : m.bas) (hg : Blk w gb [ptr q]) (ha : Blk w ab [.int .i64 m.at]) (og : O gb) (oa : O ab) (hv : inU v) :
    Calls Try.prog 129 #[.int .u64 v, ptr gb, ptr ab] w fun e w' => e = .returned (.tuple #[]) ∧ GetTo w O R q (m.seen v) w' := by
  obtain ⟨b0, b1, b2, b3, b4, b5, b6⟩ := h.bd
  obtain ⟨g1, g2, g3, g4, g5, g6⟩ := id hb
  have hlt := h.lt
  have H := Lib.hid h
  have HB := Lib.hid hb
  have lg := hg.lt
  have la := ha.lt
  have ng : gb ≠ q := fun e => h.nqo (e ▸ og)
  have na : ab ≠ q := fun e => h.nqo (e ▸ oa)
  have p0 := hg.cell 0
  have p1 := ha.cell 0
  simp only [List.getElem?_cons_zero, ptr] at p0 p1
  obtain ⟨c7, c8, c9, c10, c11, c12, c13, c14, c15⟩ := get_cells h.mch
  have f14 := Blk.frozen h.mch 14
  have f12 := Blk.frozen h.mch 12
  have lb := loS_bdG v
  have hbb := hiS_bdG v
  obtain ⟨L, hL⟩ : ∃ L, L = loS v := ⟨_, rfl⟩
  obtain ⟨Y, hY⟩ : ∃ Y, Y = hiS v := ⟨_, rfl⟩
  have HL := Lib.hid hL
  have HY := Lib.hid hY
  rw [← hL] at lb
  rw [← hY] at hbb
  have hsz : alV (max L 0) 8 = rsz L := by rw [alV_8 (by omega) (by omega)]; rfl
  obtain ⟨Z, hZ⟩ : ∃ Z, Z = rsz L := ⟨_, rfl⟩
  have HZ := Lib.hid hZ
  have HSZ := Lib.hid (hsz.trans hZ.symm)
  have HA := Lib.hid (show m.at = m.c.b + m.first + m.dn from rfl)
  have W1 : IntKind.i64.wrap (max L 0) = max L 0 := IntWalk.i64_in _ ⟨by omega, by omega⟩
  have W3 : IntKind.i64.wrap L = L := IntWalk.i64_in _ ⟨by omega, by omega⟩
  unfold ptr
  clear h hb hg ha b0 b1 hL hY hZ hsz
  go_enter Try.func129, Try.ntmps129
  go_wp2_with fail
  refine (split_any v _ hv.1 hv.2).mono ?_
  rintro e w1 ⟨rfl, rfl⟩
  rw [← HL.out, ← HY.out]
  by_cases h1 : L < 1
  · have HR := Lib.hid (show m.seen v = m.zero by unfold GetM.seen; rw [← HL.out, if_pos h1])
    have hmx : max L 0 = 0 := by omega
    have h1' : L ≤ 0 := by omega
    go_wp2_with fail
    all_goals
      refine (align_any _ _ _ (by decide)).mono ?_
      rintro e w1 ⟨rfl, rfl⟩
      go_wp2_with fail
      refine (gZero_any w H.out HB.out).mono ?_
      rintro e w5 ⟨rfl, hto⟩
      go_wp2
      first
        | (refine bodyPost_ret (v := .tuple #[]) (results_none rfl _ _ _) rfl ⟨rfl, ?_⟩; rw [HR.out]; exact hto)
        | (go_end0; refine ⟨rfl, ?_⟩; rw [HR.out]; exact hto)
  have hmx : max L 0 = L := by omega
  have h1' : ¬ L ≤ 0 := by omega
  have h1'' : 0 ≤ L := by omega
  go_wp2_with fail
  refine (align_any _ _ _ (by decide)).mono ?_
  rintro e w1 ⟨rfl, rfl⟩
  have HSZ2 := HSZ.out
  rw [hmx] at HSZ2
  rw [HSZ2]
  clear HSZ2
  have h1n : ¬ L < 1 := by omega
  have hZ : Z = (L + 7) / 8 * 8 := by
    rw [HZ.out]
    unfold rsz
    omega
  by_cases h2 : L < 8
  · have HR := Lib.hid (show m.seen v = ({ m with odd := true } : GetM).zero by unfold GetM.seen; rw [← HL.out, if_neg (by omega), if_pos (.inl h2)])
    have HZZ := Lib.hid hZ
    clear hZ
    go_wp2_with fail
    refine (gZero_any (m := { m with odd := true }) _ (H.out.put (m' := { m with odd := true }) 14 (.bool true) rfl rfl rfl) ⟨g1, g2, g3, g4, g5, g6⟩).mono ?_
    have HK := Lib.hid (Keep.setCell (M := fun i => i = q ∨ R i) (Keep.refl _ w) (p := ⟨q, 14, none⟩) (.inl (.inl rfl)) (.bool true))
    rintro e w5 ⟨rfl, hto⟩
    go_wp2
    first
      | (refine bodyPost_ret (v := .tuple #[]) (results_none rfl _ _ _) rfl ⟨rfl, ?_⟩; rw [HR.out]; exact hto.after HK.out)
      | (go_end0; refine ⟨rfl, ?_⟩; rw [HR.out]; exact hto.after HK.out)
  have HZZ := Lib.hid hZ
  have hz8 : 8 ≤ Z := by omega
  have hzl : L ≤ Z := by omega
  have hzb : Z ≤ 2147483656 := by omega
  clear hZ
  go_wp2_with fail
  refine (gLeft_any w H.out HB.out).mono ?_
  rintro e w2 ⟨rfl, b2⟩
  have z2 := b2.size
  have H2 := Lib.hid (H.out.below b2)
  have K2 := Lib.hid (show Keep (fun i => i = q ∨ R i) w w2 from Below.keeps b2)
  have d0 := (b2.cell (p := ⟨gb, 0, none⟩) lg).trans p0
  have d1 := (b2.cell (p := ⟨ab, 0, none⟩) la).trans p1
  obtain ⟨e7, e8, e9, e10, e11, e12, e13, e14, e15⟩ := get_cells H2.out.mch
  have x14 := Blk.frozen H2.out.mch 14
  have x12 := Blk.frozen H2.out.mch 12
  have lg2 : gb < w2.heap.size := by omega
  have la2 : ab < w2.heap.size := by omega
  have lq2 : q < w2.heap.size := by omega
  clear b2 c7 c8 c9 c10 c11 c12 c13 c14 c15 f14 f12 p0 p1
  have hn2 : ¬ L < 8 := by omega
  by_cases h3 : m.left < Z
  · have HR := Lib.hid (show m.seen v = ({ m with odd := true } : GetM).zero by unfold GetM.seen; rw [← HL.out, if_neg (by omega), if_pos (.inr (by rw [← HZ.out]; exact h3))])
    go_wp2_with fail
    refine (gZero_any (m := { m with odd := true }) _ (H2.out.put (m' := { m with odd := true }) 14 (.bool true) rfl rfl rfl) ⟨g1, g2, g3, g4, g5, g6⟩).mono ?_
    have HK := Lib.hid (K2.out.setCell (p := ⟨q, 14, none⟩) (.inl (.inl rfl)) (.bool true))
    rintro e w5 ⟨rfl, hto⟩
    go_wp2
    first
      | (refine bodyPost_ret (v := .tuple #[]) (results_none rfl _ _ _) rfl ⟨rfl, ?_⟩; rw [HR.out]; exact hto.after HK.out)
      | (go_end0; refine ⟨rfl, ?_⟩; rw [HR.out]; exact hto.after HK.out)
  have h3' : ¬ m.left < Z := by omega
  have hleft : m.left = m.c.s - m.first - m.dn := rfl
  have hz1 : m.first + m.dn + Z ≤ m.c.s := by omega
  have HZ1 := Lib.hid hz1
  have W5 : IntKind.i64.wrap (m.dn + Z) = m.dn + Z := IntWalk.i64_in _ ⟨by omega, by omega⟩
  clear hleft hz1
  by_cases h4 : Y = -1
  · have HR := Lib.hid (show m.seen v = ({ m with dn := m.dn + Z } : GetM).record by unfold GetM.seen; rw [← HL.out, ← HY.out, if_neg (by omega), if_neg (by rw [← HZ.out]; omega), if_pos h4, ← HZ.out])
    have HY4 := Lib.hid h4
    go_wp2_with fail
    refine (gRecord_any (m := { m with dn := m.dn + Z }) _ (H2.out.put (m' := { m with dn := m.dn + Z }) 12 (.int .i64 (m.dn + Z)) rfl rfl rfl) ⟨g1, g2, g3, by show 0 ≤ m.dn + Z; omega, by show m.first + (m.dn + Z) ≤ m.c.s; have := HZ1.out; omega, by show 8 * (m.out.length : Int) ≤ m.dn + Z; omega⟩).mono ?_
    have HK := Lib.hid (K2.out.setCell (p := ⟨q, 12, none⟩) (.inl (.inl rfl)) (.int .i64 (m.dn + Z)))
    rintro e w5 ⟨rfl, hto⟩
    go_wp2
    first
      | (refine bodyPost_ret (v := .tuple #[]) (results_none rfl _ _ _) rfl ⟨rfl, ?_⟩; rw [HR.out]; exact hto.after HK.out)
      | (go_end0; refine ⟨rfl, ?_⟩; rw [HR.out]; exact hto.after HK.out)
  · have h4' : ¬ (Y = -1) := by omega
    have HR := Lib.hid (show m.seen v = m.taken m.at L Z Y by unfold GetM.seen; rw [← HL.out, ← HY.out, if_neg (by omega), if_neg (by rw [← HZ.out]; omega), if_neg h4, ← HZ.out])
    have hbY : (Y == -1) = false := by simpa using h4
    go_wp2_with fail
    refine (gTakeMsg_any m.at L Z Y _ H2.out HB.out (by rw [HA.out]; omega) (by rw [HA.out]; omega) (by omega) hzl hz8 HZ1.out).mono ?_
    have HK := K2
    rintro e w5 ⟨rfl, hto⟩
    go_wp2
    first
      | (refine bodyPost_ret (v := .tuple #[]) (results_none rfl _ _ _) rfl ⟨rfl, ?_⟩; rw [HR.out]; exact hto.after HK.out)
      | (go_end0; refine ⟨rfl, ?_⟩; rw [HR.out]; exact hto.after HK.out)
set_option maxHeartbeats 2000000 in
theorem gNewK_any {O R : Nat → Prop} {q : Nat} {m : GetM} {ov : Value} (v : Int) (rb pb : Nat) (w : World) (h : GetW w O R q m ov) (hr : Blk w rb [.int .i64 m.c.b, .int .i64 m.c.s]) (hp : Blk w pb [ptr q]) (or : O rb) (op : O pb) (hv : inU v) (ho : m.out = []) (hd : m.dn = 0) :
    Calls Try.prog 83 #[.int .u64 v, ptr rb, ptr pb] w fun e w' => e = .returned (.tuple #[]) ∧ GetTo w O R q (({ m with hd := v, first := v % m.c.s } : GetM).record) w' := by
  obtain ⟨b0, b1, b2, b3, b4, b5, b6⟩ := h.bd
  have hlt := h.lt
  have H := Lib.hid h
  have lp := hp.lt
  have lr := hr.lt
  have np : pb ≠ q := fun e => h.nqo (e ▸ op)
  have nr : rb ≠ q := fun e => h.nqo (e ▸ or)
  have p0 := hp.cell 0
  have r1 := hr.cell 1
  simp only [List.getElem?_cons_zero, List.getElem?_cons_succ, ptr] at p0 r1
  have c10 := Blk.cell h.mch 10
  have c11 := Blk.cell h.mch 11
  have f10 := Blk.frozen h.mch 10
  have f11 := Blk.frozen h.mch 11
  have m1 := Int.emod_nonneg v (show m.c.s ≠ 0 by omega)
  have m2 := Int.emod_lt_of_pos v (show 0 < m.c.s by omega)
  have HM := Lib.hid (show mkS (IntKind.i64.wrap v) m.c.s = v % m.c.s by unfold mkS; rw [if_pos b1, wrap_s64]; exact s64_mod b0 v)
  have HO := Lib.hid (And.intro ho hd)
  unfold ptr
  clear h hr hp b0 b1 ho hd
  go_enter Try.func83, Try.ntmps83
  go_wp2_with fail
  refine wp_region_held_drew (S := (fun w' => w'.cell? ⟨pb, 0, none⟩ = some (.pointer (some ⟨q, 0, none⟩)) ∧ w'.cell? ⟨rb, 1, none⟩ = some (.int .i64 m.c.s))) (by kernel_rfl) ?_ (fun hHeld => ?_)
  · try dsimp only
    go_keep
  refine wpAnyH_take (i := 0) (v := ?_) rfl (by kernel_rfl) (by kernel_rfl) (by kernel_rfl) (fun _ _ _ h => h) (Or.inl ⟨by rfl, ?_⟩) (by assumption) ?_
  rotate_left
  · intro w0 hSw
    (try dsimp only at hSw)
    go_simp
    try with_reducible rfl
  try simp only [Act.put, List.getElem_toArray, List.getElem_cons_zero, List.getElem_cons_succ, List.setIfInBounds_toArray, List.set_cons_zero, List.set_cons_succ]
  refine wpAnyH_take (i := 1) (v := ?_) rfl (by kernel_rfl) (by kernel_rfl) (by kernel_rfl) (fun _ _ _ h => h) (Or.inl ⟨by rfl, ?_⟩) (by assumption) ?_
  rotate_left
  · intro w0 hSw
    (try dsimp only at hSw)
    go_simp
    try with_reducible rfl
  try simp only [Act.put, List.getElem_toArray, List.getElem_cons_zero, List.getElem_cons_succ, List.setIfInBounds_toArray, List.set_cons_zero, List.set_cons_succ]
  refine wpAnyH_take (i := 2) (v := ?_) rfl (by kernel_rfl) (by kernel_rfl) (by kernel_rfl) (fun _ _ _ h => h) (Or.inl ⟨by rfl, ?_⟩) (by assumption) ?_
  rotate_left
  · intro w0 hSw
    (try dsimp only at hSw)
    go_simp
    try with_reducible rfl
  try simp only [Act.put, List.getElem_toArray, List.getElem_cons_zero, List.getElem_cons_succ, List.setIfInBounds_toArray, List.set_cons_zero, List.set_cons_succ]
  refine wpAnyH_take (i := 3) (v := ?_) rfl (by kernel_rfl) (by kernel_rfl) (by kernel_rfl) (fun _ _ _ h => h) (Or.inl ⟨by rfl, ?_⟩) (by assumption) ?_
  rotate_left
  · intro w0 hSw
    (try dsimp only at hSw)
    go_simp
    try with_reducible rfl
  try simp only [Act.put, List.getElem_toArray, List.getElem_cons_zero, List.getElem_cons_succ, List.setIfInBounds_toArray, List.set_cons_zero, List.set_cons_succ]
  refine wpAnyH_take (i := 4) (v := ?_) rfl (by kernel_rfl) (by kernel_rfl) (by kernel_rfl) (fun _ _ _ h => h) (Or.inl ⟨by rfl, ?_⟩) (by assumption) ?_
  rotate_left
  · intro w0 hSw
    (try dsimp only at hSw)
    go_simp
    try with_reducible rfl
  try simp only [Act.put, List.getElem_toArray, List.getElem_cons_zero, List.getElem_cons_succ, List.setIfInBounds_toArray, List.set_cons_zero, List.set_cons_succ]
  refine wpAnyH_take (i := 5) (v := ?_) rfl (by kernel_rfl) (by kernel_rfl) (by kernel_rfl) (fun _ _ _ h => h) (Or.inl ⟨by rfl, ?_⟩) (by assumption) ?_
  rotate_left
  · intro w0 hSw
    (try dsimp only at hSw)
    go_simp
    try with_reducible rfl
  try simp only [Act.put, List.getElem_toArray, List.getElem_cons_zero, List.getElem_cons_succ, List.setIfInBounds_toArray, List.set_cons_zero, List.set_cons_succ]
  refine wpAnyH_take (i := 6) (v := ?_) rfl (by kernel_rfl) (by kernel_rfl) (by kernel_rfl) (fun _ _ _ h => h) (Or.inl ⟨by rfl, ?_⟩) (by assumption) ?_
  rotate_left
  · intro w0 hSw
    (try dsimp only at hSw)
    go_simp
    try with_reducible rfl
  try simp only [Act.put, List.getElem_toArray, List.getElem_cons_zero, List.getElem_cons_succ, List.setIfInBounds_toArray, List.set_cons_zero, List.set_cons_succ]
  refine wpAnyH_ready (rs := [7]) (by kernel_rfl) (by simp) ?_
  refine AllReadyH.cons rfl (fun K hK => ?_) AllReadyH.nil
  go_simp
  go_at_call 84
  refine (mask_any _ _ _ (by omega)).mono ?_
  rintro e w2 ⟨rfl, rfl⟩
  go_wp2_with fail
  rw [HM.out]
  refine hK.out _ _ ?_ (fun hHeld => ?_)
  · try dsimp only
    go_keep
  clear hK K
  try simp only [Act.put, List.getElem_toArray, List.getElem_cons_zero, List.getElem_cons_succ, List.setIfInBounds_toArray, List.set_cons_zero, List.set_cons_succ]
  refine wpAnyH_take (i := 8) (v := ?_) rfl (by kernel_rfl) (by kernel_rfl) (by kernel_rfl) (fun _ _ _ h => h) (Or.inl ⟨by rfl, ?_⟩) (by assumption) ?_
  rotate_left
  · intro w0 hSw
    (try dsimp only at hSw)
    go_simp
    try with_reducible rfl
  try simp only [Act.put, List.getElem_toArray, List.getElem_cons_zero, List.getElem_cons_succ, List.setIfInBounds_toArray, List.set_cons_zero, List.set_cons_succ]
  refine wpAnyH_take (i := 9) (v := ?_) rfl (by kernel_rfl) (by kernel_rfl) (by kernel_rfl) (fun _ _ _ h => h) (Or.inl ⟨by rfl, ?_⟩) (by assumption) ?_
  rotate_left
  · intro w0 hSw
    (try dsimp only at hSw)
    go_simp
    try with_reducible rfl
  try simp only [Act.put, List.getElem_toArray, List.getElem_cons_zero, List.getElem_cons_succ, List.setIfInBounds_toArray, List.set_cons_zero, List.set_cons_succ]
  refine wpAnyH_ready (rs := [10]) (by kernel_rfl) (by simp) ?_
  refine AllReadyH.cons rfl (fun K hK => ?_) AllReadyH.nil
  go_simp
  have ks := Keep.setCell (M := (· = q)) (Keep.refl _ w.drew) (p := ⟨q, 10, none⟩) (.inl rfl) (.int .u64 v)
  refine hK.out _ _ ?_ (fun hHeld => ?_)
  · try dsimp only
    exact ⟨(ks.cell (b := pb) 0 lp np).trans p0, (ks.cell (b := rb) 1 lr nr).trans r1⟩
  clear hK K
  try simp only [Act.put, List.getElem_toArray, List.getElem_cons_zero, List.getElem_cons_succ, List.setIfInBounds_toArray, List.set_cons_zero, List.set_cons_succ]
  refine wpAnyH_take (i := 11) (v := ?_) rfl (by kernel_rfl) (by kernel_rfl) (by kernel_rfl) (fun _ _ _ h => h) (Or.inl ⟨by rfl, ?_⟩) (by assumption) ?_
  rotate_left
  · intro w0 hSw
    (try dsimp only at hSw)
    go_simp
    try with_reducible rfl
  try simp only [Act.put, List.getElem_toArray, List.getElem_cons_zero, List.getElem_cons_succ, List.setIfInBounds_toArray, List.set_cons_zero, List.set_cons_succ]
  refine wpAnyH_take (i := 12) (v := ?_) rfl (by kernel_rfl) (by kernel_rfl) (by kernel_rfl) (fun _ _ _ h => h) (Or.inl ⟨by rfl, ?_⟩) (by assumption) ?_
  rotate_left
  · intro w0 hSw
    (try dsimp only at hSw)
    go_simp
    try with_reducible rfl
  try simp only [Act.put, List.getElem_toArray, List.getElem_cons_zero, List.getElem_cons_succ, List.setIfInBounds_toArray, List.set_cons_zero, List.set_cons_succ]
  refine wpAnyH_ready (rs := [13]) (by kernel_rfl) (by simp) ?_
  refine AllReadyH.cons rfl (fun K hK => ?_) AllReadyH.nil
  go_simp
  have ks := Keep.setCell (M := (· = q)) (Keep.setCell (M := (· = q)) (Keep.refl _ w.drew) (p := ⟨q, 10, none⟩) (.inl rfl) (.int .u64 v)) (p := ⟨q, 11, none⟩) (.inl rfl) (.int .i64 (v % m.c.s))
  refine hK.out _ _ ?_ (fun hHeld => ?_)
  · try dsimp only
    exact ⟨(ks.cell (b := pb) 0 lp np).trans p0, (ks.cell (b := rb) 1 lr nr).trans r1⟩
  clear hK K
  try simp only [Act.put, List.getElem_toArray, List.getElem_cons_zero, List.getElem_cons_succ, List.setIfInBounds_toArray, List.set_cons_zero, List.set_cons_succ]
  refine wpAnyH_done (by kernel_rfl) ?_ _
  clear hHeld
  go_wp2_with fail
  have hg := ((H.out.drew).put (m' := { m with hd := v }) 10 (.int .u64 v) rfl rfl rfl).put (m' := { m with hd := v, first := v % m.c.s }) 11 (.int .i64 (v % m.c.s)) rfl rfl rfl
  have ks := Keep.setCell (M := fun i => i = q ∨ R i) (Keep.setCell (M := fun i => i = q ∨ R i) ((Keep.refl _ w).drew) (p := ⟨q, 10, none⟩) (.inl (.inl rfl)) (.int .u64 v)) (p := ⟨q, 11, none⟩) (.inl (.inl rfl)) (.int .i64 (v % m.c.s))
  refine (gRecord_any _ hg ⟨hv, m1, m2, by show 0 ≤ m.dn; rw [HO.out.2]; omega, by show v % m.c.s + m.dn ≤ m.c.s; rw [HO.out.2]; omega, by show 8 * (m.out.length : Int) ≤ m.dn; rw [HO.out.2, HO.out.1]; simp⟩).mono ?_
  rintro e w5 ⟨rfl, hto⟩
  go_wp2
  go_end0
  exact ⟨rfl, hto.after ks⟩
set_option maxHeartbeats 2000000 in
theorem gZeroK_any {O R : Nat → Prop} {q : Nat} {m : GetM} {ov : Value} (gb : Nat) (w : World) (h : GetW w O R q m ov) (hg : Blk w gb [ptr q]) (og : O gb) :
    Calls Try.prog 151 #[ptr gb] w fun e w' => e = .returned (.tuple #[]) ∧ GetTo w O R q { m with pc := .st } w' := by
  obtain ⟨b0, b1, b2, b3, b4, b5, b6⟩ := h.bd
  have hlt := h.lt
  have H := Lib.hid h
  have lg := hg.lt
  have ng : gb ≠ q := fun e => h.nqo (e ▸ og)
  have p0 := hg.cell 0
  simp only [List.getElem?_cons_zero, ptr] at p0
  obtain ⟨c7, c8, c9, c10, c11, c12, c13, c14, c15⟩ := get_cells h.mch
  have W1 : IntKind.i64.wrap (m.c.b + m.c.s) = m.c.b + m.c.s := IntWalk.i64_in _ ⟨by omega, by omega⟩
  have W2 : IntKind.i64.wrap (m.c.b + m.c.s + 16) = m.c.b + m.c.s + 16 := IntWalk.i64_in _ ⟨by omega, by omega⟩
  have HW3 := Lib.hid (show IntKind.u64.wrap (m.hd + IntKind.u64.wrap m.dn) = u64 (m.hd + m.dn) by rw [wrap_u64', wrap_u64']; unfold u64; rw [Int.add_emod, Int.emod_emod, ← Int.add_emod])
  unfold ptr
  clear h hg b0 b1
  go_enter Try.func151, Try.ntmps151
  go_wp2_with fail
  go_region_held3 (fun w' => w'.cell? ⟨gb, 0, none⟩ = some (.pointer (some ⟨q, 0, none⟩)) ∧ w'.cell? ⟨q, 7, none⟩ = some (.int .i64 m.c.b) ∧ w'.cell? ⟨q, 8, none⟩ = some (.int .i64 m.c.s) ∧ w'.cell? ⟨q, 10, none⟩ = some (.int .u64 m.hd) ∧ w'.cell? ⟨q, 12, none⟩ = some (.int .i64 m.dn)) (first | go_keep | trivial)
    (first
      | (go_at_call 142; refine (cStore_bd q _ _ _ (m.c.b + m.c.s + 16) 8 _ _ _ _ _ (H.out.drew).mch).mono ?_; rintro e w5 ⟨rfl, t5, m5, l5, k5⟩; have hd0 := fun o => k5.cell (b := gb) o (by simpa using lg) ng; obtain ⟨e7, e8, _, e10, _, e12, _⟩ := get_cells m5))
  all_goals
    clear hd0 e7 e8 e10 e12
    have z5 := k5.size
    simp at z5
    go_wp2
    go_end0
    refine ⟨rfl, GetTo.simple (O' := fun i => w.heap.size ≤ i ∧ i < w5.heap.size) H.out (((Keep.refl _ w).drew).trans k5) ⟨nofun, nofun⟩ (t := t5) ?_ rfl (l5.mono (fun i hi => .inr ⟨by have := hi.1; simp at this; omega, hi.2⟩)) (fun i hi => hi)⟩
    rw [HW3.out] at m5
    exact m5
end Go.Proofs.Ytpicplkbblmbeaa
