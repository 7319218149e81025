/- The reference's memory: Do. Conditions: numbers of their kinds; the bytes lie in a block of their own. -/
import Derived.Test.YtknahaaefmlcpaaRf
import Derived.Deep.RegionHeld3
namespace Go.Proofs.Ytknahaaefmlcpaa
set_option maxRecDepth 100000
open Go.RowKit
set_option linter.unusedVariables false
set_option linter.unusedSimpArgs false
theorem wp_copy {w : World} {o : Oper} {a : Act} {K : Act → World → Prop} {Q : Exit → Act → World → Prop} (d s : Operand)
    (ho : o.op = .call { callee := .builtin .copy, args := #[d, s], argTypes := #[26, 26] })
    (dp sp : Option Addr) (dLen dCap sLen sCap : Nat) (hd : a.eval d = .slice dp dLen dCap) (hs : a.eval s = .slice sp sLen sCap)
    (g off : Nat) (cur ms : List Int) (hg : Blk w g (cur.map (Value.int .u8))) (hr : RdB w (.slice sp sLen sCap) ms) (hn : ms.length ≤ dLen) (hpos : ms.length ≠ 0 → dp = some ⟨g, off, none⟩) (hfit : off + ms.length ≤ cur.length)
    (h : ∀ w', Hid (Blk w' g ((spl cur off ms).map (Value.int .u8))) → Keep (· = g) w w' → K (a.put o.dst (goInt ms.length)) w') : o.wp Try.prog a w K Q := by
  have hl := rd_len hr
  obtain ⟨T, hg⟩ := hg
  by_cases h0 : ms.length = 0
  · obtain rfl : ms = [] := List.eq_nil_of_length_eq_zero h0
    simp at hl
    subst hl
    have hrun := run_copy_none (P := Try.prog) w 26 26 o.type 5 dp sp dLen dCap 0 sCap Try.underlying26 (by kernel_rfl) (by simp)
    unfold Oper.wp
    simp [execOp, ho, resolve, invoke, builtin, hd, hs, hrun, Result.andThen]
    exact h w (show Blk _ _ _ from ⟨T, by rw [spl_nil]; exact hg⟩) (Keep.refl _ _)
  · obtain rfl := hpos h0
    rcases hr with ⟨_, e⟩ | ⟨_, _, _, e, _⟩ | ⟨b, o', cap, e, e2, e3, e4⟩
    · rw [e] at h0
      exact absurd rfl h0
    · rw [e] at h0
      exact absurd rfl h0
    · cases e
      have hml : (ms.map (Value.int .u8)).length = ms.length := by simp
      have hsrc : ∀ j v, (ms.map (Value.int .u8))[j]? = some v → w.cell? ((⟨b, o', none⟩ : Addr).add j) = some v := by
        intro j v hj
        have hjl : j < ms.length := by
          have := (List.getElem?_eq_some_iff.1 hj).1
          simpa using this
        have e5 := e4 j hjl
        have e6 : (⟨b, o', none⟩ : Addr).add j = ⟨b, o' + j, none⟩ := by unfold Addr.add; split <;> simp_all
        rw [e6, e5]
        rw [← hj]
        simp [gB, hjl]
      have hrun := run_copy_row (P := Try.prog) w 26 26 o.type 5 g off dLen dCap ⟨b, o', none⟩ ms.length sCap (cur.map (Value.int .u8)).toArray T (ms.map (Value.int .u8)) Try.underlying26 (by kernel_rfl) hg (by rw [hml]; exact (Nat.min_eq_left hn).symm) hsrc (by simpa using hfit) (ones_u8 _)
      unfold Oper.wp
      simp only [execOp, ho, resolve, invoke, builtin, hd, hs, hrun, Result.andThen, Sem.run_bind, Sem.run_pure, Result.andThen_ok, List.map_toArray, List.map_cons, List.map_nil]
      rw [hml]
      refine h _ (show Blk _ _ _ from ⟨T, ?_⟩) (keep_setRow _ _ _)
      rw [setRow_heap w g _ _ T _ hg]
      simp [spl]
theorem gB_dropF (l : List Int) (a i : Nat) : gB (l.drop a) i = gB l (a + i) := by simp [gB, List.getD]
theorem rd_sub {w : World} {g : Nat} {bs : List Int} (h : Blk w g (bs.map (Value.int .u8))) {a n : Nat} (ha : a + n ≤ bs.length) (hl : bs.length ≤ maxLen) : RdB w (.slice (some ⟨g, a, none⟩) n (bs.length - a)) ((bs.drop a).take n) := by
  have hlen : ((bs.drop a).take n).length = n := by simp; omega
  refine .inr (.inr ⟨g, a, bs.length - a, by rw [hlen], by omega, by omega, fun i hi => ?_⟩)
  rw [hlen] at hi
  rw [gB_take _ _ _ hi, gB_dropF]
  rw [Blk.cell h, List.getElem?_map, List.getElem?_eq_getElem (by omega)]
  simp [gB, List.getD, List.getElem?_eq_getElem (show a + i < bs.length by omega)]
theorem rdN_bdR (bs : List Int) (a n : Nat) (h : IsB bs) (hn : n ≤ 8) : 0 ≤ rdN bs a n ∧ rdN bs a n ≤ 18446744073709551615 := by
  have := leN_lt 8 ((bs.drop a).take n) (by simp; omega) ((h.drop a).take n)
  have e9 : (256 : Int) ^ 8 = 18446744073709551616 := by decide
  unfold rdN
  omega
theorem rdN_num8 {bs : List Int} {a n : Nat} (hn : n ≤ 8) : leN (((bs.drop a).take n).take 8) = rdN bs a n := by
  unfold rdN
  rw [List.take_take, Nat.min_eq_right hn]
set_option maxHeartbeats 4000000 in
theorem rDo1 (g : Nat) (bs : List Int) (a n : Nat) (v x : Int) (s0 : Option Addr) (sl sc : Nat) (b : List Int) (w : World) (hg : Blk w g (bs.map (Value.int .u8))) (hib : IsB bs) (hl : bs.length ≤ 131072) (hv0 : 0 ≤ v) (hv1 : v ≤ 18446744073709551615) (hx0 : 0 ≤ x) (hx1 : x ≤ 18446744073709551615) (hB : RdB w (.slice s0 sl sc) b) (hbi : IsB b) (hne : b.length ≠ 0 → ∀ i, (Value.slice s0 sl sc).ownBlock = some i → i ≠ g) (he : acE bs.length 1 a n sl = 0) (h8 : n ≤ 8) (han : a + n ≤ bs.length) (h4 : 4 ≤ n) :
    Calls Try.prog 35 #[.slice (some ⟨g, 0, none⟩) bs.length bs.length, .agg #[.int .i64 1, .int .i64 (a : Int), .int .i64 (n : Int), .int .u64 v, .int .u64 x, .slice s0 sl sc]] w fun e w' => ∃ r0 rl rc, e = .returned (.tuple #[.agg #[.int .u64 (doV bs 1 a n), .bool (doD bs 1 a n v), .slice r0 rl rc], .int .i64 0]) ∧ OwB 5 w.heap.size w' (.slice r0 rl rc) (doR bs 1 a n) ∧ Blk w' g ((doB bs 1 a n v x b).map (Value.int .u8)) ∧ Keep (· = g) w w' := by
  have HE := Lib.hid he
  have HG := Lib.hid hg
  have HI := Lib.hid hib
  have HBR := Lib.hid hB
  have HBI := Lib.hid hbi
  have HNE := Lib.hid hne
  have lg := hg.lt
  obtain ⟨w2, hw2⟩ : ∃ w2, w2 = (w.alloc (.cells #[.int .i64 1, .int .i64 (a : Int), .int .i64 (n : Int), .int .u64 v, .int .u64 x, .slice s0 sl sc] 47)).alloc (.cells #[.int .u64 0, .bool false, .slice none 0 0] 49) := ⟨_, rfl⟩
  have X2 := Lib.hid (show Blk w2 w.heap.size [.int .i64 1, .int .i64 (a : Int), .int .i64 (n : Int), .int .u64 v, .int .u64 x, .slice s0 sl sc] by rw [hw2]; exact Blk.alloc (Blk.made w _ _) _)
  have Y2 := Lib.hid (show Blk w2 (w.heap.size + 1) [.int .u64 0, .bool false, .slice none 0 0] by rw [hw2]; exact Blk.made1 w _ _ _)
  have B2 := Lib.hid (show Below w.heap.size w w2 by rw [hw2]; go_grown)
  have z2 : w2.heap.size = w.heap.size + 2 := by rw [hw2]; simp
  obtain ⟨x0, x1, x2, x3, x4, x5⟩ := X2.out.c6
  have lx2 := X2.out.lt
  clear he hg hib hB hbi hne
  go_enter Try.func35, Try.ntmps35
  go_upto_region 1 with fail
  rw [← hw2]
  clear hw2
  go_wp2_with fail
  refine (refCheck_any _ _ _ _ _ _ _ _ _ _ (by omega) (by omega)).mono ?_
  rintro e w3 ⟨rfl, b3⟩
  rw [HE.out]
  have z3 := b3.size
  have X3 := Lib.hid (X2.out.below b3 lx2)
  have Y3 := Lib.hid (Y2.out.below b3 (by omega))
  have B3 := Lib.hid (B2.out.trans (b3.mono (by omega)))
  have G3 := Lib.hid ((HG.out.below B2.out lg).below b3 (by omega))
  have R3 := Lib.hid ((HBR.out.below B2.out).below b3)
  clear x0 x1 x2 x3 x4 x5 b3
  obtain ⟨x0, x1, x2, x3, x4, x5⟩ := X3.out.c6
  have lx3 := X3.out.lt
  have y30 := Y3.out.cell 0
  have y31 := Y3.out.cell 1
  have y32 := Y3.out.cell 2
  have f30 := Y3.out.frozen 0
  have f31 := Y3.out.frozen 1
  have f32 := Y3.out.frozen 2
  simp only [List.getElem?_cons_zero, List.getElem?_cons_succ] at y30 y31 y32
  have ly3 := Y3.out.lt
  have hai : (a : Int) + (n : Int) ≤ (bs.length : Int) := by omega
  have NUM := Lib.hid (rdN_num8 (bs := bs) (a := a) h8)
  have q1 : (bs.length = a) = False := eq_false (by omega)
  have q2 : (a = bs.length) = False := eq_false (by omega)
  have q3 : (bs.length - a = 0) = False := eq_false (by omega)
  have q4 : (bs.length ≤ a) = False := eq_false (by omega)
  go_wp2_with fail
  refine (refNumber_any _ ((bs.drop a).take n) w3 (rd_sub G3.out han (by unfold maxLen; omega)) ((HI.out.drop _).take _)).mono ?_
  rintro e w4 ⟨rfl, rfl⟩
  rw [NUM.out]
  obtain ⟨N, hN⟩ : ∃ N, N = rdN bs a n := ⟨_, rfl⟩
  have hNb := rdN_bdR bs a n HI.out h8
  rw [← hN] at hNb ⊢
  have HN := Lib.hid hN
  clear hN
  obtain ⟨hN0, hN1⟩ := hNb
  go_wp2
  refine bodyPost_ret (v := .tuple #[.agg #[.int .u64 N, .bool false, .slice none 0 0], .int .i64 0]) ?_ rfl ⟨none, 0, 0, by rw [HN.out]; rfl, OwB.nil _ _ _, ?_, ?_⟩
  · rw [results_cell_tmp rfl]
    go_simp
    first | done | exact ⟨rfl, rfl⟩ | rfl
  · exact ((G3.out.far (by show ¬ g = w.heap.size + 1; omega) _).far (by show ¬ g = w.heap.size + 1; omega) _).far (by show ¬ g = w.heap.size + 1; omega) _
  · exact (((Below.keeps B3.out).setCell (.inr (by show w.heap.size ≤ w.heap.size + 1; omega)) _).setCell (.inr (by show w.heap.size ≤ w.heap.size + 1; omega)) _).setCell (.inr (by show w.heap.size ≤ w.heap.size + 1; omega)) _
theorem leB_modF (v : Int) (n : Nat) : leB (v % 256 ^ n) n = leB v n := by
  induction n generalizing v with
  | zero => rfl
  | succ n ih =>
    have hp : (0 : Int) < 256 ^ n := Int.pow_pos (by decide)
    simp only [leB, Int.pow_succ]
    have e1 : v % (256 ^ n * 256) % 256 = v % 256 := Int.emod_emod_of_dvd v ⟨256 ^ n, by rw [Int.mul_comm]⟩
    have e2 : v % (256 ^ n * 256) / 256 = v / 256 % 256 ^ n := by
      rw [Int.mul_comm (256 ^ n) 256]
      generalize (256 : Int) ^ n = p at *
      have h1 := Int.emod_add_mul_ediv v (256 * p)
      have h2 := Int.emod_add_mul_ediv (v / 256) p
      have h3 : v / (256 * p) = v / 256 / p := by rw [Int.ediv_ediv_of_nonneg (by decide)]
      have h4 := Int.emod_nonneg (v / 256) (Int.ne_of_gt hp)
      have h5 := Int.emod_add_mul_ediv v 256
      rw [h3, Int.mul_assoc] at h1
      generalize v / 256 / p = q at *
      generalize v / 256 = r at *
      generalize p * q = s at *
      omega
    rw [e1, e2, ih]
set_option maxHeartbeats 4000000 in
theorem rDo2 (g : Nat) (bs : List Int) (a n : Nat) (v x : Int) (s0 : Option Addr) (sl sc : Nat) (b : List Int) (w : World) (hg : Blk w g (bs.map (Value.int .u8))) (hib : IsB bs) (hl : bs.length ≤ 131072) (hv0 : 0 ≤ v) (hv1 : v ≤ 18446744073709551615) (hx0 : 0 ≤ x) (hx1 : x ≤ 18446744073709551615) (hB : RdB w (.slice s0 sl sc) b) (hbi : IsB b) (hne : b.length ≠ 0 → ∀ i, (Value.slice s0 sl sc).ownBlock = some i → i ≠ g) (he : acE bs.length 2 a n sl = 0) (h8 : n ≤ 8) (han : a + n ≤ bs.length) (hn48 : n = 4 ∨ n = 8) :
    Calls Try.prog 35 #[.slice (some ⟨g, 0, none⟩) bs.length bs.length, .agg #[.int .i64 2, .int .i64 (a : Int), .int .i64 (n : Int), .int .u64 v, .int .u64 x, .slice s0 sl sc]] w fun e w' => ∃ r0 rl rc, e = .returned (.tuple #[.agg #[.int .u64 (doV bs 2 a n), .bool (doD bs 2 a n v), .slice r0 rl rc], .int .i64 0]) ∧ OwB 5 w.heap.size w' (.slice r0 rl rc) (doR bs 2 a n) ∧ Blk w' g ((doB bs 2 a n v x b).map (Value.int .u8)) ∧ Keep (· = g) w w' := by
  have HE := Lib.hid he
  have HG := Lib.hid hg
  have HI := Lib.hid hib
  have HBR := Lib.hid hB
  have HBI := Lib.hid hbi
  have HNE := Lib.hid hne
  have lg := hg.lt
  obtain ⟨w2, hw2⟩ : ∃ w2, w2 = (w.alloc (.cells #[.int .i64 2, .int .i64 (a : Int), .int .i64 (n : Int), .int .u64 v, .int .u64 x, .slice s0 sl sc] 47)).alloc (.cells #[.int .u64 0, .bool false, .slice none 0 0] 49) := ⟨_, rfl⟩
  have X2 := Lib.hid (show Blk w2 w.heap.size [.int .i64 2, .int .i64 (a : Int), .int .i64 (n : Int), .int .u64 v, .int .u64 x, .slice s0 sl sc] by rw [hw2]; exact Blk.alloc (Blk.made w _ _) _)
  have Y2 := Lib.hid (show Blk w2 (w.heap.size + 1) [.int .u64 0, .bool false, .slice none 0 0] by rw [hw2]; exact Blk.made1 w _ _ _)
  have B2 := Lib.hid (show Below w.heap.size w w2 by rw [hw2]; go_grown)
  have z2 : w2.heap.size = w.heap.size + 2 := by rw [hw2]; simp
  obtain ⟨x0, x1, x2, x3, x4, x5⟩ := X2.out.c6
  have lx2 := X2.out.lt
  clear he hg hib hB hbi hne
  go_enter Try.func35, Try.ntmps35
  go_upto_region 1 with fail
  rw [← hw2]
  clear hw2
  go_wp2_with fail
  refine (refCheck_any _ _ _ _ _ _ _ _ _ _ (by omega) (by omega)).mono ?_
  rintro e w3 ⟨rfl, b3⟩
  rw [HE.out]
  have z3 := b3.size
  have X3 := Lib.hid (X2.out.below b3 lx2)
  have Y3 := Lib.hid (Y2.out.below b3 (by omega))
  have B3 := Lib.hid (B2.out.trans (b3.mono (by omega)))
  have G3 := Lib.hid ((HG.out.below B2.out lg).below b3 (by omega))
  have R3 := Lib.hid ((HBR.out.below B2.out).below b3)
  clear x0 x1 x2 x3 x4 x5 b3
  obtain ⟨x0, x1, x2, x3, x4, x5⟩ := X3.out.c6
  have lx3 := X3.out.lt
  have y30 := Y3.out.cell 0
  have y31 := Y3.out.cell 1
  have y32 := Y3.out.cell 2
  have f30 := Y3.out.frozen 0
  have f31 := Y3.out.frozen 1
  have f32 := Y3.out.frozen 2
  simp only [List.getElem?_cons_zero, List.getElem?_cons_succ] at y30 y31 y32
  have ly3 := Y3.out.lt
  have hai : (a : Int) + (n : Int) ≤ (bs.length : Int) := by omega
  have NUM := Lib.hid (rdN_num8 (bs := bs) (a := a) h8)
  have q1 : (bs.length = a) = False := eq_false (by omega)
  have q2 : (a = bs.length) = False := eq_false (by omega)
  have q3 : (bs.length - a = 0) = False := eq_false (by omega)
  have q4 : (bs.length ≤ a) = False := eq_false (by omega)
  go_wp2_with fail
  refine (refNumber_any _ ((bs.drop a).take n) w3 (rd_sub G3.out han (by unfold maxLen; omega)) ((HI.out.drop _).take _)).mono ?_
  rintro e w4 ⟨rfl, rfl⟩
  rw [NUM.out]
  obtain ⟨N, hN⟩ : ∃ N, N = rdN bs a n := ⟨_, rfl⟩
  have hNb := rdN_bdR bs a n HI.out h8
  rw [← hN] at hNb ⊢
  have HN := Lib.hid hN
  clear hN
  obtain ⟨hN0, hN1⟩ := hNb
  have hE0 : 0 ≤ v % 256 ^ n := by rcases hn48 with rfl | rfl <;> omega
  have hE1 : v % 256 ^ n ≤ 18446744073709551615 := by rcases hn48 with rfl | rfl <;> omega
  go_wp2_with fail
  refine wp_region_held_drew (S := (fun w' => w'.cell? ⟨w.heap.size, 2, none⟩ = some (.int .i64 (n : Int)) ∧ w'.cell? ⟨w.heap.size, 3, none⟩ = some (.int .u64 v))) (by kernel_rfl) ?_ (fun hHeld => ?_)
  · try dsimp only
    go_keep
  refine wpAnyH_take (i := 0) (v := ?_) rfl (by kernel_rfl) (by kernel_rfl) (by kernel_rfl) (fun _ _ _ h => h) (Or.inl ⟨by rfl, ?_⟩) (by assumption) ?_
  rotate_left
  · intro w0 hSw
    (try dsimp only at hSw)
    go_simp
    try with_reducible rfl
  try simp only [Act.put, List.getElem_toArray, List.getElem_cons_zero, List.getElem_cons_succ, List.setIfInBounds_toArray, List.set_cons_zero, List.set_cons_succ]
  refine wpAnyH_take (i := 1) (v := ?_) rfl (by kernel_rfl) (by kernel_rfl) (by kernel_rfl) (fun _ _ _ h => h) (Or.inl ⟨by rfl, ?_⟩) (by assumption) ?_
  rotate_left
  · intro w0 hSw
    (try dsimp only at hSw)
    go_simp
    try with_reducible rfl
  try simp only [Act.put, List.getElem_toArray, List.getElem_cons_zero, List.getElem_cons_succ, List.setIfInBounds_toArray, List.set_cons_zero, List.set_cons_succ]
  refine wpAnyH_take (i := 2) (v := ?_) rfl (by kernel_rfl) (by kernel_rfl) (by kernel_rfl) (fun _ _ _ h => h) (Or.inl ⟨by rfl, ?_⟩) (by assumption) ?_
  rotate_left
  · intro w0 hSw
    (try dsimp only at hSw)
    go_simp
    try with_reducible rfl
  try simp only [Act.put, List.getElem_toArray, List.getElem_cons_zero, List.getElem_cons_succ, List.setIfInBounds_toArray, List.set_cons_zero, List.set_cons_succ]
  refine wpAnyH_take (i := 3) (v := ?_) rfl (by kernel_rfl) (by kernel_rfl) (by kernel_rfl) (fun _ _ _ h => h) (Or.inl ⟨by rfl, ?_⟩) (by assumption) ?_
  rotate_left
  · intro w0 hSw
    (try dsimp only at hSw)
    go_simp
    try with_reducible rfl
  try simp only [Act.put, List.getElem_toArray, List.getElem_cons_zero, List.getElem_cons_succ, List.setIfInBounds_toArray, List.set_cons_zero, List.set_cons_succ]
  refine wpAnyH_take (i := 4) (v := ?_) rfl (by kernel_rfl) (by kernel_rfl) (by kernel_rfl) (fun _ _ _ h => h) (Or.inl ⟨by rfl, ?_⟩) (by assumption) ?_
  rotate_left
  · intro w0 hSw
    (try dsimp only at hSw)
    go_simp
    try with_reducible rfl
  try simp only [Act.put, List.getElem_toArray, List.getElem_cons_zero, List.getElem_cons_succ, List.setIfInBounds_toArray, List.set_cons_zero, List.set_cons_succ]
  refine wpAnyH_take (i := 6) (v := ?_) rfl (by kernel_rfl) (by kernel_rfl) (by kernel_rfl) (fun _ _ _ h => h) (Or.inl ⟨by rfl, ?_⟩) (by assumption) ?_
  rotate_left
  · intro w0 hSw
    (try dsimp only at hSw)
    go_simp
    try with_reducible rfl
  try simp only [Act.put, List.getElem_toArray, List.getElem_cons_zero, List.getElem_cons_succ, List.setIfInBounds_toArray, List.set_cons_zero, List.set_cons_succ]
  refine wpAnyH_take (i := 7) (v := ?_) rfl (by kernel_rfl) (by kernel_rfl) (by kernel_rfl) (fun _ _ _ h => h) (Or.inl ⟨by rfl, ?_⟩) (by assumption) ?_
  rotate_left
  · intro w0 hSw
    (try dsimp only at hSw)
    go_simp
    try with_reducible rfl
  try simp only [Act.put, List.getElem_toArray, List.getElem_cons_zero, List.getElem_cons_succ, List.setIfInBounds_toArray, List.set_cons_zero, List.set_cons_succ]
  refine wpAnyH_ready (rs := [5]) (by kernel_rfl) (by simp) ?_
  refine AllReadyH.cons rfl (fun K hK => ?_) AllReadyH.nil
  go_simp
  go_at_call 73
  refine (refLow_any v n _ hv0 hv1 hn48).mono ?_
  rintro e w5 ⟨rfl, rfl⟩
  go_wp2_with fail
  refine hK.out _ _ ?_ (fun hHeld => ?_)
  · try dsimp only
    exact ⟨x2, x3⟩
  clear hK K
  try simp only [Act.put, List.getElem_toArray, List.getElem_cons_zero, List.getElem_cons_succ, List.setIfInBounds_toArray, List.set_cons_zero, List.set_cons_succ]
  refine wpAnyH_ready (rs := [8]) (by kernel_rfl) (by simp) ?_
  refine AllReadyH.cons rfl (fun K hK => ?_) AllReadyH.nil
  go_simp
  go_at_call 72
  refine (refBytes_any (v % 256 ^ n) n _ hE0 hE1 h8).mono ?_
  rintro e w5 ⟨bv, rfl, o5, b5⟩
  obtain ⟨c0, cl, cc, rfl⟩ := o5.isSliceC
  have hc := fun o => b5.cell (p := ⟨w.heap.size, o, none⟩) lx3
  have Z5 := b5.size
  have G5 := Lib.hid (Blk.below (G3.out.drew) b5 (by show g < w3.heap.size; omega))
  have Y5 := Lib.hid (Blk.below (Y3.out.drew) b5 (by show w.heap.size + 1 < w3.heap.size; omega))
  have B5 := Lib.hid ((bel_drewN 1 B3.out).trans (b5.mono (by show w.heap.size ≤ w3.heap.size; omega)))
  have O5 := Lib.hid o5
  clear o5 b5
  go_wp2_with fail
  refine hK.out _ _ ?_ (fun hHeld => ?_)
  · try dsimp only
    exact ⟨(hc 2).trans x2, (hc 3).trans x3⟩
  clear hK K
  try simp only [Act.put, List.getElem_toArray, List.getElem_cons_zero, List.getElem_cons_succ, List.setIfInBounds_toArray, List.set_cons_zero, List.set_cons_succ]
  refine wpAnyH_ready (rs := [9]) (by kernel_rfl) (by simp) ?_
  refine AllReadyH.cons rfl (fun K hK => ?_) AllReadyH.nil
  refine wp_copy (.tmp 36) (.tmp 44) rfl _ _ _ _ _ _ rfl rfl g a bs (leB (v % 256 ^ n) n) G5.out (OwB.rd O5.out) (by rw [leB_length]; exact Nat.le_refl _) (fun _ => rfl) (by rw [leB_length]; exact han) ?_
  rw [leB_modF]
  intro w6 hg6 k6
  have hc6 := fun o => k6.cell (b := w.heap.size) o (by show w.heap.size < w5.heap.size; have : w3.heap.size ≤ w5.heap.size := Z5; omega) (by show ¬ w.heap.size = g; omega)
  refine hK.out _ _ ?_ (fun hHeld => ?_)
  · try dsimp only
    exact ⟨(hc6 2).trans ((hc 2).trans x2), (hc6 3).trans ((hc 3).trans x3)⟩
  clear hK K
  try simp only [Act.put, List.getElem_toArray, List.getElem_cons_zero, List.getElem_cons_succ, List.setIfInBounds_toArray, List.set_cons_zero, List.set_cons_succ]
  refine wpAnyH_done (by kernel_rfl) ?_ _
  clear hHeld hc hc6
  have Z5' : w3.heap.size ≤ w5.heap.size := Z5
  have Y6 := Lib.hid (Y5.out.keep k6 (by show ¬ w.heap.size + 1 = g; omega))
  have K6 := Lib.hid ((Below.keeps B5.out : Keep (· = g) w w5).trans k6)
  have HG6 := Lib.hid hg6.out
  have y60 := Y6.out.cell 0
  have y61 := Y6.out.cell 1
  have y62 := Y6.out.cell 2
  have f60 := Y6.out.frozen 0
  have f61 := Y6.out.frozen 1
  have f62 := Y6.out.frozen 2
  simp only [List.getElem?_cons_zero, List.getElem?_cons_succ] at y60 y61 y62
  have ly6 := Y6.out.lt
  clear k6 hg6
  go_wp2
  refine bodyPost_ret (v := .tuple #[.agg #[.int .u64 0, .bool false, .slice none 0 0], .int .i64 0]) ?_ rfl ⟨none, 0, 0, rfl, OwB.nil _ _ _, ?_, ?_⟩
  · rw [results_cell_tmp rfl]
    go_simp
    first | done | exact ⟨rfl, rfl⟩ | rfl
  · exact ((HG6.out.far (by show ¬ g = w.heap.size + 1; omega) _).far (by show ¬ g = w.heap.size + 1; omega) _).far (by show ¬ g = w.heap.size + 1; omega) _
  · exact ((K6.out.setCell (.inr (by show w.heap.size ≤ w.heap.size + 1; omega)) _).setCell (.inr (by show w.heap.size ≤ w.heap.size + 1; omega)) _).setCell (.inr (by show w.heap.size ≤ w.heap.size + 1; omega)) _
set_option maxHeartbeats 4000000 in
theorem rDo3 (g : Nat) (bs : List Int) (a n : Nat) (v x : Int) (s0 : Option Addr) (sl sc : Nat) (b : List Int) (w : World) (hg : Blk w g (bs.map (Value.int .u8))) (hib : IsB bs) (hl : bs.length ≤ 131072) (hv0 : 0 ≤ v) (hv1 : v ≤ 18446744073709551615) (hx0 : 0 ≤ x) (hx1 : x ≤ 18446744073709551615) (hB : RdB w (.slice s0 sl sc) b) (hbi : IsB b) (hne : b.length ≠ 0 → ∀ i, (Value.slice s0 sl sc).ownBlock = some i → i ≠ g) (he : acE bs.length 3 a n sl = 0) (h8 : n ≤ 8) (han : a + n ≤ bs.length) (h88 : n = 8) :
    Calls Try.prog 35 #[.slice (some ⟨g, 0, none⟩) bs.length bs.length, .agg #[.int .i64 3, .int .i64 (a : Int), .int .i64 (n : Int), .int .u64 v, .int .u64 x, .slice s0 sl sc]] w fun e w' => ∃ r0 rl rc, e = .returned (.tuple #[.agg #[.int .u64 (doV bs 3 a n), .bool (doD bs 3 a n v), .slice r0 rl rc], .int .i64 0]) ∧ OwB 5 w.heap.size w' (.slice r0 rl rc) (doR bs 3 a n) ∧ Blk w' g ((doB bs 3 a n v x b).map (Value.int .u8)) ∧ Keep (· = g) w w' := by
  have h4 : 4 ≤ n := by omega
  have HN8 := Lib.hid h88
  clear h88
  have HE := Lib.hid he
  have HG := Lib.hid hg
  have HI := Lib.hid hib
  have HBR := Lib.hid hB
  have HBI := Lib.hid hbi
  have HNE := Lib.hid hne
  have lg := hg.lt
  obtain ⟨w2, hw2⟩ : ∃ w2, w2 = (w.alloc (.cells #[.int .i64 3, .int .i64 (a : Int), .int .i64 (n : Int), .int .u64 v, .int .u64 x, .slice s0 sl sc] 47)).alloc (.cells #[.int .u64 0, .bool false, .slice none 0 0] 49) := ⟨_, rfl⟩
  have X2 := Lib.hid (show Blk w2 w.heap.size [.int .i64 3, .int .i64 (a : Int), .int .i64 (n : Int), .int .u64 v, .int .u64 x, .slice s0 sl sc] by rw [hw2]; exact Blk.alloc (Blk.made w _ _) _)
  have Y2 := Lib.hid (show Blk w2 (w.heap.size + 1) [.int .u64 0, .bool false, .slice none 0 0] by rw [hw2]; exact Blk.made1 w _ _ _)
  have B2 := Lib.hid (show Below w.heap.size w w2 by rw [hw2]; go_grown)
  have z2 : w2.heap.size = w.heap.size + 2 := by rw [hw2]; simp
  obtain ⟨x0, x1, x2, x3, x4, x5⟩ := X2.out.c6
  have lx2 := X2.out.lt
  clear he hg hib hB hbi hne
  go_enter Try.func35, Try.ntmps35
  go_upto_region 1 with fail
  rw [← hw2]
  clear hw2
  go_wp2_with fail
  refine (refCheck_any _ _ _ _ _ _ _ _ _ _ (by omega) (by omega)).mono ?_
  rintro e w3 ⟨rfl, b3⟩
  rw [HE.out]
  have z3 := b3.size
  have X3 := Lib.hid (X2.out.below b3 lx2)
  have Y3 := Lib.hid (Y2.out.below b3 (by omega))
  have B3 := Lib.hid (B2.out.trans (b3.mono (by omega)))
  have G3 := Lib.hid ((HG.out.below B2.out lg).below b3 (by omega))
  have R3 := Lib.hid ((HBR.out.below B2.out).below b3)
  clear x0 x1 x2 x3 x4 x5 b3
  obtain ⟨x0, x1, x2, x3, x4, x5⟩ := X3.out.c6
  have lx3 := X3.out.lt
  have y30 := Y3.out.cell 0
  have y31 := Y3.out.cell 1
  have y32 := Y3.out.cell 2
  have f30 := Y3.out.frozen 0
  have f31 := Y3.out.frozen 1
  have f32 := Y3.out.frozen 2
  simp only [List.getElem?_cons_zero, List.getElem?_cons_succ] at y30 y31 y32
  have ly3 := Y3.out.lt
  have hai : (a : Int) + (n : Int) ≤ (bs.length : Int) := by omega
  have NUM := Lib.hid (rdN_num8 (bs := bs) (a := a) h8)
  have q1 : (bs.length = a) = False := eq_false (by omega)
  have q2 : (a = bs.length) = False := eq_false (by omega)
  have q3 : (bs.length - a = 0) = False := eq_false (by omega)
  have q4 : (bs.length ≤ a) = False := eq_false (by omega)
  go_wp2_with fail
  refine (refNumber_any _ ((bs.drop a).take n) w3 (rd_sub G3.out han (by unfold maxLen; omega)) ((HI.out.drop _).take _)).mono ?_
  rintro e w4 ⟨rfl, rfl⟩
  rw [NUM.out]
  obtain ⟨N, hN⟩ : ∃ N, N = rdN bs a n := ⟨_, rfl⟩
  have hNb := rdN_bdR bs a n HI.out h8
  rw [← hN] at hNb ⊢
  have HN := Lib.hid hN
  clear hN
  obtain ⟨hN0, hN1⟩ := hNb
  obtain ⟨M, hM⟩ : ∃ M, M = (N + v) % 18446744073709551616 := ⟨_, rfl⟩
  have W : IntKind.u64.wrap (N + v) = M := by rw [IntKind.wrap_u64, hM]
  have HM := Lib.hid hM
  have hM0 : 0 ≤ M := by omega
  have hM1 : M ≤ 18446744073709551615 := by omega
  clear hM
  go_wp2_with fail
  refine (refBytes_any M 8 _ hM0 hM1 (by decide)).mono ?_
  rintro e w5 ⟨bv, rfl, o5, b5⟩
  obtain ⟨c0, cl, cc, rfl⟩ := o5.isSliceC
  have z5 := b5.size
  have G5 := Lib.hid (G3.out.below b5 (by omega))
  have Y5 := Lib.hid (Y3.out.below b5 (by omega))
  have B5 := Lib.hid (B3.out.trans (b5.mono (by omega)))
  have O5 := Lib.hid o5
  clear o5 b5
  go_wp2_with (refine list_copy rfl (.tmp 49) (.tmp 54) rfl _ _ _ _ _ _ rfl rfl g a bs (leB M 8) G5.out (OwB.rd O5.out) (by rw [leB_length, HN8.out]; exact Nat.le_refl _) (fun _ => rfl) (by rw [leB_length]; have := HN8.out; omega) ?_)
  intro w6 hg6 k6
  have Y6 := Lib.hid (Y5.out.keep k6 (by show ¬ w.heap.size + 1 = g; omega))
  have K6 := Lib.hid ((Below.keeps B5.out : Keep (· = g) w w5).trans k6)
  have HG6 := Lib.hid hg6.out
  have y60 := Y6.out.cell 0
  have y61 := Y6.out.cell 1
  have y62 := Y6.out.cell 2
  have f60 := Y6.out.frozen 0
  have f61 := Y6.out.frozen 1
  have f62 := Y6.out.frozen 2
  simp only [List.getElem?_cons_zero, List.getElem?_cons_succ] at y60 y61 y62
  have ly6 := Y6.out.lt
  clear k6 hg6
  go_wp2
  refine bodyPost_ret (v := .tuple #[.agg #[.int .u64 N, .bool false, .slice none 0 0], .int .i64 0]) ?_ rfl ⟨none, 0, 0, by rw [HN.out]; have := HN8.out; subst this; rfl, OwB.nil _ _ _, ?_, ?_⟩
  · rw [results_cell_tmp rfl]
    go_simp
    first | done | exact ⟨rfl, rfl⟩ | rfl
  · have e : doB bs 3 a n v x b = spl bs a (leB M 8) := by rw [HM.out, HN.out]; have := HN8.out; subst this; rfl
    rw [e]
    exact ((HG6.out.far (by show ¬ g = w.heap.size + 1; omega) _).far (by show ¬ g = w.heap.size + 1; omega) _).far (by show ¬ g = w.heap.size + 1; omega) _
  · exact ((K6.out.setCell (.inr (by show w.heap.size ≤ w.heap.size + 1; omega)) _).setCell (.inr (by show w.heap.size ≤ w.heap.size + 1; omega)) _).setCell (.inr (by show w.heap.size ≤ w.heap.size + 1; omega)) _
set_option maxHeartbeats 4000000 in
theorem rDo4 (g : Nat) (bs : List Int) (a n : Nat) (v x : Int) (s0 : Option Addr) (sl sc : Nat) (b : List Int) (w : World) (hg : Blk w g (bs.map (Value.int .u8))) (hib : IsB bs) (hl : bs.length ≤ 131072) (hv0 : 0 ≤ v) (hv1 : v ≤ 18446744073709551615) (hx0 : 0 ≤ x) (hx1 : x ≤ 18446744073709551615) (hB : RdB w (.slice s0 sl sc) b) (hbi : IsB b) (hne : b.length ≠ 0 → ∀ i, (Value.slice s0 sl sc).ownBlock = some i → i ≠ g) (he : acE bs.length 4 a n sl = 0) (h8 : n ≤ 8) (han : a + n ≤ bs.length) (hn48 : n = 4 ∨ n = 8) :
    Calls Try.prog 35 #[.slice (some ⟨g, 0, none⟩) bs.length bs.length, .agg #[.int .i64 4, .int .i64 (a : Int), .int .i64 (n : Int), .int .u64 v, .int .u64 x, .slice s0 sl sc]] w fun e w' => ∃ r0 rl rc, e = .returned (.tuple #[.agg #[.int .u64 (doV bs 4 a n), .bool (doD bs 4 a n v), .slice r0 rl rc], .int .i64 0]) ∧ OwB 5 w.heap.size w' (.slice r0 rl rc) (doR bs 4 a n) ∧ Blk w' g ((doB bs 4 a n v x b).map (Value.int .u8)) ∧ Keep (· = g) w w' := by
  have HE := Lib.hid he
  have HG := Lib.hid hg
  have HI := Lib.hid hib
  have HBR := Lib.hid hB
  have HBI := Lib.hid hbi
  have HNE := Lib.hid hne
  have lg := hg.lt
  obtain ⟨w2, hw2⟩ : ∃ w2, w2 = (w.alloc (.cells #[.int .i64 4, .int .i64 (a : Int), .int .i64 (n : Int), .int .u64 v, .int .u64 x, .slice s0 sl sc] 47)).alloc (.cells #[.int .u64 0, .bool false, .slice none 0 0] 49) := ⟨_, rfl⟩
  have X2 := Lib.hid (show Blk w2 w.heap.size [.int .i64 4, .int .i64 (a : Int), .int .i64 (n : Int), .int .u64 v, .int .u64 x, .slice s0 sl sc] by rw [hw2]; exact Blk.alloc (Blk.made w _ _) _)
  have Y2 := Lib.hid (show Blk w2 (w.heap.size + 1) [.int .u64 0, .bool false, .slice none 0 0] by rw [hw2]; exact Blk.made1 w _ _ _)
  have B2 := Lib.hid (show Below w.heap.size w w2 by rw [hw2]; go_grown)
  have z2 : w2.heap.size = w.heap.size + 2 := by rw [hw2]; simp
  obtain ⟨x0, x1, x2, x3, x4, x5⟩ := X2.out.c6
  have lx2 := X2.out.lt
  clear he hg hib hB hbi hne
  go_enter Try.func35, Try.ntmps35
  go_upto_region 1 with fail
  rw [← hw2]
  clear hw2
  go_wp2_with fail
  refine (refCheck_any _ _ _ _ _ _ _ _ _ _ (by omega) (by omega)).mono ?_
  rintro e w3 ⟨rfl, b3⟩
  rw [HE.out]
  have z3 := b3.size
  have X3 := Lib.hid (X2.out.below b3 lx2)
  have Y3 := Lib.hid (Y2.out.below b3 (by omega))
  have B3 := Lib.hid (B2.out.trans (b3.mono (by omega)))
  have G3 := Lib.hid ((HG.out.below B2.out lg).below b3 (by omega))
  have R3 := Lib.hid ((HBR.out.below B2.out).below b3)
  clear x0 x1 x2 x3 x4 x5 b3
  obtain ⟨x0, x1, x2, x3, x4, x5⟩ := X3.out.c6
  have lx3 := X3.out.lt
  have y30 := Y3.out.cell 0
  have y31 := Y3.out.cell 1
  have y32 := Y3.out.cell 2
  have f30 := Y3.out.frozen 0
  have f31 := Y3.out.frozen 1
  have f32 := Y3.out.frozen 2
  simp only [List.getElem?_cons_zero, List.getElem?_cons_succ] at y30 y31 y32
  have ly3 := Y3.out.lt
  have hai : (a : Int) + (n : Int) ≤ (bs.length : Int) := by omega
  have NUM := Lib.hid (rdN_num8 (bs := bs) (a := a) h8)
  have q1 : (bs.length = a) = False := eq_false (by omega)
  have q2 : (a = bs.length) = False := eq_false (by omega)
  have q3 : (bs.length - a = 0) = False := eq_false (by omega)
  have q4 : (bs.length ≤ a) = False := eq_false (by omega)
  go_wp2_with fail
  refine (refNumber_any _ ((bs.drop a).take n) w3 (rd_sub G3.out han (by unfold maxLen; omega)) ((HI.out.drop _).take _)).mono ?_
  rintro e w4 ⟨rfl, rfl⟩
  rw [NUM.out]
  obtain ⟨N, hN⟩ : ∃ N, N = rdN bs a n := ⟨_, rfl⟩
  have hNb := rdN_bdR bs a n HI.out h8
  rw [← hN] at hNb ⊢
  have HN := Lib.hid hN
  clear hN
  obtain ⟨hN0, hN1⟩ := hNb
  have hE0 : 0 ≤ x % 256 ^ n := by rcases hn48 with rfl | rfl <;> omega
  have hE1 : x % 256 ^ n ≤ 18446744073709551615 := by rcases hn48 with rfl | rfl <;> omega
  go_wp2_with fail
  refine (refLow_any v n _ hv0 hv1 hn48).mono ?_
  rintro e w5 ⟨rfl, rfl⟩
  obtain ⟨E, hE⟩ : ∃ E, E = v % 256 ^ n := ⟨_, rfl⟩
  rw [← hE]
  have HEE := Lib.hid hE
  clear hE
  by_cases hc : N = E
  · have HC := Lib.hid hc
    have q : (N == E) = true := by simpa using hc
    have q' : (N != E) = false := by simpa using hc
    clear hc
    go_wp2_with fail
    refine wp_region_held_drew (S := (fun w' => w'.cell? ⟨w.heap.size, 2, none⟩ = some (.int .i64 (n : Int)) ∧ w'.cell? ⟨w.heap.size, 4, none⟩ = some (.int .u64 x))) (by kernel_rfl) ?_ (fun hHeld => ?_)
    · try dsimp only
      go_keep
    refine wpAnyH_take (i := 0) (v := ?_) rfl (by kernel_rfl) (by kernel_rfl) (by kernel_rfl) (fun _ _ _ h => h) (Or.inl ⟨by rfl, ?_⟩) (by assumption) ?_
    rotate_left
    · intro w0 hSw
      (try dsimp only at hSw)
      go_simp
      try with_reducible rfl
    try simp only [Act.put, List.getElem_toArray, List.getElem_cons_zero, List.getElem_cons_succ, List.setIfInBounds_toArray, List.set_cons_zero, List.set_cons_succ]
    refine wpAnyH_take (i := 1) (v := ?_) rfl (by kernel_rfl) (by kernel_rfl) (by kernel_rfl) (fun _ _ _ h => h) (Or.inl ⟨by rfl, ?_⟩) (by assumption) ?_
    rotate_left
    · intro w0 hSw
      (try dsimp only at hSw)
      go_simp
      try with_reducible rfl
    try simp only [Act.put, List.getElem_toArray, List.getElem_cons_zero, List.getElem_cons_succ, List.setIfInBounds_toArray, List.set_cons_zero, List.set_cons_succ]
    refine wpAnyH_take (i := 2) (v := ?_) rfl (by kernel_rfl) (by kernel_rfl) (by kernel_rfl) (fun _ _ _ h => h) (Or.inl ⟨by rfl, ?_⟩) (by assumption) ?_
    rotate_left
    · intro w0 hSw
      (try dsimp only at hSw)
      go_simp
      try with_reducible rfl
    try simp only [Act.put, List.getElem_toArray, List.getElem_cons_zero, List.getElem_cons_succ, List.setIfInBounds_toArray, List.set_cons_zero, List.set_cons_succ]
    refine wpAnyH_take (i := 3) (v := ?_) rfl (by kernel_rfl) (by kernel_rfl) (by kernel_rfl) (fun _ _ _ h => h) (Or.inl ⟨by rfl, ?_⟩) (by assumption) ?_
    rotate_left
    · intro w0 hSw
      (try dsimp only at hSw)
      go_simp
      try with_reducible rfl
    try simp only [Act.put, List.getElem_toArray, List.getElem_cons_zero, List.getElem_cons_succ, List.setIfInBounds_toArray, List.set_cons_zero, List.set_cons_succ]
    refine wpAnyH_take (i := 4) (v := ?_) rfl (by kernel_rfl) (by kernel_rfl) (by kernel_rfl) (fun _ _ _ h => h) (Or.inl ⟨by rfl, ?_⟩) (by assumption) ?_
    rotate_left
    · intro w0 hSw
      (try dsimp only at hSw)
      go_simp
      try with_reducible rfl
    try simp only [Act.put, List.getElem_toArray, List.getElem_cons_zero, List.getElem_cons_succ, List.setIfInBounds_toArray, List.set_cons_zero, List.set_cons_succ]
    refine wpAnyH_take (i := 6) (v := ?_) rfl (by kernel_rfl) (by kernel_rfl) (by kernel_rfl) (fun _ _ _ h => h) (Or.inl ⟨by rfl, ?_⟩) (by assumption) ?_
    rotate_left
    · intro w0 hSw
      (try dsimp only at hSw)
      go_simp
      try with_reducible rfl
    try simp only [Act.put, List.getElem_toArray, List.getElem_cons_zero, List.getElem_cons_succ, List.setIfInBounds_toArray, List.set_cons_zero, List.set_cons_succ]
    refine wpAnyH_take (i := 7) (v := ?_) rfl (by kernel_rfl) (by kernel_rfl) (by kernel_rfl) (fun _ _ _ h => h) (Or.inl ⟨by rfl, ?_⟩) (by assumption) ?_
    rotate_left
    · intro w0 hSw
      (try dsimp only at hSw)
      go_simp
      try with_reducible rfl
    try simp only [Act.put, List.getElem_toArray, List.getElem_cons_zero, List.getElem_cons_succ, List.setIfInBounds_toArray, List.set_cons_zero, List.set_cons_succ]
    refine wpAnyH_ready (rs := [5]) (by kernel_rfl) (by simp) ?_
    refine AllReadyH.cons rfl (fun K hK => ?_) AllReadyH.nil
    go_simp
    go_at_call 73
    refine (refLow_any x n _ hx0 hx1 hn48).mono ?_
    rintro e w5 ⟨rfl, rfl⟩
    go_wp2_with fail
    refine hK.out _ _ ?_ (fun hHeld => ?_)
    · try dsimp only
      exact ⟨x2, x4⟩
    clear hK K
    try simp only [Act.put, List.getElem_toArray, List.getElem_cons_zero, List.getElem_cons_succ, List.setIfInBounds_toArray, List.set_cons_zero, List.set_cons_succ]
    refine wpAnyH_ready (rs := [8]) (by kernel_rfl) (by simp) ?_
    refine AllReadyH.cons rfl (fun K hK => ?_) AllReadyH.nil
    go_simp
    go_at_call 72
    refine (refBytes_any (x % 256 ^ n) n _ hE0 hE1 h8).mono ?_
    rintro e w5 ⟨bv, rfl, o5, b5⟩
    obtain ⟨c0, cl, cc, rfl⟩ := o5.isSliceC
    have hc := fun o => b5.cell (p := ⟨w.heap.size, o, none⟩) lx3
    have Z5 := b5.size
    have G5 := Lib.hid (Blk.below (G3.out.drew) b5 (by show g < w3.heap.size; omega))
    have Y5 := Lib.hid (Blk.below (Y3.out.drew) b5 (by show w.heap.size + 1 < w3.heap.size; omega))
    have B5 := Lib.hid ((bel_drewN 1 B3.out).trans (b5.mono (by show w.heap.size ≤ w3.heap.size; omega)))
    have O5 := Lib.hid o5
    clear o5 b5
    go_wp2_with fail
    refine hK.out _ _ ?_ (fun hHeld => ?_)
    · try dsimp only
      exact ⟨(hc 2).trans x2, (hc 4).trans x4⟩
    clear hK K
    try simp only [Act.put, List.getElem_toArray, List.getElem_cons_zero, List.getElem_cons_succ, List.setIfInBounds_toArray, List.set_cons_zero, List.set_cons_succ]
    refine wpAnyH_ready (rs := [9]) (by kernel_rfl) (by simp) ?_
    refine AllReadyH.cons rfl (fun K hK => ?_) AllReadyH.nil
    refine wp_copy (.tmp 69) (.tmp 77) rfl _ _ _ _ _ _ rfl rfl g a bs (leB (x % 256 ^ n) n) G5.out (OwB.rd O5.out) (by rw [leB_length]; exact Nat.le_refl _) (fun _ => rfl) (by rw [leB_length]; exact han) ?_
    rw [leB_modF]
    intro w6 hg6 k6
    have hc6 := fun o => k6.cell (b := w.heap.size) o (by show w.heap.size < w5.heap.size; have : w3.heap.size ≤ w5.heap.size := Z5; omega) (by show ¬ w.heap.size = g; omega)
    refine hK.out _ _ ?_ (fun hHeld => ?_)
    · try dsimp only
      exact ⟨(hc6 2).trans ((hc 2).trans x2), (hc6 4).trans ((hc 4).trans x4)⟩
    clear hK K
    try simp only [Act.put, List.getElem_toArray, List.getElem_cons_zero, List.getElem_cons_succ, List.setIfInBounds_toArray, List.set_cons_zero, List.set_cons_succ]
    refine wpAnyH_done (by kernel_rfl) ?_ _
    clear hHeld hc hc6
    have Z5' : w3.heap.size ≤ w5.heap.size := Z5
    have Y6 := Lib.hid (Y5.out.keep k6 (by show ¬ w.heap.size + 1 = g; omega))
    have K6 := Lib.hid ((Below.keeps B5.out : Keep (· = g) w w5).trans k6)
    have HG6 := Lib.hid hg6.out
    have y60 := Y6.out.cell 0
    have y61 := Y6.out.cell 1
    have y62 := Y6.out.cell 2
    have f60 := Y6.out.frozen 0
    have f61 := Y6.out.frozen 1
    have f62 := Y6.out.frozen 2
    simp only [List.getElem?_cons_zero, List.getElem?_cons_succ] at y60 y61 y62
    have ly6 := Y6.out.lt
    clear k6 hg6
    go_wp2
    refine bodyPost_ret (v := .tuple #[.agg #[.int .u64 N, .bool true, .slice none 0 0], .int .i64 0]) ?_ rfl ⟨none, 0, 0, ?_, OwB.nil _ _ _, ?_, ?_⟩
    · rw [results_cell_tmp rfl]
      go_simp
      first | done | exact ⟨rfl, rfl⟩ | rfl
    · have e1 : doV bs 4 a n = N := HN.out.symm
      have e2 : doD bs 4 a n v = true := by show (rdN bs a n == v % 256 ^ n) = true; rw [← HN.out, ← HEE.out]; exact q
      rw [e1, e2]
    · have e : doB bs 4 a n v x b = spl bs a (leB x n) := by show (if rdN bs a n = v % 256 ^ n then _ else _) = _; rw [← HN.out, ← HEE.out, if_pos HC.out]
      rw [e]
      exact ((HG6.out.far (by show ¬ g = w.heap.size + 1; omega) _).far (by show ¬ g = w.heap.size + 1; omega) _).far (by show ¬ g = w.heap.size + 1; omega) _
    · exact ((K6.out.setCell (.inr (by show w.heap.size ≤ w.heap.size + 1; omega)) _).setCell (.inr (by show w.heap.size ≤ w.heap.size + 1; omega)) _).setCell (.inr (by show w.heap.size ≤ w.heap.size + 1; omega)) _
  · have HC := Lib.hid hc
    have q : (N == E) = false := by simpa using hc
    have q' : (N != E) = true := by simpa using hc
    clear hc
    go_wp2
    refine bodyPost_ret (v := .tuple #[.agg #[.int .u64 N, .bool false, .slice none 0 0], .int .i64 0]) ?_ rfl ⟨none, 0, 0, ?_, OwB.nil _ _ _, ?_, ?_⟩
    · rw [results_cell_tmp rfl]
      go_simp
      first | done | exact ⟨rfl, rfl⟩ | rfl
    · have e1 : doV bs 4 a n = N := HN.out.symm
      have e2 : doD bs 4 a n v = false := by show (rdN bs a n == v % 256 ^ n) = false; rw [← HN.out, ← HEE.out]; exact q
      rw [e1, e2]
    · have e : doB bs 4 a n v x b = bs := by show (if rdN bs a n = v % 256 ^ n then _ else _) = _; rw [← HN.out, ← HEE.out, if_neg HC.out]
      rw [e]
      exact ((G3.out.far (by show ¬ g = w.heap.size + 1; omega) _).far (by show ¬ g = w.heap.size + 1; omega) _).far (by show ¬ g = w.heap.size + 1; omega) _
    · exact (((Below.keeps B3.out).setCell (.inr (by show w.heap.size ≤ w.heap.size + 1; omega)) _).setCell (.inr (by show w.heap.size ≤ w.heap.size + 1; omega)) _).setCell (.inr (by show w.heap.size ≤ w.heap.size + 1; omega)) _
theorem rd_none {w : World} (bs : List Int) (a : Nat) {p : Addr} {c n : Nat} (hn : n = 0) (hc : c ≤ maxLen) : RdB w (.slice (some p) n c) ((bs.drop a).take n) := by
  subst hn
  exact .inr (.inl ⟨p, c, rfl, by simp, hc⟩)
set_option maxHeartbeats 4000000 in
theorem rDo5 (g : Nat) (bs : List Int) (a n : Nat) (v x : Int) (s0 : Option Addr) (sl sc : Nat) (b : List Int) (w : World) (hg : Blk w g (bs.map (Value.int .u8))) (hib : IsB bs) (hl : bs.length ≤ 131072) (hv0 : 0 ≤ v) (hv1 : v ≤ 18446744073709551615) (hx0 : 0 ≤ x) (hx1 : x ≤ 18446744073709551615) (hB : RdB w (.slice s0 sl sc) b) (hbi : IsB b) (hne : b.length ≠ 0 → ∀ i, (Value.slice s0 sl sc).ownBlock = some i → i ≠ g) (he : acE bs.length 5 a n sl = 0) (h8 : n ≤ 8) (han : a + n ≤ bs.length) (h4 : a < bs.length) :
    Calls Try.prog 35 #[.slice (some ⟨g, 0, none⟩) bs.length bs.length, .agg #[.int .i64 5, .int .i64 (a : Int), .int .i64 (n : Int), .int .u64 v, .int .u64 x, .slice s0 sl sc]] w fun e w' => ∃ r0 rl rc, e = .returned (.tuple #[.agg #[.int .u64 (doV bs 5 a n), .bool (doD bs 5 a n v), .slice r0 rl rc], .int .i64 0]) ∧ OwB 5 w.heap.size w' (.slice r0 rl rc) (doR bs 5 a n) ∧ Blk w' g ((doB bs 5 a n v x b).map (Value.int .u8)) ∧ Keep (· = g) w w' := by
  have HA := Lib.hid h4
  have HE := Lib.hid he
  have HG := Lib.hid hg
  have HI := Lib.hid hib
  have HBR := Lib.hid hB
  have HBI := Lib.hid hbi
  have HNE := Lib.hid hne
  have lg := hg.lt
  obtain ⟨w2, hw2⟩ : ∃ w2, w2 = (w.alloc (.cells #[.int .i64 5, .int .i64 (a : Int), .int .i64 (n : Int), .int .u64 v, .int .u64 x, .slice s0 sl sc] 47)).alloc (.cells #[.int .u64 0, .bool false, .slice none 0 0] 49) := ⟨_, rfl⟩
  have X2 := Lib.hid (show Blk w2 w.heap.size [.int .i64 5, .int .i64 (a : Int), .int .i64 (n : Int), .int .u64 v, .int .u64 x, .slice s0 sl sc] by rw [hw2]; exact Blk.alloc (Blk.made w _ _) _)
  have Y2 := Lib.hid (show Blk w2 (w.heap.size + 1) [.int .u64 0, .bool false, .slice none 0 0] by rw [hw2]; exact Blk.made1 w _ _ _)
  have B2 := Lib.hid (show Below w.heap.size w w2 by rw [hw2]; go_grown)
  have z2 : w2.heap.size = w.heap.size + 2 := by rw [hw2]; simp
  obtain ⟨x0, x1, x2, x3, x4, x5⟩ := X2.out.c6
  have lx2 := X2.out.lt
  clear he hg hib hB hbi hne
  go_enter Try.func35, Try.ntmps35
  go_upto_region 1 with fail
  rw [← hw2]
  clear hw2
  go_wp2_with fail
  refine (refCheck_any _ _ _ _ _ _ _ _ _ _ (by omega) (by omega)).mono ?_
  rintro e w3 ⟨rfl, b3⟩
  rw [HE.out]
  have z3 := b3.size
  have X3 := Lib.hid (X2.out.below b3 lx2)
  have Y3 := Lib.hid (Y2.out.below b3 (by omega))
  have B3 := Lib.hid (B2.out.trans (b3.mono (by omega)))
  have G3 := Lib.hid ((HG.out.below B2.out lg).below b3 (by omega))
  have R3 := Lib.hid ((HBR.out.below B2.out).below b3)
  clear x0 x1 x2 x3 x4 x5 b3
  obtain ⟨x0, x1, x2, x3, x4, x5⟩ := X3.out.c6
  have lx3 := X3.out.lt
  have y30 := Y3.out.cell 0
  have y31 := Y3.out.cell 1
  have y32 := Y3.out.cell 2
  have f30 := Y3.out.frozen 0
  have f31 := Y3.out.frozen 1
  have f32 := Y3.out.frozen 2
  simp only [List.getElem?_cons_zero, List.getElem?_cons_succ] at y30 y31 y32
  have ly3 := Y3.out.lt
  have hai : (a : Int) + (n : Int) ≤ (bs.length : Int) := by omega
  have NUM := Lib.hid (rdN_num8 (bs := bs) (a := a) h8)
  have q1 : (bs.length = a) = False := eq_false (by omega)
  have q2 : (a = bs.length) = False := eq_false (by omega)
  have q3 : (bs.length - a = 0) = False := eq_false (by omega)
  have q4 : (bs.length ≤ a) = False := eq_false (by omega)
  go_wp2_with fail
  refine (refNumber_any _ ((bs.drop a).take n) w3 (rd_sub G3.out han (by unfold maxLen; omega)) ((HI.out.drop _).take _)).mono ?_
  rintro e w4 ⟨rfl, rfl⟩
  rw [NUM.out]
  obtain ⟨N, hN⟩ : ∃ N, N = rdN bs a n := ⟨_, rfl⟩
  have hNb := rdN_bdR bs a n HI.out h8
  rw [← hN] at hNb ⊢
  have HN := Lib.hid hN
  clear hN
  obtain ⟨hN0, hN1⟩ := hNb
  have OE := Lib.hid (show OwB 5 w3.heap.size (w3.alloc (Obj.cells #[] 5)) (.slice (some ⟨w3.heap.size, 0, none⟩) 0 0) [] from own_empty _ _ _ _ #[] (by rw [(MapKept.heap_alloc w3 _).1]) (Nat.le_refl _))
  have BE := Lib.hid ((Below.refl _ _).alloc (Nat.le_refl _) _ : Below w3.heap.size w3 (w3.alloc (Obj.cells #[] 5)))
  have G5 := Lib.hid (G3.out.below BE.out (by omega))
  go_wp2_with (refine list_app rfl (.tmp 83) (.tmp 84) rfl w3.heap.size _ _ [] ((bs.drop a).take n) rfl OE.out rfl (rd_sub G5.out han (by unfold maxLen; omega)) (by simp; omega) (by simp) ?_)
  intro v5 w5 p5
  obtain ⟨r0, rl, rc, rfl⟩ := p5.1.isSliceC
  have b5 := Lib.hid (AppB.below p5 BE.out (by simp) (fun i hi => by have h : w3.heap.size = i := Option.some.inj hi; omega) : Below w3.heap.size w3 w5)
  have O5 := Lib.hid (show OwB 5 w3.heap.size w5 (.slice r0 rl rc) ((bs.drop a).take n) by simpa using p5.1)
  have z5 := b5.out.size
  have Y5 := Lib.hid (Y3.out.below b5.out ly3)
  have G6 := Lib.hid (G3.out.below b5.out (by omega))
  have B5 := Lib.hid (B3.out.trans (b5.out.mono (by omega)))
  have y60 := Y5.out.cell 0
  have y61 := Y5.out.cell 1
  have y62 := Y5.out.cell 2
  have f60 := Y5.out.frozen 0
  have f61 := Y5.out.frozen 1
  have f62 := Y5.out.frozen 2
  simp only [List.getElem?_cons_zero, List.getElem?_cons_succ] at y60 y61 y62
  have ly6 := Y5.out.lt
  clear p5 y30 y31 y32 f30 f31 f32
  go_wp2
  refine bodyPost_ret (v := .tuple #[.agg #[.int .u64 0, .bool false, .slice r0 rl rc], .int .i64 0]) ?_ rfl ⟨r0, rl, rc, rfl, ?_, ?_, ?_⟩
  · rw [results_cell_tmp rfl]
    go_simp
    first | done | exact ⟨rfl, rfl⟩ | rfl
  · exact OwB.farC (OwB.farC (OwB.farC (O5.out.mono (show w.heap.size + 2 ≤ w3.heap.size by omega)) (by show w.heap.size + 1 < w.heap.size + 2; omega) _) (by show w.heap.size + 1 < w.heap.size + 2; omega) _) (by show w.heap.size + 1 < w.heap.size + 2; omega) _ |>.mono (by omega)
  · exact ((G6.out.far (by show ¬ g = w.heap.size + 1; omega) _).far (by show ¬ g = w.heap.size + 1; omega) _).far (by show ¬ g = w.heap.size + 1; omega) _
  · exact (((Below.keeps B5.out).setCell (.inr (by show w.heap.size ≤ w.heap.size + 1; omega)) _).setCell (.inr (by show w.heap.size ≤ w.heap.size + 1; omega)) _).setCell (.inr (by show w.heap.size ≤ w.heap.size + 1; omega)) _
set_option maxHeartbeats 4000000 in
theorem rDo5e (g : Nat) (bs : List Int) (a n : Nat) (v x : Int) (s0 : Option Addr) (sl sc : Nat) (b : List Int) (w : World) (hg : Blk w g (bs.map (Value.int .u8))) (hib : IsB bs) (hl : bs.length ≤ 131072) (hv0 : 0 ≤ v) (hv1 : v ≤ 18446744073709551615) (hx0 : 0 ≤ x) (hx1 : x ≤ 18446744073709551615) (hB : RdB w (.slice s0 sl sc) b) (hbi : IsB b) (hne : b.length ≠ 0 → ∀ i, (Value.slice s0 sl sc).ownBlock = some i → i ≠ g) (he : acE bs.length 5 a n sl = 0) (h8 : n ≤ 8) (han : a + n ≤ bs.length) (h4 : a = bs.length) :
    Calls Try.prog 35 #[.slice (some ⟨g, 0, none⟩) bs.length bs.length, .agg #[.int .i64 5, .int .i64 (a : Int), .int .i64 (n : Int), .int .u64 v, .int .u64 x, .slice s0 sl sc]] w fun e w' => ∃ r0 rl rc, e = .returned (.tuple #[.agg #[.int .u64 (doV bs 5 a n), .bool (doD bs 5 a n v), .slice r0 rl rc], .int .i64 0]) ∧ OwB 5 w.heap.size w' (.slice r0 rl rc) (doR bs 5 a n) ∧ Blk w' g ((doB bs 5 a n v x b).map (Value.int .u8)) ∧ Keep (· = g) w w' := by
  have HN0 := Lib.hid (show n = 0 by omega)
  have HA := Lib.hid h4
  clear h4
  have HE := Lib.hid he
  have HG := Lib.hid hg
  have HI := Lib.hid hib
  have HBR := Lib.hid hB
  have HBI := Lib.hid hbi
  have HNE := Lib.hid hne
  have lg := hg.lt
  obtain ⟨w2, hw2⟩ : ∃ w2, w2 = (w.alloc (.cells #[.int .i64 5, .int .i64 (a : Int), .int .i64 (n : Int), .int .u64 v, .int .u64 x, .slice s0 sl sc] 47)).alloc (.cells #[.int .u64 0, .bool false, .slice none 0 0] 49) := ⟨_, rfl⟩
  have X2 := Lib.hid (show Blk w2 w.heap.size [.int .i64 5, .int .i64 (a : Int), .int .i64 (n : Int), .int .u64 v, .int .u64 x, .slice s0 sl sc] by rw [hw2]; exact Blk.alloc (Blk.made w _ _) _)
  have Y2 := Lib.hid (show Blk w2 (w.heap.size + 1) [.int .u64 0, .bool false, .slice none 0 0] by rw [hw2]; exact Blk.made1 w _ _ _)
  have B2 := Lib.hid (show Below w.heap.size w w2 by rw [hw2]; go_grown)
  have z2 : w2.heap.size = w.heap.size + 2 := by rw [hw2]; simp
  obtain ⟨x0, x1, x2, x3, x4, x5⟩ := X2.out.c6
  have lx2 := X2.out.lt
  clear he hg hib hB hbi hne
  go_enter Try.func35, Try.ntmps35
  go_upto_region 1 with fail
  rw [← hw2]
  clear hw2
  go_wp2_with fail
  refine (refCheck_any _ _ _ _ _ _ _ _ _ _ (by omega) (by omega)).mono ?_
  rintro e w3 ⟨rfl, b3⟩
  rw [HE.out]
  have z3 := b3.size
  have X3 := Lib.hid (X2.out.below b3 lx2)
  have Y3 := Lib.hid (Y2.out.below b3 (by omega))
  have B3 := Lib.hid (B2.out.trans (b3.mono (by omega)))
  have G3 := Lib.hid ((HG.out.below B2.out lg).below b3 (by omega))
  have R3 := Lib.hid ((HBR.out.below B2.out).below b3)
  clear x0 x1 x2 x3 x4 x5 b3
  obtain ⟨x0, x1, x2, x3, x4, x5⟩ := X3.out.c6
  have lx3 := X3.out.lt
  have y30 := Y3.out.cell 0
  have y31 := Y3.out.cell 1
  have y32 := Y3.out.cell 2
  have f30 := Y3.out.frozen 0
  have f31 := Y3.out.frozen 1
  have f32 := Y3.out.frozen 2
  simp only [List.getElem?_cons_zero, List.getElem?_cons_succ] at y30 y31 y32
  have ly3 := Y3.out.lt
  have hai : (a : Int) + (n : Int) ≤ (bs.length : Int) := by omega
  have NUM := Lib.hid (rdN_num8 (bs := bs) (a := a) h8)
  have q1 : (bs.length = a) = True := eq_true (by have := HA.out; omega)
  have q2 : (a = bs.length) = True := eq_true (by have := HA.out; omega)
  have q3 : (bs.length - a = 0) = True := eq_true (by have := HA.out; omega)
  have q4 : (bs.length ≤ a) = True := eq_true (by have := HA.out; omega)
  go_wp2_with fail
  refine (refNumber_any _ ((bs.drop a).take n) w3 (rd_none bs a HN0.out (by unfold maxLen; omega)) ((HI.out.drop _).take _)).mono ?_
  rintro e w4 ⟨rfl, rfl⟩
  rw [NUM.out]
  obtain ⟨N, hN⟩ : ∃ N, N = rdN bs a n := ⟨_, rfl⟩
  have hNb := rdN_bdR bs a n HI.out h8
  rw [← hN] at hNb ⊢
  have HN := Lib.hid hN
  clear hN
  obtain ⟨hN0, hN1⟩ := hNb
  have OE := Lib.hid (show OwB 5 w3.heap.size (w3.alloc (Obj.cells #[] 5)) (.slice (some ⟨w3.heap.size, 0, none⟩) 0 0) [] from own_empty _ _ _ _ #[] (by rw [(MapKept.heap_alloc w3 _).1]) (Nat.le_refl _))
  have BE := Lib.hid ((Below.refl _ _).alloc (Nat.le_refl _) _ : Below w3.heap.size w3 (w3.alloc (Obj.cells #[] 5)))
  have G5 := Lib.hid (G3.out.below BE.out (by omega))
  go_wp2_with (refine list_app rfl (.tmp 83) (.tmp 84) rfl w3.heap.size _ _ [] ((bs.drop a).take n) rfl OE.out rfl (rd_none bs a HN0.out (by unfold maxLen; omega)) (by simp; omega) (by simp) ?_)
  intro v5 w5 p5
  obtain ⟨r0, rl, rc, rfl⟩ := p5.1.isSliceC
  have b5 := Lib.hid (AppB.below p5 BE.out (by simp) (fun i hi => by have h : w3.heap.size = i := Option.some.inj hi; omega) : Below w3.heap.size w3 w5)
  have O5 := Lib.hid (show OwB 5 w3.heap.size w5 (.slice r0 rl rc) ((bs.drop a).take n) by simpa using p5.1)
  have z5 := b5.out.size
  have Y5 := Lib.hid (Y3.out.below b5.out ly3)
  have G6 := Lib.hid (G3.out.below b5.out (by omega))
  have B5 := Lib.hid (B3.out.trans (b5.out.mono (by omega)))
  have y60 := Y5.out.cell 0
  have y61 := Y5.out.cell 1
  have y62 := Y5.out.cell 2
  have f60 := Y5.out.frozen 0
  have f61 := Y5.out.frozen 1
  have f62 := Y5.out.frozen 2
  simp only [List.getElem?_cons_zero, List.getElem?_cons_succ] at y60 y61 y62
  have ly6 := Y5.out.lt
  clear p5 y30 y31 y32 f30 f31 f32
  go_wp2
  refine bodyPost_ret (v := .tuple #[.agg #[.int .u64 0, .bool false, .slice r0 rl rc], .int .i64 0]) ?_ rfl ⟨r0, rl, rc, rfl, ?_, ?_, ?_⟩
  · rw [results_cell_tmp rfl]
    go_simp
    first | done | exact ⟨rfl, rfl⟩ | rfl
  · exact OwB.farC (OwB.farC (OwB.farC (O5.out.mono (show w.heap.size + 2 ≤ w3.heap.size by omega)) (by show w.heap.size + 1 < w.heap.size + 2; omega) _) (by show w.heap.size + 1 < w.heap.size + 2; omega) _) (by show w.heap.size + 1 < w.heap.size + 2; omega) _ |>.mono (by omega)
  · exact ((G6.out.far (by show ¬ g = w.heap.size + 1; omega) _).far (by show ¬ g = w.heap.size + 1; omega) _).far (by show ¬ g = w.heap.size + 1; omega) _
  · exact (((Below.keeps B5.out).setCell (.inr (by show w.heap.size ≤ w.heap.size + 1; omega)) _).setCell (.inr (by show w.heap.size ≤ w.heap.size + 1; omega)) _).setCell (.inr (by show w.heap.size ≤ w.heap.size + 1; omega)) _
set_option maxHeartbeats 4000000 in
theorem rDo6 (g : Nat) (bs : List Int) (a n : Nat) (v x : Int) (s0 : Option Addr) (sl sc : Nat) (b : List Int) (w : World) (hg : Blk w g (bs.map (Value.int .u8))) (hib : IsB bs) (hl : bs.length ≤ 131072) (hv0 : 0 ≤ v) (hv1 : v ≤ 18446744073709551615) (hx0 : 0 ≤ x) (hx1 : x ≤ 18446744073709551615) (hB : RdB w (.slice s0 sl sc) b) (hbi : IsB b) (hne : b.length ≠ 0 → ∀ i, (Value.slice s0 sl sc).ownBlock = some i → i ≠ g) (he : acE bs.length 6 a n sl = 0) (h8 : n ≤ 8) (han : a + n ≤ bs.length) (h4 : a < bs.length) (hnb : b.length = n) :
    Calls Try.prog 35 #[.slice (some ⟨g, 0, none⟩) bs.length bs.length, .agg #[.int .i64 6, .int .i64 (a : Int), .int .i64 (n : Int), .int .u64 v, .int .u64 x, .slice s0 sl sc]] w fun e w' => ∃ r0 rl rc, e = .returned (.tuple #[.agg #[.int .u64 (doV bs 6 a n), .bool (doD bs 6 a n v), .slice r0 rl rc], .int .i64 0]) ∧ OwB 5 w.heap.size w' (.slice r0 rl rc) (doR bs 6 a n) ∧ Blk w' g ((doB bs 6 a n v x b).map (Value.int .u8)) ∧ Keep (· = g) w w' := by
  have HA := Lib.hid h4
  have HNB := Lib.hid hnb
  clear hnb
  have HE := Lib.hid he
  have HG := Lib.hid hg
  have HI := Lib.hid hib
  have HBR := Lib.hid hB
  have HBI := Lib.hid hbi
  have HNE := Lib.hid hne
  have lg := hg.lt
  obtain ⟨w2, hw2⟩ : ∃ w2, w2 = (w.alloc (.cells #[.int .i64 6, .int .i64 (a : Int), .int .i64 (n : Int), .int .u64 v, .int .u64 x, .slice s0 sl sc] 47)).alloc (.cells #[.int .u64 0, .bool false, .slice none 0 0] 49) := ⟨_, rfl⟩
  have X2 := Lib.hid (show Blk w2 w.heap.size [.int .i64 6, .int .i64 (a : Int), .int .i64 (n : Int), .int .u64 v, .int .u64 x, .slice s0 sl sc] by rw [hw2]; exact Blk.alloc (Blk.made w _ _) _)
  have Y2 := Lib.hid (show Blk w2 (w.heap.size + 1) [.int .u64 0, .bool false, .slice none 0 0] by rw [hw2]; exact Blk.made1 w _ _ _)
  have B2 := Lib.hid (show Below w.heap.size w w2 by rw [hw2]; go_grown)
  have z2 : w2.heap.size = w.heap.size + 2 := by rw [hw2]; simp
  obtain ⟨x0, x1, x2, x3, x4, x5⟩ := X2.out.c6
  have lx2 := X2.out.lt
  clear he hg hib hB hbi hne
  go_enter Try.func35, Try.ntmps35
  go_upto_region 1 with fail
  rw [← hw2]
  clear hw2
  go_wp2_with fail
  refine (refCheck_any _ _ _ _ _ _ _ _ _ _ (by omega) (by omega)).mono ?_
  rintro e w3 ⟨rfl, b3⟩
  rw [HE.out]
  have z3 := b3.size
  have X3 := Lib.hid (X2.out.below b3 lx2)
  have Y3 := Lib.hid (Y2.out.below b3 (by omega))
  have B3 := Lib.hid (B2.out.trans (b3.mono (by omega)))
  have G3 := Lib.hid ((HG.out.below B2.out lg).below b3 (by omega))
  have R3 := Lib.hid ((HBR.out.below B2.out).below b3)
  clear x0 x1 x2 x3 x4 x5 b3
  obtain ⟨x0, x1, x2, x3, x4, x5⟩ := X3.out.c6
  have lx3 := X3.out.lt
  have y30 := Y3.out.cell 0
  have y31 := Y3.out.cell 1
  have y32 := Y3.out.cell 2
  have f30 := Y3.out.frozen 0
  have f31 := Y3.out.frozen 1
  have f32 := Y3.out.frozen 2
  simp only [List.getElem?_cons_zero, List.getElem?_cons_succ] at y30 y31 y32
  have ly3 := Y3.out.lt
  have hai : (a : Int) + (n : Int) ≤ (bs.length : Int) := by omega
  have NUM := Lib.hid (rdN_num8 (bs := bs) (a := a) h8)
  have q1 : (bs.length = a) = False := eq_false (by omega)
  have q2 : (a = bs.length) = False := eq_false (by omega)
  have q3 : (bs.length - a = 0) = False := eq_false (by omega)
  have q4 : (bs.length ≤ a) = False := eq_false (by omega)
  go_wp2_with fail
  refine (refNumber_any _ ((bs.drop a).take n) w3 (rd_sub G3.out han (by unfold maxLen; omega)) ((HI.out.drop _).take _)).mono ?_
  rintro e w4 ⟨rfl, rfl⟩
  rw [NUM.out]
  obtain ⟨N, hN⟩ : ∃ N, N = rdN bs a n := ⟨_, rfl⟩
  have hNb := rdN_bdR bs a n HI.out h8
  rw [← hN] at hNb ⊢
  have HN := Lib.hid hN
  clear hN
  obtain ⟨hN0, hN1⟩ := hNb
  have G5 := G3
  have Y5 := Y3
  obtain ⟨w5, hw5⟩ : ∃ w5, w5 = w3 := ⟨_, rfl⟩
  have B5 := Lib.hid (show Below w.heap.size w w5 by rw [hw5]; exact B3.out)
  rw [← hw5] at G5 Y5
  go_wp2_with (refine list_copy rfl (.tmp 87) (.tmp 89) rfl _ _ _ _ _ _ rfl rfl g a bs b G3.out R3.out (by rw [HNB.out]; exact Nat.le_refl _) (fun _ => rfl) (by rw [HNB.out]; exact han) ?_)
  intro w6 hg6 k6
  rw [← hw5] at k6
  clear y30 y31 y32 f30 f31 f32
  have Y6 := Lib.hid (Y5.out.keep k6 (by show ¬ w.heap.size + 1 = g; omega))
  have K6 := Lib.hid ((Below.keeps B5.out : Keep (· = g) w w5).trans k6)
  have HG6 := Lib.hid hg6.out
  have y60 := Y6.out.cell 0
  have y61 := Y6.out.cell 1
  have y62 := Y6.out.cell 2
  have f60 := Y6.out.frozen 0
  have f61 := Y6.out.frozen 1
  have f62 := Y6.out.frozen 2
  simp only [List.getElem?_cons_zero, List.getElem?_cons_succ] at y60 y61 y62
  have ly6 := Y6.out.lt
  clear k6 hg6
  go_wp2
  refine bodyPost_ret (v := .tuple #[.agg #[.int .u64 0, .bool false, .slice none 0 0], .int .i64 0]) ?_ rfl ⟨none, 0, 0, rfl, OwB.nil _ _ _, ?_, ?_⟩
  · rw [results_cell_tmp rfl]
    go_simp
    first | done | exact ⟨rfl, rfl⟩ | rfl
  · exact ((HG6.out.far (by show ¬ g = w.heap.size + 1; omega) _).far (by show ¬ g = w.heap.size + 1; omega) _).far (by show ¬ g = w.heap.size + 1; omega) _
  · exact ((K6.out.setCell (.inr (by show w.heap.size ≤ w.heap.size + 1; omega)) _).setCell (.inr (by show w.heap.size ≤ w.heap.size + 1; omega)) _).setCell (.inr (by show w.heap.size ≤ w.heap.size + 1; omega)) _
set_option maxHeartbeats 4000000 in
theorem rDo6e (g : Nat) (bs : List Int) (a n : Nat) (v x : Int) (s0 : Option Addr) (sl sc : Nat) (b : List Int) (w : World) (hg : Blk w g (bs.map (Value.int .u8))) (hib : IsB bs) (hl : bs.length ≤ 131072) (hv0 : 0 ≤ v) (hv1 : v ≤ 18446744073709551615) (hx0 : 0 ≤ x) (hx1 : x ≤ 18446744073709551615) (hB : RdB w (.slice s0 sl sc) b) (hbi : IsB b) (hne : b.length ≠ 0 → ∀ i, (Value.slice s0 sl sc).ownBlock = some i → i ≠ g) (he : acE bs.length 6 a n sl = 0) (h8 : n ≤ 8) (han : a + n ≤ bs.length) (h4 : a = bs.length) (hnb : b.length = n) :
    Calls Try.prog 35 #[.slice (some ⟨g, 0, none⟩) bs.length bs.length, .agg #[.int .i64 6, .int .i64 (a : Int), .int .i64 (n : Int), .int .u64 v, .int .u64 x, .slice s0 sl sc]] w fun e w' => ∃ r0 rl rc, e = .returned (.tuple #[.agg #[.int .u64 (doV bs 6 a n), .bool (doD bs 6 a n v), .slice r0 rl rc], .int .i64 0]) ∧ OwB 5 w.heap.size w' (.slice r0 rl rc) (doR bs 6 a n) ∧ Blk w' g ((doB bs 6 a n v x b).map (Value.int .u8)) ∧ Keep (· = g) w w' := by
  have HN0 := Lib.hid (show n = 0 by omega)
  have HA := Lib.hid h4
  clear h4
  have HNB := Lib.hid hnb
  clear hnb
  have HE := Lib.hid he
  have HG := Lib.hid hg
  have HI := Lib.hid hib
  have HBR := Lib.hid hB
  have HBI := Lib.hid hbi
  have HNE := Lib.hid hne
  have lg := hg.lt
  obtain ⟨w2, hw2⟩ : ∃ w2, w2 = (w.alloc (.cells #[.int .i64 6, .int .i64 (a : Int), .int .i64 (n : Int), .int .u64 v, .int .u64 x, .slice s0 sl sc] 47)).alloc (.cells #[.int .u64 0, .bool false, .slice none 0 0] 49) := ⟨_, rfl⟩
  have X2 := Lib.hid (show Blk w2 w.heap.size [.int .i64 6, .int .i64 (a : Int), .int .i64 (n : Int), .int .u64 v, .int .u64 x, .slice s0 sl sc] by rw [hw2]; exact Blk.alloc (Blk.made w _ _) _)
  have Y2 := Lib.hid (show Blk w2 (w.heap.size + 1) [.int .u64 0, .bool false, .slice none 0 0] by rw [hw2]; exact Blk.made1 w _ _ _)
  have B2 := Lib.hid (show Below w.heap.size w w2 by rw [hw2]; go_grown)
  have z2 : w2.heap.size = w.heap.size + 2 := by rw [hw2]; simp
  obtain ⟨x0, x1, x2, x3, x4, x5⟩ := X2.out.c6
  have lx2 := X2.out.lt
  clear he hg hib hB hbi hne
  go_enter Try.func35, Try.ntmps35
  go_upto_region 1 with fail
  rw [← hw2]
  clear hw2
  go_wp2_with fail
  refine (refCheck_any _ _ _ _ _ _ _ _ _ _ (by omega) (by omega)).mono ?_
  rintro e w3 ⟨rfl, b3⟩
  rw [HE.out]
  have z3 := b3.size
  have X3 := Lib.hid (X2.out.below b3 lx2)
  have Y3 := Lib.hid (Y2.out.below b3 (by omega))
  have B3 := Lib.hid (B2.out.trans (b3.mono (by omega)))
  have G3 := Lib.hid ((HG.out.below B2.out lg).below b3 (by omega))
  have R3 := Lib.hid ((HBR.out.below B2.out).below b3)
  clear x0 x1 x2 x3 x4 x5 b3
  obtain ⟨x0, x1, x2, x3, x4, x5⟩ := X3.out.c6
  have lx3 := X3.out.lt
  have y30 := Y3.out.cell 0
  have y31 := Y3.out.cell 1
  have y32 := Y3.out.cell 2
  have f30 := Y3.out.frozen 0
  have f31 := Y3.out.frozen 1
  have f32 := Y3.out.frozen 2
  simp only [List.getElem?_cons_zero, List.getElem?_cons_succ] at y30 y31 y32
  have ly3 := Y3.out.lt
  have hai : (a : Int) + (n : Int) ≤ (bs.length : Int) := by omega
  have NUM := Lib.hid (rdN_num8 (bs := bs) (a := a) h8)
  have q1 : (bs.length = a) = True := eq_true (by have := HA.out; omega)
  have q2 : (a = bs.length) = True := eq_true (by have := HA.out; omega)
  have q3 : (bs.length - a = 0) = True := eq_true (by have := HA.out; omega)
  have q4 : (bs.length ≤ a) = True := eq_true (by have := HA.out; omega)
  go_wp2_with fail
  refine (refNumber_any _ ((bs.drop a).take n) w3 (rd_none bs a HN0.out (by unfold maxLen; omega)) ((HI.out.drop _).take _)).mono ?_
  rintro e w4 ⟨rfl, rfl⟩
  rw [NUM.out]
  obtain ⟨N, hN⟩ : ∃ N, N = rdN bs a n := ⟨_, rfl⟩
  have hNb := rdN_bdR bs a n HI.out h8
  rw [← hN] at hNb ⊢
  have HN := Lib.hid hN
  clear hN
  obtain ⟨hN0, hN1⟩ := hNb
  have G5 := G3
  have Y5 := Y3
  obtain ⟨w5, hw5⟩ : ∃ w5, w5 = w3 := ⟨_, rfl⟩
  have B5 := Lib.hid (show Below w.heap.size w w5 by rw [hw5]; exact B3.out)
  rw [← hw5] at G5 Y5
  go_wp2_with (refine list_copy rfl (.tmp 87) (.tmp 89) rfl _ _ _ _ _ _ rfl rfl g a bs b G3.out R3.out (by rw [HNB.out]; exact Nat.le_refl _) (fun h => absurd (HNB.out.trans HN0.out) h) (by rw [HNB.out]; exact han) ?_)
  intro w6 hg6 k6
  rw [← hw5] at k6
  clear y30 y31 y32 f30 f31 f32
  have Y6 := Lib.hid (Y5.out.keep k6 (by show ¬ w.heap.size + 1 = g; omega))
  have K6 := Lib.hid ((Below.keeps B5.out : Keep (· = g) w w5).trans k6)
  have HG6 := Lib.hid hg6.out
  have y60 := Y6.out.cell 0
  have y61 := Y6.out.cell 1
  have y62 := Y6.out.cell 2
  have f60 := Y6.out.frozen 0
  have f61 := Y6.out.frozen 1
  have f62 := Y6.out.frozen 2
  simp only [List.getElem?_cons_zero, List.getElem?_cons_succ] at y60 y61 y62
  have ly6 := Y6.out.lt
  clear k6 hg6
  go_wp2
  refine bodyPost_ret (v := .tuple #[.agg #[.int .u64 0, .bool false, .slice none 0 0], .int .i64 0]) ?_ rfl ⟨none, 0, 0, rfl, OwB.nil _ _ _, ?_, ?_⟩
  · rw [results_cell_tmp rfl]
    go_simp
    first | done | exact ⟨rfl, rfl⟩ | rfl
  · exact ((HG6.out.far (by show ¬ g = w.heap.size + 1; omega) _).far (by show ¬ g = w.heap.size + 1; omega) _).far (by show ¬ g = w.heap.size + 1; omega) _
  · exact ((K6.out.setCell (.inr (by show w.heap.size ≤ w.heap.size + 1; omega)) _).setCell (.inr (by show w.heap.size ≤ w.heap.size + 1; omega)) _).setCell (.inr (by show w.heap.size ≤ w.heap.size + 1; omega)) _
/-- An access done on bytes. -/
theorem rDo_ok (g : Nat) (bs : List Int) (A : AA) (s0 : Option Addr) (sl sc : Nat) (w : World) (hg : Blk w g (bs.map (Value.int .u8))) (hib : IsB bs) (hl : bs.length ≤ 131072) (hwf : A.wf) (hB : RdB w (.slice s0 sl sc) A.b) (hne : A.b.length ≠ 0 → ∀ i, (Value.slice s0 sl sc).ownBlock = some i → i ≠ g) (he : A.err bs.length = 0) :
    Calls Try.prog 35 #[.slice (some ⟨g, 0, none⟩) bs.length bs.length, A.V (.slice s0 sl sc)] w fun e w' => ∃ r0 rl rc, e = .returned (.tuple #[.agg #[.int .u64 (A.ans bs).v, .bool (A.ans bs).d, .slice r0 rl rc], .int .i64 0]) ∧ OwB 5 w.heap.size w' (.slice r0 rl rc) (A.ans bs).b ∧ Blk w' g ((A.out bs).map (Value.int .u8)) ∧ Keep (· = g) w w' := by
  obtain ⟨hz, h0, h1, h2, h3, h4, h5⟩ := acE_ok he (by omega)
  obtain ⟨k, a, n, v, x, b⟩ := A
  obtain ⟨wb, wl, v0, v1, x0, x1⟩ := hwf
  dsimp only at h0 h1 h2 h3 h4 h5 hz wb wl v0 v1 x0 x1 hB hne
  obtain ⟨a, rfl⟩ := Int.eq_ofNat_of_zero_le h0
  obtain ⟨n, rfl⟩ := Int.eq_ofNat_of_zero_le h3
  have hsl := rd_len hB
  have he' : acE bs.length k (a : Int) (n : Int) sl = 0 := by rw [hsl]; exact he
  have h8 : n ≤ 8 := by omega
  have han : a + n ≤ bs.length := by omega
  have hz' := hz
  unfold acSized at hz'
  rcases acSized_k hz with rfl | rfl | rfl | rfl | rfl | rfl
  · exact rDo1 g bs a n v x s0 sl sc b w hg hib hl v0 v1 x0 x1 hB wb hne he' h8 han (by have := (h5 (by decide)).2; omega)
  · exact rDo2 g bs a n v x s0 sl sc b w hg hib hl v0 v1 x0 x1 hB wb hne he' h8 han (by have := (h5 (by decide)).2; omega)
  · exact rDo3 g bs a n v x s0 sl sc b w hg hib hl v0 v1 x0 x1 hB wb hne he' h8 han (by simp at hz'; omega)
  · exact rDo4 g bs a n v x s0 sl sc b w hg hib hl v0 v1 x0 x1 hB wb hne he' h8 han (by have := (h5 (by decide)).2; omega)
  · by_cases h : a < bs.length
    · exact rDo5 g bs a n v x s0 sl sc b w hg hib hl v0 v1 x0 x1 hB wb hne he' h8 han h
    · exact rDo5e g bs a n v x s0 sl sc b w hg hib hl v0 v1 x0 x1 hB wb hne he' h8 han (by omega)
  · have hn : b.length = n := by
      simp at hz'
      omega
    by_cases h : a < bs.length
    · exact rDo6 g bs a n v x s0 sl sc b w hg hib hl v0 v1 x0 x1 hB wb hne he' h8 han h hn
    · exact rDo6e g bs a n v x s0 sl sc b w hg hib hl v0 v1 x0 x1 hB wb hne he' h8 han (by omega) hn
set_option maxHeartbeats 2000000 in
theorem rDo_bad (p0 : Option Addr) (pc N : Nat) (k a n v x : Int) (s0 : Option Addr) (sl sc : Nat) (w : World) (hl : N ≤ 131072) (he : acE (N : Int) k a n sl ≠ 0) :
    Calls Try.prog 35 #[.slice p0 N pc, .agg #[.int .i64 k, .int .i64 a, .int .i64 n, .int .u64 v, .int .u64 x, .slice s0 sl sc]] w fun e w' => e = .returned (.tuple #[.agg #[.int .u64 0, .bool false, .slice none 0 0], .int .i64 (acE (N : Int) k a n sl)]) ∧ Below w.heap.size w w' := by
  obtain ⟨ev, hev⟩ : ∃ ev, ev = acE (N : Int) k a n sl := ⟨_, rfl⟩
  rw [← hev] at he ⊢
  have HE := Lib.hid hev
  have he' : (ev != 0) = true := by simpa using he
  have he2 : (ev == 0) = false := by simpa using he
  clear hev he
  obtain ⟨w2, hw2⟩ : ∃ w2, w2 = (w.alloc (.cells #[.int .i64 k, .int .i64 a, .int .i64 n, .int .u64 v, .int .u64 x, .slice s0 sl sc] 47)).alloc (.cells #[.int .u64 0, .bool false, .slice none 0 0] 49) := ⟨_, rfl⟩
  have X2 := Lib.hid (show Blk w2 w.heap.size [.int .i64 k, .int .i64 a, .int .i64 n, .int .u64 v, .int .u64 x, .slice s0 sl sc] by rw [hw2]; exact Blk.alloc (Blk.made w _ _) _)
  have Y2 := Lib.hid (show Blk w2 (w.heap.size + 1) [.int .u64 0, .bool false, .slice none 0 0] by rw [hw2]; exact Blk.made1 w _ _ _)
  have B2 := Lib.hid (show Below w.heap.size w w2 by rw [hw2]; go_grown)
  have z2 : w2.heap.size = w.heap.size + 2 := by rw [hw2]; simp
  obtain ⟨x0, x1, x2, x3, x4, x5⟩ := X2.out.c6
  have lx2 := X2.out.lt
  go_enter Try.func35, Try.ntmps35
  go_upto_region 1 with fail
  rw [← hw2]
  clear hw2
  go_wp2_with fail
  refine (refCheck_any _ _ _ _ _ _ _ _ _ _ (by omega) (by omega)).mono ?_
  rintro e w3 ⟨rfl, b3⟩
  rw [← HE.out]
  have z3 := b3.size
  have Y3 := Lib.hid (Y2.out.below b3 (by omega))
  have B3 := Lib.hid (B2.out.trans (b3.mono (by omega)))
  clear x0 x1 x2 x3 x4 x5 b3
  have y30 := Y3.out.cell 0
  have y31 := Y3.out.cell 1
  have y32 := Y3.out.cell 2
  have f30 := Y3.out.frozen 0
  have f31 := Y3.out.frozen 1
  have f32 := Y3.out.frozen 2
  simp only [List.getElem?_cons_zero, List.getElem?_cons_succ] at y30 y31 y32
  have ly3 := Y3.out.lt
  go_wp2
  refine bodyPost_ret (v := .tuple #[.agg #[.int .u64 0, .bool false, .slice none 0 0], .int .i64 ev]) ?_ rfl ⟨rfl, ?_⟩
  · rw [results_cell_tmp rfl]
    go_simp
    first | done | exact ⟨rfl, rfl⟩ | rfl
  · exact ((B3.out.setCell (by show w.heap.size ≤ w.heap.size + 1; omega) _).setCell (by show w.heap.size ≤ w.heap.size + 1; omega) _).setCell (by show w.heap.size ≤ w.heap.size + 1; omega) _
end Go.Proofs.Ytknahaaefmlcpaa
