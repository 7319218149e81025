/- The fixed facts of layer 6 hold. The setting of layer 6's laws: made, and a world over what it made; what a pick may count. Conditions: as each says. -/
import Derived.Test.YthaglmlkillhdaaSp
import Derived.Test.YthaglmlkillhdaaSq
import Derived.Lib.SlBytesConst
section
namespace Go.Proofs.Ythaglmlkillhdaa
set_option maxRecDepth 100000
open Go.RowKit
set_option linter.unusedVariables false
set_option linter.unusedSimpArgs false
def f6m : CpM := ⟨true, 0, [49, 50, 51, 52, 53, 54, 55, 56, 57], 0, []⟩
def f6S0 : SW CpM := ⟨List.replicate 64 0, 0, [⟨some f6m, false⟩, ⟨none, false⟩], 0, []⟩
def f6S1 : SW CpM := (cpMac.pick f6S0 2 0 5).1
def f6S2 : SW CpM := (cpMac.pick f6S1 0 0 0).1
def f6S3 : SW CpM := (cpMac.pick f6S2 0 2 0).1
def f6S4 : SW CpM := (cpMac.robin 99 f6S3).1
theorem f6_facts : (cpMac.pick f6S0 2 0 5).2.2 = 0 ∧ (cpMac.pick f6S1 0 0 0).2.2 = 0 ∧ (cpMac.pick f6S1 0 0 0).2.1.c.n = 8 ∧ (cpMac.pick f6S2 0 2 0).2.2 = 2 ∧ (cpMac.robin 99 f6S3).2 = 1 ∧ f6S4.clk = 5 ∧ cpMac.ended f6S4 0 = true ∧ cpMac.ended f6S4 1 = true ∧ f6S4.dead 0 = false ∧ f6S4.tr.length = 3 := by decide +kernel
theorem f6_bd : f6S1.cnt = 0 ∧ f6S2.cnt = 1 ∧ f6S3.cnt = 1 ∧ f6S1.clk = 5 ∧ f6S2.clk = 5 ∧ f6S1.tr.length = 1 ∧ f6S2.tr.length = 2 ∧ f6S3.tr.length = 2 ∧ f6S3.acts.length = 2 := by decide +kernel
theorem f6_len : ∀ e ∈ f6S4.tr, e.c.b.length ≤ 70368744177664 ∧ e.x.b.length ≤ 70368744177664 := by decide +kernel
theorem mNew_lit6 (size : Int) (k : Nat) (w : World) (hs : size = 8 * (k : Int)) (h1 : 1 ≤ k) (h2 : k ≤ 16384) :
    Calls Try.prog 25 #[.int .i64 size] w fun e w' => ∃ p c, e = .returned (.tuple #[.pointer (some ⟨p, 0, none⟩), .int .i64 0]) ∧ Buf w' p c 0 (List.replicate (8 * k) 0) ∧ w.heap.size ≤ p ∧ w.heap.size ≤ c ∧ Below w.heap.size w w' := by
  subst hs
  exact mNew_any k w h1 h2
theorem f6_fine : CpM.Fine f6m := ⟨by intro x hx; simp [f6m] at hx; omega, by decide, by decide, by decide, by decide, by decide⟩
theorem missing_one (nm : String) (T : TypeId) (got : Array Method) (h : (got.any fun m => m.name == nm && m.sig == T) = false) : ∃ m, Instr.missingMethod #[(nm, T)] got = some m := by
  unfold Instr.missingMethod
  simp only [List.filter_cons, List.filter_nil, h, Bool.not_false, if_true, List.map_cons, List.map_nil]
  by_cases hc : nm.contains '.' = true
  · simp [List.partition, List.partition.loop, hc, Instr.least]
  · simp [List.partition, List.partition.loop, hc, Instr.least]
theorem cpNoTick (b : Nat) (w : World) : ((Instr.typeAssert (.iface 25 (.pointer (some ⟨b, 0, none⟩))) 140 178 true).run Try.prog w) = .ok (.tuple #[.nilIface, .bool false]) w := by
  obtain ⟨m, hm⟩ := missing_one "Tick" 180 Try.t25.methods (by decide +kernel)
  have hz : ∀ w, (zeroValue 178).run Try.prog w = .ok .nilIface w := fun w => by kernel_rfl
  unfold Instr.typeAssert
  go_simp
theorem cpUntimed : Untimed cpFam := fun s b w => cpNoTick b w
theorem step_bel {w w4 w5 : World} {κ κ5 : Nat → Kd} (BW : Below w.heap.size w w4) (NK : ∀ i, κ i ≠ .no → w.heap.size ≤ i) (kp : Keep (fun i => κ i ≠ .no) w4 w5) (k5 : ∀ i, i < w4.heap.size → κ5 i = κ i) : Below w.heap.size w w5 ∧ ∀ i, κ5 i ≠ .no → w.heap.size ≤ i := by
  refine ⟨BW.trans (kp.below BW.size (fun i hi h => by have := NK i h; omega)), fun i hi => ?_⟩
  by_cases h : i < w4.heap.size
  · rw [k5 i h] at hi
    exact NK i hi
  · have := BW.size
    omega
/-- What blocks are for where a world is about to be made over the buffer and one machine's blocks. -/
def kd1 (p c lo hi : Nat) : Nat → Kd := fun i => if i = p ∨ i = c then .bu else if lo ≤ i ∧ i < hi then .ma 0 else .no
set_option maxHeartbeats 2000000 in
theorem fixed06_any (w : World) : Calls Try.prog 24 #[] w fun e w' => e = .returned (.bool true) ∧ Below w.heap.size w w' := by
  have kc := fun (w : World) (C : Array Value) (n c : Nat) => Lib.run_convert_bytes_const (P := Try.prog) w 22 5 C n c Try.underlying22 Try.underlying5
  have FX := Lib.hid f6_facts
  have FB := Lib.hid f6_bd
  go_enter Try.func24, Try.ntmps24
  go_wp2_with fail
  refine (mNew_lit6 64 8 _ (by decide) (by decide) (by decide)).mono ?_
  rintro e w1 ⟨p, c, rfl, hb1, hp, hc, b1⟩
  have hl : RdB (w1.alloc (Obj.cells #[.int .u8 49, .int .u8 50, .int .u8 51, .int .u8 52, .int .u8 53, .int .u8 54, .int .u8 55, .int .u8 56, .int .u8 57] 5 (9, 10))) (.slice (some ⟨w1.heap.size, 0, none⟩) 9 9) f6m.l := by
    refine RdB.cells (by decide) (by decide) (by unfold maxLen; omega) fun i hi => ?_
    rw [World.cell?, (MapKept.heap_alloc w1 _).1, Nat.zero_add]
    match i, hi with
    | 0, _ | 1, _ | 2, _ | 3, _ | 4, _ | 5, _ | 6, _ | 7, _ | 8, _ => rfl
  have HL := Lib.hid hl
  have HB1 := Lib.hid hb1
  have B1 := Lib.hid b1
  have z1 := b1.size
  clear hl hb1 b1
  go_wp2_with fail
  refine (mkIn 0 (some ⟨w1.heap.size, 0, none⟩) 9 9 f6m.l _ HL.out (by decide)).mono ?_
  rintro e w2 ⟨q, rfl, b2, cp⟩
  have zz := b2.size
  rw [World.size_alloc] at zz
  have CP := Lib.hid cp
  have B2 := Lib.hid b2
  clear cp b2
  rw [World.size_alloc] at CP
  have key : Calls Try.prog 27 #[.pointer (some ⟨p, 0, none⟩), .slice (some ⟨w2.heap.size, 0, none⟩) 2 2] (w2.alloc (Obj.cells #[.iface 25 (.pointer (some ⟨q, 0, none⟩)), .nilIface] 140)) fun e w' => ∃ W κ' av ab, e = .returned (.pointer (some ⟨W, 0, none⟩)) ∧ WoIn cpFam w' κ' W p c av nilSl ab f6S0 ∧ w2.heap.size ≤ W ∧ (∀ i, i < w2.heap.size + 1 → κ' i = kd1 p c (w1.heap.size + 1) w2.heap.size i) ∧ Below (w2.heap.size + 1) (w2.alloc (Obj.cells #[.iface 25 (.pointer (some ⟨q, 0, none⟩)), .nilIface] 140)) w' := by
    obtain ⟨w3, hw3⟩ : ∃ w3, w3 = w2.alloc (Obj.cells #[.iface 25 (.pointer (some ⟨q, 0, none⟩)), .nilIface] 140) := ⟨_, rfl⟩
    have b3 : Below w2.heap.size w2 w3 := by rw [hw3]; exact (Below.refl _ _).alloc (Nat.le_refl _) _
    have hb3 : Blk w3 w2.heap.size [.iface 25 (.pointer (some ⟨q, 0, none⟩)), .nilIface] := by rw [hw3]; exact Blk.made w2 _ _
    have z3 : w3.heap.size = w2.heap.size + 1 := by rw [hw3]; simp
    rw [← hw3]
    have b13 : Below w1.heap.size w1 w3 := (((Below.refl _ w1).alloc (Nat.le_refl _) _).trans (B2.out.mono (by rw [World.size_alloc]; omega))).trans (b3.mono (by omega))
    have hpl := HB1.out.hd.lt
    have hcl := HB1.out.wd.lt
    refine (wNew_any cpFam w3 (kd1 p c (w1.heap.size + 1) w2.heap.size) p c 0 (List.replicate 64 0) 2 (fun i => if i = 0 then .iface 25 (.pointer (some ⟨q, 0, none⟩)) else .nilIface) [some f6m, none] w2.heap.size 0 2 (by decide) (by decide) (by unfold maxLen; omega) (HB1.out.belows b13) (by simp [kd1]) (by simp [kd1]) rfl (by decide) ?_ ?_ ?_ ?_ ?_).mono ?_
    · intro i hi
      match i, hi with
      | 0, _ => exact hb3.cell 0
      | 1, _ => exact hb3.cell 1
    · intro i hi
      match i, hi with
      | 0, _ => rfl
      | 1, _ => rfl
    · intro i m hm
      match i, hm with
      | 0, hm =>
        cases (show some (some f6m) = some m from hm)
        refine ⟨q, rfl, ⟨(CP.out.keep (Below.keeps (M := fun _ => False) b3) (fun _ _ => id)).mono ?_ ?_, ?_⟩⟩
        · intro j hj
          unfold kd1
          rw [if_neg (by omega), if_pos hj]
        · intro j hj
          unfold kd1 at hj
          split at hj
          · cases hj
          split at hj
          · omega
          · cases hj
        · exact f6_fine
      | 1, hm =>
        cases (show some none = some m from hm)
        rfl
      | i + 2, hm => simp at hm
    · intro k hk
      unfold kd1 at hk
      split at hk
      · omega
      split at hk
      · omega
      · exact absurd rfl hk
    · intro k i
      unfold kd1
      split
      · exact ⟨nofun, nofun, nofun, nofun, nofun⟩
      split
      · exact ⟨nofun, nofun, nofun, nofun, nofun⟩
      · exact ⟨nofun, nofun, nofun, nofun, nofun⟩
    · rintro e w' ⟨W, κ', av, ab, rfl, h1, h2, h3, h4⟩
      rw [z3] at h2 h3 h4
      exact ⟨W, κ', av, ab, rfl, h1, by omega, h2, h4⟩
  have KEY := Lib.hid key
  clear key
  go_wp2_with fail
  refine KEY.out.mono ?_
  rintro e w4 ⟨W, κ, av, ab, rfl, hW, hWs, hκ, b4⟩
  have BW : Below w.heap.size w w4 := ((B1.out.trans (((Below.refl w1.heap.size w1).alloc (Nat.le_refl _) _).mono z1)).trans (B2.out.mono (by rw [World.size_alloc]; omega))).trans ((((Below.refl w2.heap.size w2).alloc (Nat.le_refl _) _).mono (by omega)).trans (b4.mono (by omega)))
  have HW := Lib.hid hW
  have BW := Lib.hid BW
  have HK := Lib.hid hκ
  have hz4 : w2.heap.size + 1 ≤ w4.heap.size := by have := b4.size; rw [World.size_alloc] at this; exact this
  have nk : ∀ i, κ i ≠ .no → w.heap.size ≤ i := by
    intro i hi
    by_cases h : i < w2.heap.size + 1
    · rw [hκ i h] at hi
      unfold kd1 at hi
      split at hi
      · omega
      split at hi
      · omega
      · exact absurd rfl hi
    · omega
  have NK := Lib.hid nk
  clear hW hκ b4 nk KEY CP B2 HL
  go_wp2_with fail
  have BW4 := BW
  have NK4 := NK
  refine (wPick_any cpUntimed HW.out 2 0 5 (by decide +kernel) (by decide +kernel) (by decide +kernel) (by decide +kernel) (by decide +kernel)).mono ?_
  rintro e w5 ⟨s5a, s5l, s5c, t5a, t5l, t5c, rfl, _, _, κ5, tv5, h5, k5, _, kp5⟩
  have e0 : (cpFam.M.pick f6S0 2 0 5).2.2 = 0 := FX.out.1
  rw [e0]
  obtain ⟨E5, hE5⟩ : ∃ E, E = (cpFam.M.pick f6S0 2 0 5).2.1 := ⟨_, rfl⟩
  rw [← hE5]
  have HE5 := Lib.hid hE5
  unfold evV
  have H5 := Lib.hid (show WoIn cpFam w5 κ5 W p c av tv5 ab f6S1 from h5)
  have ST5 := Lib.hid (step_bel BW4.out NK4.out kp5 k5)
  have BW5 := Lib.hid (ST5.out.1.alloc (by have := ST5.out.1.size; omega) (.cells #[.int .i64 E5.pk, .int .i64 E5.pa, .int .i64 E5.pn, .int .i64 E5.c.k, .int .i64 E5.c.a, .int .i64 E5.c.n, .int .u64 E5.c.v, .int .u64 E5.c.x, .slice s5a s5l s5c, .int .u64 E5.x.v, .bool E5.x.d, .slice t5a t5l t5c] 66))
  have NK5 := Lib.hid ST5.out.2
  have K5 := Lib.hid k5
  have KP5 := Lib.hid kp5
  have bz5 : Below w5.heap.size w5 (w5.alloc (.cells #[.int .i64 E5.pk, .int .i64 E5.pa, .int .i64 E5.pn, .int .i64 E5.c.k, .int .i64 E5.c.a, .int .i64 E5.c.n, .int .u64 E5.c.v, .int .u64 E5.c.x, .slice s5a s5l s5c, .int .u64 E5.x.v, .bool E5.x.d, .slice t5a t5l t5c] 66)) := (Below.refl _ _).alloc (Nat.le_refl _) _
  have HA5 := Lib.hid (H5.out.below bz5)
  have EB5 := Lib.hid (show Blk (w5.alloc (.cells #[.int .i64 E5.pk, .int .i64 E5.pa, .int .i64 E5.pn, .int .i64 E5.c.k, .int .i64 E5.c.a, .int .i64 E5.c.n, .int .u64 E5.c.v, .int .u64 E5.c.x, .slice s5a s5l s5c, .int .u64 E5.x.v, .bool E5.x.d, .slice t5a t5l t5c] 66)) w5.heap.size [.int .i64 E5.pk, .int .i64 E5.pa, .int .i64 E5.pn, .int .i64 E5.c.k, .int .i64 E5.c.a, .int .i64 E5.c.n, .int .u64 E5.c.v, .int .u64 E5.c.x, .slice s5a s5l s5c, .int .u64 E5.x.v, .bool E5.x.d, .slice t5a t5l t5c] from Blk.made w5 _ _)
  clear h5 k5 kp5 e0 hE5 bz5
  go_wp2_with fail
  refine (wPick_any cpUntimed HA5.out 0 0 0 (by decide +kernel) (by decide +kernel) (by decide +kernel) (by decide +kernel) (by decide +kernel)).mono ?_
  rintro e w6 ⟨s6a, s6l, s6c, t6a, t6l, t6c, rfl, _, _, κ6, tv6, h6, k6, _, kp6⟩
  have e0 : (cpFam.M.pick f6S1 0 0 0).2.2 = 0 := FX.out.2.1
  rw [e0]
  obtain ⟨E6, hE6⟩ : ∃ E, E = (cpFam.M.pick f6S1 0 0 0).2.1 := ⟨_, rfl⟩
  rw [← hE6]
  have HE6 := Lib.hid hE6
  unfold evV
  have H6 := Lib.hid (show WoIn cpFam w6 κ6 W p c av tv6 ab f6S2 from h6)
  have ST6 := Lib.hid (step_bel BW5.out NK5.out kp6 k6)
  have BW6 := Lib.hid (ST6.out.1.alloc (by have := ST6.out.1.size; omega) (.cells #[.int .i64 E6.pk, .int .i64 E6.pa, .int .i64 E6.pn, .int .i64 E6.c.k, .int .i64 E6.c.a, .int .i64 E6.c.n, .int .u64 E6.c.v, .int .u64 E6.c.x, .slice s6a s6l s6c, .int .u64 E6.x.v, .bool E6.x.d, .slice t6a t6l t6c] 66))
  have NK6 := Lib.hid ST6.out.2
  have K6 := Lib.hid k6
  have KP6 := Lib.hid kp6
  have bz6 : Below w6.heap.size w6 (w6.alloc (.cells #[.int .i64 E6.pk, .int .i64 E6.pa, .int .i64 E6.pn, .int .i64 E6.c.k, .int .i64 E6.c.a, .int .i64 E6.c.n, .int .u64 E6.c.v, .int .u64 E6.c.x, .slice s6a s6l s6c, .int .u64 E6.x.v, .bool E6.x.d, .slice t6a t6l t6c] 66)) := (Below.refl _ _).alloc (Nat.le_refl _) _
  have HA6 := Lib.hid (H6.out.below bz6)
  have EB6 := Lib.hid (show Blk (w6.alloc (.cells #[.int .i64 E6.pk, .int .i64 E6.pa, .int .i64 E6.pn, .int .i64 E6.c.k, .int .i64 E6.c.a, .int .i64 E6.c.n, .int .u64 E6.c.v, .int .u64 E6.c.x, .slice s6a s6l s6c, .int .u64 E6.x.v, .bool E6.x.d, .slice t6a t6l t6c] 66)) w6.heap.size [.int .i64 E6.pk, .int .i64 E6.pa, .int .i64 E6.pn, .int .i64 E6.c.k, .int .i64 E6.c.a, .int .i64 E6.c.n, .int .u64 E6.c.v, .int .u64 E6.c.x, .slice s6a s6l s6c, .int .u64 E6.x.v, .bool E6.x.d, .slice t6a t6l t6c] from Blk.made w6 _ _)
  clear h6 k6 kp6 e0 hE6 bz6
  go_wp2_with fail
  refine (wPick_any cpUntimed HA6.out 0 2 0 (by decide +kernel) (by decide +kernel) (by decide +kernel) (by decide +kernel) (by decide +kernel)).mono ?_
  rintro e w7 ⟨s7a, s7l, s7c, t7a, t7l, t7c, rfl, _, _, κ7, tv7, h7, k7, _, kp7⟩
  have e0 : (cpFam.M.pick f6S2 0 2 0).2.2 = 2 := FX.out.2.2.2.1
  rw [e0]
  obtain ⟨E7, hE7⟩ : ∃ E, E = (cpFam.M.pick f6S2 0 2 0).2.1 := ⟨_, rfl⟩
  rw [← hE7]
  have HE7 := Lib.hid hE7
  unfold evV
  have H7 := Lib.hid (show WoIn cpFam w7 κ7 W p c av tv7 ab f6S3 from h7)
  have ST7 := Lib.hid (step_bel BW6.out NK6.out kp7 k7)
  have BW7 := Lib.hid (ST7.out.1.alloc (by have := ST7.out.1.size; omega) (.cells #[.int .i64 E7.pk, .int .i64 E7.pa, .int .i64 E7.pn, .int .i64 E7.c.k, .int .i64 E7.c.a, .int .i64 E7.c.n, .int .u64 E7.c.v, .int .u64 E7.c.x, .slice s7a s7l s7c, .int .u64 E7.x.v, .bool E7.x.d, .slice t7a t7l t7c] 66))
  have NK7 := Lib.hid ST7.out.2
  have K7 := Lib.hid k7
  have KP7 := Lib.hid kp7
  have bz7 : Below w7.heap.size w7 (w7.alloc (.cells #[.int .i64 E7.pk, .int .i64 E7.pa, .int .i64 E7.pn, .int .i64 E7.c.k, .int .i64 E7.c.a, .int .i64 E7.c.n, .int .u64 E7.c.v, .int .u64 E7.c.x, .slice s7a s7l s7c, .int .u64 E7.x.v, .bool E7.x.d, .slice t7a t7l t7c] 66)) := (Below.refl _ _).alloc (Nat.le_refl _) _
  have HA7 := Lib.hid (H7.out.below bz7)
  have EB7 := Lib.hid (show Blk (w7.alloc (.cells #[.int .i64 E7.pk, .int .i64 E7.pa, .int .i64 E7.pn, .int .i64 E7.c.k, .int .i64 E7.c.a, .int .i64 E7.c.n, .int .u64 E7.c.v, .int .u64 E7.c.x, .slice s7a s7l s7c, .int .u64 E7.x.v, .bool E7.x.d, .slice t7a t7l t7c] 66)) w7.heap.size [.int .i64 E7.pk, .int .i64 E7.pa, .int .i64 E7.pn, .int .i64 E7.c.k, .int .i64 E7.c.a, .int .i64 E7.c.n, .int .u64 E7.c.v, .int .u64 E7.c.x, .slice s7a s7l s7c, .int .u64 E7.x.v, .bool E7.x.d, .slice t7a t7l t7c] from Blk.made w7 _ _)
  clear h7 k7 kp7 e0 hE7 bz7
  go_wp2_with fail
  have n6 : κ6 w6.heap.size = .no := no_big H6.out (Nat.le_refl _)
  have n7 : κ7 w6.heap.size = .no := by rw [K7.out _ (by rw [World.size_alloc]; omega)]; exact n6
  have E7b := Lib.hid ((EB6.out.keep KP7.out (fun h => h n6)).below ((Below.refl w7.heap.size w7).alloc (Nat.le_refl _) (.cells #[.int .i64 E7.pk, .int .i64 E7.pa, .int .i64 E7.pn, .int .i64 E7.c.k, .int .i64 E7.c.a, .int .i64 E7.c.n, .int .u64 E7.c.v, .int .u64 E7.c.x, .slice s7a s7l s7c, .int .u64 E7.x.v, .bool E7.x.d, .slice t7a t7l t7c] 66)) (EB6.out.keep KP7.out (fun h => h n6)).lt)
  have e8 : E6.c.n = 8 := by rw [HE6.out]; exact FX.out.2.2.1
  rw [e8] at E7b
  refine (wRobin_any HA7.out 99 (by decide) (by decide +kernel) (by decide +kernel) (by decide +kernel) (by decide +kernel)).mono ?_
  rintro e w8 ⟨rfl, κ8, tv8, h8, k8, kp8⟩
  have er : (cpFam.M.robin 99 f6S3).2 = 1 := FX.out.2.2.2.2.1
  rw [er]
  have H8 := Lib.hid (show WoIn cpFam w8 κ8 W p c av tv8 ab f6S4 from h8)
  have E8 := Lib.hid (E7b.out.keep kp8 (fun h => h n7))
  have ST8 := Lib.hid (step_bel BW7.out NK7.out kp8 k8)
  have c5 := E8.out.cell 5
  simp only [List.getElem?_cons_zero, List.getElem?_cons_succ] at c5
  have hl6 := E8.out.lt
  clear h8 k8 kp8 er E7b n6 n7 EB5 EB6 EB7 HA5 HA6 HA7 H5 H6 H7 K5 K6 K7 KP5 KP6 KP7 ST5 ST6 ST7 BW5 BW6 BW7 NK5 NK6 NK7 BW4 NK4
  go_wp2_with fail
  refine (wClock_any H8.out).mono ?_
  rintro e w9 ⟨rfl, rfl⟩
  have ec : f6S4.clk = 5 := FX.out.2.2.2.2.2.1
  rw [ec]
  go_wp2_with fail
  refine (wEnded_any H8.out 0).mono ?_
  rintro e w9 ⟨rfl, b9⟩
  have ee : cpFam.M.ended f6S4 0 = true := FX.out.2.2.2.2.2.2.1
  rw [ee]
  have H9 := Lib.hid (H8.out.below b9)
  have B9 := Lib.hid (ST8.out.1.trans (b9.mono ST8.out.1.size))
  clear b9
  go_wp2_with fail
  refine (wEnded_any H9.out 1).mono ?_
  rintro e w10 ⟨rfl, b10⟩
  have ee : cpFam.M.ended f6S4 1 = true := FX.out.2.2.2.2.2.2.2.1
  rw [ee]
  have H10 := Lib.hid (H9.out.below b10)
  have B10 := Lib.hid (B9.out.trans (b10.mono B9.out.size))
  clear b10
  go_wp2_with fail
  refine (wDead_any H10.out 0).mono ?_
  rintro e w11 ⟨rfl, rfl⟩
  have ed : f6S4.dead 0 = false := FX.out.2.2.2.2.2.2.2.2.1
  rw [show SW.dead (σ := cpFam.M.σ) f6S4 0 = false from ed]
  go_wp2_with fail
  refine (wTrace_any H10.out (by decide +kernel) f6_len).mono ?_
  rintro e w11 ⟨v, rfl, hv, b11⟩
  obtain ⟨va, vc, rfl⟩ := hv.sl
  have et : f6S4.tr.length = 3 := FX.out.2.2.2.2.2.2.2.2.2
  rw [show List.length (SW.tr (σ := cpFam.M.σ) f6S4) = 3 from et]
  have B11 := Lib.hid (B10.out.trans (b11.mono B10.out.size))
  clear hv b11
  go_wp2
  go_ret
  exact ⟨rfl, B11.out⟩
end Go.Proofs.Ythaglmlkillhdaa
end
section
namespace Go.Proofs.Ythaglmlkillhdaa
set_option maxRecDepth 100000
open Go.RowKit
set_option linter.unusedVariables false
set_option linter.unusedSimpArgs false
set_option maxHeartbeats 400000 in
theorem made06_none (a : Option Addr) (cap : Nat) (w : World) :
    Calls Try.prog 26 #[.slice a 0 cap] w fun e w' => ∃ ov jv κ mv jc, e = .returned (.tuple #[ov, jv]) ∧ MadeTo w w' κ ov jv mv [] jc 0 := by
  go_enter Try.func26, Try.ntmps26
  go_wp2_with fail
  refine wp_loop_rounds 1 ?_
  rw [rounds_succ]
  go_wp2
  go_ret2
  exact ⟨_, _, fun _ => .no, fun _ => .nilIface, [], rfl, ⟨World.ownsRow_nil _ _ _ _, rfl, World.ownsRow_nil _ _ _ _, (fun g h => by cases h), (fun g h => by cases h), (fun i J h => by omega), (fun i J h => by omega), (fun b => .inl rfl), Below.refl _ _⟩⟩
theorem made06_any (v : Value) (Js : List JobV) (w : World) (hr : RdR w v 4 (Js.map JobV.cs)) (hJ : ∀ j ∈ Js, JobV.Ok w j) (hb : ∀ j ∈ Js, j.b.length ≤ 60) (hn : Js.length ≤ 100) :
    Calls Try.prog 26 #[v] w fun e w' => ∃ ov jv κ mv jc, e = .returned (.tuple #[ov, jv]) ∧ MadeTo w w' κ ov jv mv Js jc Js.length := by
  by_cases h0 : Js.length = 0
  · obtain rfl := List.eq_nil_of_length_eq_zero h0
    obtain ⟨a, c, rfl⟩ := hr.sl
    exact made06_none a c w
  · obtain ⟨g, off, cap, rfl, h1, h2, h3⟩ := hr.row (by rw [List.length_map]; omega)
    rw [List.length_map] at h1 ⊢
    exact made06_row g off cap Js w h3 h1 h2 hJ hb hn
set_option maxHeartbeats 400000 in
theorem wNew_none (C : Fam) (w : World) (κ : Nat → Kd) (p c : Nat) (cnt : Int) (bs : List Int) (a : Option Addr) (cap : Nat) (hBuf : Buf w p c cnt bs) (kp : κ p = .bu) (kc : κ c = .bu) (hall : ∀ k, κ k ≠ .no → k < w.heap.size) :
    Calls Try.prog 27 #[.pointer (some ⟨p, 0, none⟩), .slice a 0 cap] w fun e w' => ∃ W κ' av ab, e = .returned (.pointer (some ⟨W, 0, none⟩)) ∧ WoIn C w' κ' W p c av nilSl ab ⟨bs, cnt, [], 0, []⟩ ∧ (∀ i, i < w.heap.size → κ' i = κ i) ∧ w.heap.size ≤ W ∧ Below w.heap.size w w' := by
  have HBuf := Lib.hid hBuf
  have HA := Lib.hid hall
  have KP := Lib.hid kp
  have KC := Lib.hid kc
  clear hBuf hall kp kc
  go_enter Try.func27, Try.ntmps27
  go_wp2_with fail
  refine wp_loop_rounds 1 ?_
  rw [rounds_succ]
  go_wp2
  go_ret
  have hb : Below w.heap.size w (w.alloc (.cells #[.pointer (some ⟨p, 0, none⟩), .slice none 0 0, .int .i64 0, .slice none 0 0] 138)) := (Below.refl _ _).alloc (Nat.le_refl _) _
  have old : ∀ i, i < w.heap.size → (fun i => if i = w.heap.size then Kd.wo else κ i) i = κ i := fun i hi => if_neg (by omega)
  refine ⟨w.heap.size, fun i => if i = w.heap.size then .wo else κ i, .slice none 0 0, fun _ => 0, rfl, ⟨Blk.made w _ _, by simp, HBuf.out.belows hb, ?_, ?_, .inl ⟨rfl, rfl⟩, (fun i a h => by simp at h), ⟨[], rfl, World.ownsRow_nil _ _ _ _, (fun i h => by cases h), ⟨(fun e h => by cases h), (fun e h => by cases h), (fun e h => by cases h), (fun e h => by cases h)⟩⟩, ?_⟩, old, Nat.le_refl _, hb⟩
  · exact (old p HBuf.out.hd.lt).trans KP.out
  · exact (old c HBuf.out.wd.lt).trans KC.out
  · intro k hk
    split at hk
    · rw [World.size_alloc]
      omega
    · have := HA.out k hk
      rw [World.size_alloc]
      omega
/-- The world of layer 6's laws, at its start. -/
def s0J (bs : List Int) (Js : List JobV) : SW CpM := ⟨bs, 0, Js.map fun j => ⟨some j.mac, false⟩, 0, []⟩
def kdB (κ : Nat → Kd) (p c : Nat) : Nat → Kd := fun i => if i = p ∨ i = c then .bu else κ i
theorem new06 {w1 w2 : World} {κ : Nat → Kd} {ov jv : Value} {mv : Nat → Value} {Js : List JobV} {jc : List (List Value)} {p c : Nat} {bs : List Int} (hM : MadeTo w1 w2 κ ov jv mv Js jc Js.length) (hBuf : Buf w1 p c 0 bs) (hn : Js.length ≤ 1000) :
    Calls Try.prog 27 #[.pointer (some ⟨p, 0, none⟩), ov] w2 fun e w' => ∃ W κ' av ab, e = .returned (.pointer (some ⟨W, 0, none⟩)) ∧ WoIn cpFam w' κ' W p c av nilSl ab (s0J bs Js) ∧ (∀ i, i < w2.heap.size → κ' i = kdB κ p c i) ∧ w2.heap.size ≤ W ∧ Below w2.heap.size w2 w' := by
  have hpl := hBuf.hd.lt
  have hcl := hBuf.wd.lt
  have hB2 := hBuf.belows hM.bel
  have hsz := hM.bel.size
  have hall : ∀ k, kdB κ p c k ≠ .no → k < w2.heap.size := by
    intro k hk
    unfold kdB at hk
    split at hk
    · omega
    · rcases hM.kd k with h | ⟨_, _, h⟩
      · exact absurd h hk
      · exact h
  by_cases h0 : Js.length = 0
  · obtain rfl := List.eq_nil_of_length_eq_zero h0
    rcases hM.oo.2 with ⟨rfl, _⟩ | ⟨g, cap, cur, rfl, _⟩
    · exact wNew_none cpFam w2 (kdB κ p c) p c 0 bs none 0 hB2 (by simp [kdB]) (by simp [kdB]) hall
    · exact wNew_none cpFam w2 (kdB κ p c) p c 0 bs _ cap hB2 (by simp [kdB]) (by simp [kdB]) hall
  · rcases hM.oo.2 with ⟨_, e⟩ | ⟨g, cap, cur, rfl, _, _, h1, h2, _⟩
    · omega
    have hmv : ∀ i, i < Js.length → ∃ J q, Js[i]? = some J ∧ mv i = .iface 25 (.pointer (some ⟨q, 0, none⟩)) ∧ cpFam.inv w2 (fun b => κ b = .ma i) q J.mac := by
      intro i hi
      obtain ⟨q, e, hv⟩ := hM.mac i Js[i] hi (List.getElem?_eq_getElem hi)
      exact ⟨_, q, List.getElem?_eq_getElem hi, e, hv⟩
    refine (wNew_any cpFam w2 (kdB κ p c) p c 0 bs Js.length mv (Js.map fun j => some j.mac) g 0 cap (by omega) h1 h2 hB2 (by simp [kdB]) (by simp [kdB]) (by simp) (by omega) ?_ ?_ ?_ hall ?_).mono ?_
    · intro i hi
      have := World.ownsRow.cells hM.oo rfl i (mv i) (by simp [hi])
      have e : (⟨g, 0, none⟩ : Addr).add i = ⟨g, 0 + i, none⟩ := by unfold Addr.add; split <;> simp_all
      rwa [e] at this
    · intro i hi
      obtain ⟨J, q, _, e, _⟩ := hmv i hi
      rw [e]
      rfl
    · intro i m hm
      rw [List.getElem?_map] at hm
      obtain ⟨J, hJ, rfl⟩ := Option.map_eq_some_iff.1 hm
      have hi : i < Js.length := (List.getElem?_eq_some_iff.1 hJ).1
      obtain ⟨J', q, hJ', e, hv⟩ := hmv i hi
      rw [hJ] at hJ'
      obtain rfl := Option.some.inj hJ'
      refine ⟨q, e, cpFam.mono hv (fun b hb => ?_) (fun b hb => hall b (by rw [hb]; nofun))⟩
      unfold kdB
      rw [if_neg]
      · exact hb
      · have hbd : w1.heap.size ≤ b := by
          rcases hM.kd b with h | ⟨_, h, _⟩
          · rw [h] at hb
            cases hb
          · exact h
        omega
    · intro k i
      unfold kdB
      split
      · exact ⟨nofun, nofun, nofun, nofun, nofun⟩
      · rcases hM.kd k with h | ⟨⟨j, h, _⟩, _⟩
        · rw [h]
          exact ⟨nofun, nofun, nofun, nofun, nofun⟩
        · rw [h]
          exact ⟨nofun, nofun, nofun, nofun, nofun⟩
    · rintro e w' ⟨W, κ', av, ab, rfl, hW, hk, hs, hb⟩
      refine ⟨W, κ', av, ab, rfl, ?_, hk, hs, hb⟩
      have e : ((Js.map fun j => some j.mac).map fun m => (⟨m, false⟩ : Ac cpFam.M.σ)) = Js.map fun j => ⟨some j.mac, false⟩ := by
        rw [List.map_map]
        rfl
      rw [e] at hW
      exact hW
theorem JobV.Ok.below {w w' : World} {j : JobV} (h : JobV.Ok w j) (b : Below w.heap.size w w') : JobV.Ok w' j := ⟨h.k, h.a, h.n, h.s, h.r.below b, h.b⟩
theorem new_nk {w w1 w2 : World} {κ κ' : Nat → Kd} {ov jv : Value} {mv : Nat → Value} {Js : List JobV} {jc : List (List Value)} {p c : Nat} (hM : MadeTo w1 w2 κ ov jv mv Js jc Js.length) (h1 : w.heap.size ≤ w1.heap.size) (hp : w.heap.size ≤ p) (hc : w.heap.size ≤ c) (hk : ∀ i, i < w2.heap.size → κ' i = kdB κ p c i) : ∀ i, κ' i ≠ .no → w.heap.size ≤ i := by
  intro i hi
  have := hM.bel.size
  by_cases h : i < w2.heap.size
  · rw [hk i h] at hi
    unfold kdB at hi
    split at hi
    · omega
    · rcases hM.kd i with e | ⟨_, e, _⟩
      · exact absurd e hi
      · omega
  · omega
/-- What a pick counts. -/
theorem pick_cnt (M : Mac) (S : SW M.σ) (k a n : Int) : (M.pick S k a n).1.cnt = S.cnt ∨ ((M.pick S k a n).1.cnt = S.cnt + 1 ∧ k = 0 ∧ S.dead a = false ∧ (M.pick S k a n).2.2 = 0) := by
  unfold Mac.pick
  split
  · left
    unfold Mac.tick
    split
    · split <;> (try split) <;> rfl
    · rfl
  split
  · rename_i h01
    have key : (M.act S k a).1.cnt = S.cnt ∨ ((M.act S k a).1.cnt = S.cnt + 1 ∧ k = 0 ∧ S.dead a = false ∧ (M.act S k a).2.2 = 0) := by
      unfold Mac.act
      split
      · exact .inl rfl
      rename_i ha0
      have hat : S.at a = S.acts[a.toNat]? := by unfold SW.at; rw [if_neg ha0]
      cases hc : S.acts[a.toNat]? with
      | none => exact .inl rfl
      | some c =>
        have hdd : S.dead a = c.dead := by unfold SW.dead; rw [hat, hc]
        simp only []
        split
        · exact .inl rfl
        rename_i hd
        split
        · exact .inl rfl
        rename_i hk1
        unfold Mac.stepA
        cases c.m with
        | none => exact .inl rfl
        | some s =>
          simp only []
          split
          · exact .inl rfl
          split
          · exact .inr ⟨rfl, by omega, by rw [hdd]; simpa using hd, rfl⟩
          · exact .inl rfl
    rcases key with e | ⟨e, h1, h2, h3⟩
    · left
      split
      · exact e
      · exact e
    · right
      rw [if_pos h3]
      exact ⟨e, h1, h2, rfl⟩
  · exact .inl rfl
theorem pick_clk (M : Mac) (S : SW M.σ) (k a n : Int) : S.clk ≤ (M.pick S k a n).1.clk ∧ (M.pick S k a n).1.clk ≤ S.clk + 1099511627776 := by
  have hact : (M.act S k a).1.clk = S.clk := by
    unfold Mac.act
    split
    · rfl
    cases S.acts[a.toNat]? with
    | none => rfl
    | some c =>
      simp only []
      split
      · rfl
      split
      · rfl
      unfold Mac.stepA
      cases c.m with
      | none => rfl
      | some s =>
        simp only []
        split
        · rfl
        split <;> rfl
  unfold Mac.pick
  split
  · split
    · unfold Mac.tick
      split
      · exact ⟨Int.le_refl _, by dsimp only; omega⟩
      · exact ⟨by dsimp only; omega, by dsimp only; omega⟩
    · exact ⟨Int.le_refl _, by dsimp only; omega⟩
  split
  · split
    · exact ⟨by dsimp only; omega, by dsimp only; omega⟩
    · exact ⟨by dsimp only; omega, by dsimp only; omega⟩
  · exact ⟨Int.le_refl _, by dsimp only; omega⟩
/-- Where a row of picks stands. -/
structure PkAt (w wr : World) (W p c : Nat) (av : Value) (ab : Nat → Nat) (k : Nat) (κ : Nat → Kd) (tv : Value) (S : SW CpM) : Prop where
  wo : WoIn cpFam wr κ W p c av tv ab S
  nk : ∀ i, κ i ≠ .no → w.heap.size ≤ i
  bel : Below w.heap.size w wr
  c0 : 0 ≤ S.cnt
  c1 : S.cnt ≤ k
  t : S.tr.length ≤ k
  k0 : 0 ≤ S.clk
  k1 : S.clk ≤ k * 1099511627776
theorem PkAt.below {w wr w' : World} {W p c : Nat} {av : Value} {ab : Nat → Nat} {k : Nat} {κ : Nat → Kd} {tv : Value} {S : SW CpM} (h : PkAt w wr W p c av ab k κ tv S) (b : Below wr.heap.size wr w') : PkAt w w' W p c av ab k κ tv S :=
  ⟨h.wo.below b, h.nk, h.bel.trans (b.mono h.bel.size), h.c0, h.c1, h.t, h.k0, h.k1⟩
/-- A pick more. -/
theorem PkAt.pick {w wr w' : World} {W p c : Nat} {av : Value} {ab : Nat → Nat} {k : Nat} {κ κ' : Nat → Kd} {tv tv' : Value} {S : SW CpM} (h : PkAt w wr W p c av ab k κ tv S) (pk pa pn : Int) (hw : WoIn cpFam w' κ' W p c av tv' ab (cpMac.pick S pk pa pn).1) (hk : ∀ i, i < wr.heap.size → κ' i = κ i) (kp : Keep (fun i => κ i ≠ .no) wr w') : PkAt w w' W p c av ab (k + 1) κ' tv' (cpMac.pick S pk pa pn).1 := by
  have hf := pick_facts cpMac S pk pa pn
  have hc := pick_clk cpMac S pk pa pn
  obtain ⟨h1, h2⟩ := step_bel h.bel h.nk kp hk
  have a1 := h.c0
  have a2 := h.c1
  have a3 := h.t
  have a4 := h.k0
  have a5 := h.k1
  exact ⟨hw, h2, h1, by omega, by omega, by omega, by omega, by omega⟩
end Go.Proofs.Ythaglmlkillhdaa
end
