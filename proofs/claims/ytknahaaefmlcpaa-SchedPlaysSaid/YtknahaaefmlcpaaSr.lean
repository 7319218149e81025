/- The fixed facts of layer 6 hold. The setting of layer 6's laws: made, and a world over what it made; what a pick may count. Conditions: as each says. The contract of sched.World.Run. Conditions: few picks, no timed machine. ref02.Same and ref06.Same of equals. Conditions: as each says. Copies of a trace whose bytes are turned. Conditions: as each says. -/
import Derived.Test.YtknahaaefmlcpaaSp
import Derived.Test.YtknahaaefmlcpaaSq
import Derived.Lib.SlBytesConst
import Derived.Test.YtknahaaefmlcpaaTc
import Derived.Deep.RegionHeld3
section
section
section
namespace Go.Proofs.Ytknahaaefmlcpaa
set_option maxRecDepth 100000
open Go.RowKit
set_option linter.unusedVariables false
set_option linter.unusedSimpArgs false
def f6m : CpM := ⟨true, 0, [49, 50, 51, 52, 53, 54, 55, 56, 57], 0, []⟩
def f6S0 : SW CpM := ⟨List.replicate 64 0, 0, [⟨some f6m, false⟩, ⟨none, false⟩], 0, []⟩
def f6S1 : SW CpM := (cpMac.pick f6S0 2 0 5).1
def f6S2 : SW CpM := (cpMac.pick f6S1 0 0 0).1
def f6S3 : SW CpM := (cpMac.pick f6S2 0 2 0).1
def f6S4 : SW CpM := (cpMac.robin 99 f6S3).1
theorem f6_facts : (cpMac.pick f6S0 2 0 5).2.2 = 0 ∧ (cpMac.pick f6S1 0 0 0).2.2 = 0 ∧ (cpMac.pick f6S1 0 0 0).2.1.c.n = 8 ∧ (cpMac.pick f6S2 0 2 0).2.2 = 2 ∧ (cpMac.robin 99 f6S3).2 = 1 ∧ f6S4.clk = 5 ∧ cpMac.ended f6S4 0 = true ∧ cpMac.ended f6S4 1 = true ∧ f6S4.dead 0 = false ∧ f6S4.tr.length = 3 := by decide +kernel
theorem f6_bd : f6S1.cnt = 0 ∧ f6S2.cnt = 1 ∧ f6S3.cnt = 1 ∧ f6S1.clk = 5 ∧ f6S2.clk = 5 ∧ f6S1.tr.length = 1 ∧ f6S2.tr.length = 2 ∧ f6S3.tr.length = 2 ∧ f6S3.acts.length = 2 := by decide +kernel
theorem f6_len : ∀ e ∈ f6S4.tr, e.c.b.length ≤ 70368744177664 ∧ e.x.b.length ≤ 70368744177664 := by decide +kernel
theorem mNew_lit6 (size : Int) (k : Nat) (w : World) (hs : size = 8 * (k : Int)) (h1 : 1 ≤ k) (h2 : k ≤ 16384) :
    Calls Try.prog 6 #[.int .i64 size] w fun e w' => ∃ p c, e = .returned (.tuple #[.pointer (some ⟨p, 0, none⟩), .int .i64 0]) ∧ Buf w' p c 0 (List.replicate (8 * k) 0) ∧ w.heap.size ≤ p ∧ w.heap.size ≤ c ∧ Below w.heap.size w w' := by
  subst hs
  exact mNew_any k w h1 h2
theorem f6_fine : CpM.Fine f6m := ⟨by intro x hx; simp [f6m] at hx; omega, by decide, by decide, by decide, by decide, by decide⟩
theorem missing_one (nm : String) (T : TypeId) (got : Array Method) (h : (got.any fun m => m.name == nm && m.sig == T) = false) : ∃ m, Instr.missingMethod #[(nm, T)] got = some m := by
  unfold Instr.missingMethod
  simp only [List.filter_cons, List.filter_nil, h, Bool.not_false, if_true, List.map_cons, List.map_nil]
  by_cases hc : nm.contains '.' = true
  · simp [List.partition, List.partition.loop, hc, Instr.least]
  · simp [List.partition, List.partition.loop, hc, Instr.least]
theorem cpNoTick (b : Nat) (w : World) : ((Instr.typeAssert (.iface 84 (.pointer (some ⟨b, 0, none⟩))) 99 154 true).run Try.prog w) = .ok (.tuple #[.nilIface, .bool false]) w := by
  obtain ⟨m, hm⟩ := missing_one "Tick" 156 Try.t84.methods (by decide +kernel)
  have hz : ∀ w, (zeroValue 154).run Try.prog w = .ok .nilIface w := fun w => by kernel_rfl
  unfold Instr.typeAssert
  go_simp
theorem cpUntimed : Untimed cpFam := fun s b w => cpNoTick b w
theorem step_bel {w w4 w5 : World} {κ κ5 : Nat → Kd} (BW : Below w.heap.size w w4) (NK : ∀ i, κ i ≠ .no → w.heap.size ≤ i) (kp : Keep (fun i => κ i ≠ .no) w4 w5) (k5 : ∀ i, i < w4.heap.size → κ5 i = κ i) : Below w.heap.size w w5 ∧ ∀ i, κ5 i ≠ .no → w.heap.size ≤ i := by
  refine ⟨BW.trans (kp.below BW.size (fun i hi h => by have := NK i h; omega)), fun i hi => ?_⟩
  by_cases h : i < w4.heap.size
  · rw [k5 i h] at hi
    exact NK i hi
  · have := BW.size
    omega
/-- What blocks are for where a world is about to be made over the buffer and one machine's blocks. -/
def kd1 (p c lo hi : Nat) : Nat → Kd := fun i => if i = p ∨ i = c then .bu else if lo ≤ i ∧ i < hi then .ma 0 else .no
set_option maxHeartbeats 2000000 in
theorem fixed06_any (w : World) : Calls Try.prog 5 #[] w fun e w' => e = .returned (.bool true) ∧ Below w.heap.size w w' := by
  have kc := fun (w : World) (C : Array Value) (n c : Nat) => Lib.run_convert_bytes_const (P := Try.prog) w 26 5 C n c Try.underlying26 Try.underlying5
  have FX := Lib.hid f6_facts
  have FB := Lib.hid f6_bd
  go_enter Try.func5, Try.ntmps5
  go_wp2_with fail
  refine (mNew_lit6 64 8 _ (by decide) (by decide) (by decide)).mono ?_
  rintro e w1 ⟨p, c, rfl, hb1, hp, hc, b1⟩
  have hl : RdB (w1.alloc (Obj.cells #[.int .u8 49, .int .u8 50, .int .u8 51, .int .u8 52, .int .u8 53, .int .u8 54, .int .u8 55, .int .u8 56, .int .u8 57] 5 (9, 10))) (.slice (some ⟨w1.heap.size, 0, none⟩) 9 9) f6m.l := by
    refine RdB.cells (by decide) (by decide) (by unfold maxLen; omega) fun i hi => ?_
    rw [World.cell?, (MapKept.heap_alloc w1 _).1, Nat.zero_add]
    match i, hi with
    | 0, _ | 1, _ | 2, _ | 3, _ | 4, _ | 5, _ | 6, _ | 7, _ | 8, _ => rfl
  have HL := Lib.hid hl
  have HB1 := Lib.hid hb1
  have B1 := Lib.hid b1
  have z1 := b1.size
  clear hl hb1 b1
  go_wp2_with fail
  refine (mkIn 0 (some ⟨w1.heap.size, 0, none⟩) 9 9 f6m.l _ HL.out (by decide)).mono ?_
  rintro e w2 ⟨q, rfl, b2, cp⟩
  have zz := b2.size
  rw [World.size_alloc] at zz
  have CP := Lib.hid cp
  have B2 := Lib.hid b2
  clear cp b2
  rw [World.size_alloc] at CP
  have key : Calls Try.prog 8 #[.pointer (some ⟨p, 0, none⟩), .slice (some ⟨w2.heap.size, 0, none⟩) 2 2] (w2.alloc (Obj.cells #[.iface 84 (.pointer (some ⟨q, 0, none⟩)), .nilIface] 99)) fun e w' => ∃ W κ' av ab, e = .returned (.pointer (some ⟨W, 0, none⟩)) ∧ WoIn cpFam w' κ' W p c av nilSl ab f6S0 ∧ w2.heap.size ≤ W ∧ (∀ i, i < w2.heap.size + 1 → κ' i = kd1 p c (w1.heap.size + 1) w2.heap.size i) ∧ Below (w2.heap.size + 1) (w2.alloc (Obj.cells #[.iface 84 (.pointer (some ⟨q, 0, none⟩)), .nilIface] 99)) w' := by
    obtain ⟨w3, hw3⟩ : ∃ w3, w3 = w2.alloc (Obj.cells #[.iface 84 (.pointer (some ⟨q, 0, none⟩)), .nilIface] 99) := ⟨_, rfl⟩
    have b3 : Below w2.heap.size w2 w3 := by rw [hw3]; exact (Below.refl _ _).alloc (Nat.le_refl _) _
    have hb3 : Blk w3 w2.heap.size [.iface 84 (.pointer (some ⟨q, 0, none⟩)), .nilIface] := by rw [hw3]; exact Blk.made w2 _ _
    have z3 : w3.heap.size = w2.heap.size + 1 := by rw [hw3]; simp
    rw [← hw3]
    have b13 : Below w1.heap.size w1 w3 := (((Below.refl _ w1).alloc (Nat.le_refl _) _).trans (B2.out.mono (by rw [World.size_alloc]; omega))).trans (b3.mono (by omega))
    have hpl := HB1.out.hd.lt
    have hcl := HB1.out.wd.lt
    refine (wNew_any cpFam w3 (kd1 p c (w1.heap.size + 1) w2.heap.size) p c 0 (List.replicate 64 0) 2 (fun i => if i = 0 then .iface 84 (.pointer (some ⟨q, 0, none⟩)) else .nilIface) [some f6m, none] w2.heap.size 0 2 (by decide) (by decide) (by unfold maxLen; omega) (HB1.out.belows b13) (by simp [kd1]) (by simp [kd1]) rfl (by decide) ?_ ?_ ?_ ?_ ?_).mono ?_
    · intro i hi
      match i, hi with
      | 0, _ => exact hb3.cell 0
      | 1, _ => exact hb3.cell 1
    · intro i hi
      match i, hi with
      | 0, _ => rfl
      | 1, _ => rfl
    · intro i m hm
      match i, hm with
      | 0, hm =>
        cases (show some (some f6m) = some m from hm)
        refine ⟨q, rfl, ⟨(CP.out.keep (Below.keeps (M := fun _ => False) b3) (fun _ _ => id)).mono ?_ ?_, ?_⟩⟩
        · intro j hj
          unfold kd1
          rw [if_neg (by omega), if_pos hj]
        · intro j hj
          unfold kd1 at hj
          split at hj
          · cases hj
          split at hj
          · omega
          · cases hj
        · exact f6_fine
      | 1, hm =>
        cases (show some none = some m from hm)
        rfl
      | i + 2, hm => simp at hm
    · intro k hk
      unfold kd1 at hk
      split at hk
      · omega
      split at hk
      · omega
      · exact absurd rfl hk
    · intro k i
      unfold kd1
      split
      · exact ⟨nofun, nofun, nofun, nofun, nofun⟩
      split
      · exact ⟨nofun, nofun, nofun, nofun, nofun⟩
      · exact ⟨nofun, nofun, nofun, nofun, nofun⟩
    · rintro e w' ⟨W, κ', av, ab, rfl, h1, h2, h3, h4⟩
      rw [z3] at h2 h3 h4
      exact ⟨W, κ', av, ab, rfl, h1, by omega, h2, h4⟩
  have KEY := Lib.hid key
  clear key
  go_wp2_with fail
  refine KEY.out.mono ?_
  rintro e w4 ⟨W, κ, av, ab, rfl, hW, hWs, hκ, b4⟩
  have BW : Below w.heap.size w w4 := ((B1.out.trans (((Below.refl w1.heap.size w1).alloc (Nat.le_refl _) _).mono z1)).trans (B2.out.mono (by rw [World.size_alloc]; omega))).trans ((((Below.refl w2.heap.size w2).alloc (Nat.le_refl _) _).mono (by omega)).trans (b4.mono (by omega)))
  have HW := Lib.hid hW
  have BW := Lib.hid BW
  have HK := Lib.hid hκ
  have hz4 : w2.heap.size + 1 ≤ w4.heap.size := by have := b4.size; rw [World.size_alloc] at this; exact this
  have nk : ∀ i, κ i ≠ .no → w.heap.size ≤ i := by
    intro i hi
    by_cases h : i < w2.heap.size + 1
    · rw [hκ i h] at hi
      unfold kd1 at hi
      split at hi
      · omega
      split at hi
      · omega
      · exact absurd rfl hi
    · omega
  have NK := Lib.hid nk
  clear hW hκ b4 nk KEY CP B2 HL
  go_wp2_with fail
  have BW4 := BW
  have NK4 := NK
  refine (wPick_any cpUntimed HW.out 2 0 5 (by decide +kernel) (by decide +kernel) (by decide +kernel) (by decide +kernel) (by decide +kernel)).mono ?_
  rintro e w5 ⟨s5a, s5l, s5c, t5a, t5l, t5c, rfl, _, _, κ5, tv5, h5, k5, _, kp5⟩
  have e0 : (cpFam.M.pick f6S0 2 0 5).2.2 = 0 := FX.out.1
  rw [e0]
  obtain ⟨E5, hE5⟩ : ∃ E, E = (cpFam.M.pick f6S0 2 0 5).2.1 := ⟨_, rfl⟩
  rw [← hE5]
  have HE5 := Lib.hid hE5
  unfold evV
  have H5 := Lib.hid (show WoIn cpFam w5 κ5 W p c av tv5 ab f6S1 from h5)
  have ST5 := Lib.hid (step_bel BW4.out NK4.out kp5 k5)
  have BW5 := Lib.hid (ST5.out.1.alloc (by have := ST5.out.1.size; omega) (.cells #[.int .i64 E5.pk, .int .i64 E5.pa, .int .i64 E5.pn, .int .i64 E5.c.k, .int .i64 E5.c.a, .int .i64 E5.c.n, .int .u64 E5.c.v, .int .u64 E5.c.x, .slice s5a s5l s5c, .int .u64 E5.x.v, .bool E5.x.d, .slice t5a t5l t5c] 51))
  have NK5 := Lib.hid ST5.out.2
  have K5 := Lib.hid k5
  have KP5 := Lib.hid kp5
  have bz5 : Below w5.heap.size w5 (w5.alloc (.cells #[.int .i64 E5.pk, .int .i64 E5.pa, .int .i64 E5.pn, .int .i64 E5.c.k, .int .i64 E5.c.a, .int .i64 E5.c.n, .int .u64 E5.c.v, .int .u64 E5.c.x, .slice s5a s5l s5c, .int .u64 E5.x.v, .bool E5.x.d, .slice t5a t5l t5c] 51)) := (Below.refl _ _).alloc (Nat.le_refl _) _
  have HA5 := Lib.hid (H5.out.below bz5)
  have EB5 := Lib.hid (show Blk (w5.alloc (.cells #[.int .i64 E5.pk, .int .i64 E5.pa, .int .i64 E5.pn, .int .i64 E5.c.k, .int .i64 E5.c.a, .int .i64 E5.c.n, .int .u64 E5.c.v, .int .u64 E5.c.x, .slice s5a s5l s5c, .int .u64 E5.x.v, .bool E5.x.d, .slice t5a t5l t5c] 51)) w5.heap.size [.int .i64 E5.pk, .int .i64 E5.pa, .int .i64 E5.pn, .int .i64 E5.c.k, .int .i64 E5.c.a, .int .i64 E5.c.n, .int .u64 E5.c.v, .int .u64 E5.c.x, .slice s5a s5l s5c, .int .u64 E5.x.v, .bool E5.x.d, .slice t5a t5l t5c] from Blk.made w5 _ _)
  clear h5 k5 kp5 e0 hE5 bz5
  go_wp2_with fail
  refine (wPick_any cpUntimed HA5.out 0 0 0 (by decide +kernel) (by decide +kernel) (by decide +kernel) (by decide +kernel) (by decide +kernel)).mono ?_
  rintro e w6 ⟨s6a, s6l, s6c, t6a, t6l, t6c, rfl, _, _, κ6, tv6, h6, k6, _, kp6⟩
  have e0 : (cpFam.M.pick f6S1 0 0 0).2.2 = 0 := FX.out.2.1
  rw [e0]
  obtain ⟨E6, hE6⟩ : ∃ E, E = (cpFam.M.pick f6S1 0 0 0).2.1 := ⟨_, rfl⟩
  rw [← hE6]
  have HE6 := Lib.hid hE6
  unfold evV
  have H6 := Lib.hid (show WoIn cpFam w6 κ6 W p c av tv6 ab f6S2 from h6)
  have ST6 := Lib.hid (step_bel BW5.out NK5.out kp6 k6)
  have BW6 := Lib.hid (ST6.out.1.alloc (by have := ST6.out.1.size; omega) (.cells #[.int .i64 E6.pk, .int .i64 E6.pa, .int .i64 E6.pn, .int .i64 E6.c.k, .int .i64 E6.c.a, .int .i64 E6.c.n, .int .u64 E6.c.v, .int .u64 E6.c.x, .slice s6a s6l s6c, .int .u64 E6.x.v, .bool E6.x.d, .slice t6a t6l t6c] 51))
  have NK6 := Lib.hid ST6.out.2
  have K6 := Lib.hid k6
  have KP6 := Lib.hid kp6
  have bz6 : Below w6.heap.size w6 (w6.alloc (.cells #[.int .i64 E6.pk, .int .i64 E6.pa, .int .i64 E6.pn, .int .i64 E6.c.k, .int .i64 E6.c.a, .int .i64 E6.c.n, .int .u64 E6.c.v, .int .u64 E6.c.x, .slice s6a s6l s6c, .int .u64 E6.x.v, .bool E6.x.d, .slice t6a t6l t6c] 51)) := (Below.refl _ _).alloc (Nat.le_refl _) _
  have HA6 := Lib.hid (H6.out.below bz6)
  have EB6 := Lib.hid (show Blk (w6.alloc (.cells #[.int .i64 E6.pk, .int .i64 E6.pa, .int .i64 E6.pn, .int .i64 E6.c.k, .int .i64 E6.c.a, .int .i64 E6.c.n, .int .u64 E6.c.v, .int .u64 E6.c.x, .slice s6a s6l s6c, .int .u64 E6.x.v, .bool E6.x.d, .slice t6a t6l t6c] 51)) w6.heap.size [.int .i64 E6.pk, .int .i64 E6.pa, .int .i64 E6.pn, .int .i64 E6.c.k, .int .i64 E6.c.a, .int .i64 E6.c.n, .int .u64 E6.c.v, .int .u64 E6.c.x, .slice s6a s6l s6c, .int .u64 E6.x.v, .bool E6.x.d, .slice t6a t6l t6c] from Blk.made w6 _ _)
  clear h6 k6 kp6 e0 hE6 bz6
  go_wp2_with fail
  refine (wPick_any cpUntimed HA6.out 0 2 0 (by decide +kernel) (by decide +kernel) (by decide +kernel) (by decide +kernel) (by decide +kernel)).mono ?_
  rintro e w7 ⟨s7a, s7l, s7c, t7a, t7l, t7c, rfl, _, _, κ7, tv7, h7, k7, _, kp7⟩
  have e0 : (cpFam.M.pick f6S2 0 2 0).2.2 = 2 := FX.out.2.2.2.1
  rw [e0]
  obtain ⟨E7, hE7⟩ : ∃ E, E = (cpFam.M.pick f6S2 0 2 0).2.1 := ⟨_, rfl⟩
  rw [← hE7]
  have HE7 := Lib.hid hE7
  unfold evV
  have H7 := Lib.hid (show WoIn cpFam w7 κ7 W p c av tv7 ab f6S3 from h7)
  have ST7 := Lib.hid (step_bel BW6.out NK6.out kp7 k7)
  have BW7 := Lib.hid (ST7.out.1.alloc (by have := ST7.out.1.size; omega) (.cells #[.int .i64 E7.pk, .int .i64 E7.pa, .int .i64 E7.pn, .int .i64 E7.c.k, .int .i64 E7.c.a, .int .i64 E7.c.n, .int .u64 E7.c.v, .int .u64 E7.c.x, .slice s7a s7l s7c, .int .u64 E7.x.v, .bool E7.x.d, .slice t7a t7l t7c] 51))
  have NK7 := Lib.hid ST7.out.2
  have K7 := Lib.hid k7
  have KP7 := Lib.hid kp7
  have bz7 : Below w7.heap.size w7 (w7.alloc (.cells #[.int .i64 E7.pk, .int .i64 E7.pa, .int .i64 E7.pn, .int .i64 E7.c.k, .int .i64 E7.c.a, .int .i64 E7.c.n, .int .u64 E7.c.v, .int .u64 E7.c.x, .slice s7a s7l s7c, .int .u64 E7.x.v, .bool E7.x.d, .slice t7a t7l t7c] 51)) := (Below.refl _ _).alloc (Nat.le_refl _) _
  have HA7 := Lib.hid (H7.out.below bz7)
  have EB7 := Lib.hid (show Blk (w7.alloc (.cells #[.int .i64 E7.pk, .int .i64 E7.pa, .int .i64 E7.pn, .int .i64 E7.c.k, .int .i64 E7.c.a, .int .i64 E7.c.n, .int .u64 E7.c.v, .int .u64 E7.c.x, .slice s7a s7l s7c, .int .u64 E7.x.v, .bool E7.x.d, .slice t7a t7l t7c] 51)) w7.heap.size [.int .i64 E7.pk, .int .i64 E7.pa, .int .i64 E7.pn, .int .i64 E7.c.k, .int .i64 E7.c.a, .int .i64 E7.c.n, .int .u64 E7.c.v, .int .u64 E7.c.x, .slice s7a s7l s7c, .int .u64 E7.x.v, .bool E7.x.d, .slice t7a t7l t7c] from Blk.made w7 _ _)
  clear h7 k7 kp7 e0 hE7 bz7
  go_wp2_with fail
  have n6 : κ6 w6.heap.size = .no := no_big H6.out (Nat.le_refl _)
  have n7 : κ7 w6.heap.size = .no := by rw [K7.out _ (by rw [World.size_alloc]; omega)]; exact n6
  have E7b := Lib.hid ((EB6.out.keep KP7.out (fun h => h n6)).below ((Below.refl w7.heap.size w7).alloc (Nat.le_refl _) (.cells #[.int .i64 E7.pk, .int .i64 E7.pa, .int .i64 E7.pn, .int .i64 E7.c.k, .int .i64 E7.c.a, .int .i64 E7.c.n, .int .u64 E7.c.v, .int .u64 E7.c.x, .slice s7a s7l s7c, .int .u64 E7.x.v, .bool E7.x.d, .slice t7a t7l t7c] 51)) (EB6.out.keep KP7.out (fun h => h n6)).lt)
  have e8 : E6.c.n = 8 := by rw [HE6.out]; exact FX.out.2.2.1
  rw [e8] at E7b
  refine (wRobin_any HA7.out 99 (by decide) (by decide +kernel) (by decide +kernel) (by decide +kernel) (by decide +kernel)).mono ?_
  rintro e w8 ⟨rfl, κ8, tv8, h8, k8, kp8⟩
  have er : (cpFam.M.robin 99 f6S3).2 = 1 := FX.out.2.2.2.2.1
  rw [er]
  have H8 := Lib.hid (show WoIn cpFam w8 κ8 W p c av tv8 ab f6S4 from h8)
  have E8 := Lib.hid (E7b.out.keep kp8 (fun h => h n7))
  have ST8 := Lib.hid (step_bel BW7.out NK7.out kp8 k8)
  have c5 := E8.out.cell 5
  simp only [List.getElem?_cons_zero, List.getElem?_cons_succ] at c5
  have hl6 := E8.out.lt
  clear h8 k8 kp8 er E7b n6 n7 EB5 EB6 EB7 HA5 HA6 HA7 H5 H6 H7 K5 K6 K7 KP5 KP6 KP7 ST5 ST6 ST7 BW5 BW6 BW7 NK5 NK6 NK7 BW4 NK4
  go_wp2_with fail
  refine (wClock_any H8.out).mono ?_
  rintro e w9 ⟨rfl, rfl⟩
  have ec : f6S4.clk = 5 := FX.out.2.2.2.2.2.1
  rw [ec]
  go_wp2_with fail
  refine (wEnded_any H8.out 0).mono ?_
  rintro e w9 ⟨rfl, b9⟩
  have ee : cpFam.M.ended f6S4 0 = true := FX.out.2.2.2.2.2.2.1
  rw [ee]
  have H9 := Lib.hid (H8.out.below b9)
  have B9 := Lib.hid (ST8.out.1.trans (b9.mono ST8.out.1.size))
  clear b9
  go_wp2_with fail
  refine (wEnded_any H9.out 1).mono ?_
  rintro e w10 ⟨rfl, b10⟩
  have ee : cpFam.M.ended f6S4 1 = true := FX.out.2.2.2.2.2.2.2.1
  rw [ee]
  have H10 := Lib.hid (H9.out.below b10)
  have B10 := Lib.hid (B9.out.trans (b10.mono B9.out.size))
  clear b10
  go_wp2_with fail
  refine (wDead_any H10.out 0).mono ?_
  rintro e w11 ⟨rfl, rfl⟩
  have ed : f6S4.dead 0 = false := FX.out.2.2.2.2.2.2.2.2.1
  rw [show SW.dead (σ := cpFam.M.σ) f6S4 0 = false from ed]
  go_wp2_with fail
  refine (wTrace_any H10.out (by decide +kernel) f6_len).mono ?_
  rintro e w11 ⟨v, rfl, hv, b11⟩
  obtain ⟨va, vc, rfl⟩ := hv.sl
  have et : f6S4.tr.length = 3 := FX.out.2.2.2.2.2.2.2.2.2
  rw [show List.length (SW.tr (σ := cpFam.M.σ) f6S4) = 3 from et]
  have B11 := Lib.hid (B10.out.trans (b11.mono B10.out.size))
  clear hv b11
  go_wp2
  go_ret
  exact ⟨rfl, B11.out⟩
end Go.Proofs.Ytknahaaefmlcpaa
end
section
namespace Go.Proofs.Ytknahaaefmlcpaa
set_option maxRecDepth 100000
open Go.RowKit
set_option linter.unusedVariables false
set_option linter.unusedSimpArgs false
set_option maxHeartbeats 400000 in
theorem made06_none (a : Option Addr) (cap : Nat) (w : World) :
    Calls Try.prog 7 #[.slice a 0 cap] w fun e w' => ∃ ov jv κ mv jc, e = .returned (.tuple #[ov, jv]) ∧ MadeTo w w' κ ov jv mv [] jc 0 := by
  go_enter Try.func7, Try.ntmps7
  go_wp2_with fail
  refine wp_loop_rounds 1 ?_
  rw [rounds_succ]
  go_wp2
  go_ret2
  exact ⟨_, _, fun _ => .no, fun _ => .nilIface, [], rfl, ⟨World.ownsRow_nil _ _ _ _, rfl, World.ownsRow_nil _ _ _ _, (fun g h => by cases h), (fun g h => by cases h), (fun i J h => by omega), (fun i J h => by omega), (fun b => .inl rfl), Below.refl _ _⟩⟩
theorem made06_any (v : Value) (Js : List JobV) (w : World) (hr : RdR w v 4 (Js.map JobV.cs)) (hJ : ∀ j ∈ Js, JobV.Ok w j) (hb : ∀ j ∈ Js, j.b.length ≤ 60) (hn : Js.length ≤ 100) :
    Calls Try.prog 7 #[v] w fun e w' => ∃ ov jv κ mv jc, e = .returned (.tuple #[ov, jv]) ∧ MadeTo w w' κ ov jv mv Js jc Js.length := by
  by_cases h0 : Js.length = 0
  · obtain rfl := List.eq_nil_of_length_eq_zero h0
    obtain ⟨a, c, rfl⟩ := hr.sl
    exact made06_none a c w
  · obtain ⟨g, off, cap, rfl, h1, h2, h3⟩ := hr.row (by rw [List.length_map]; omega)
    rw [List.length_map] at h1 ⊢
    exact made06_row g off cap Js w h3 h1 h2 hJ hb hn
set_option maxHeartbeats 400000 in
theorem wNew_none (C : Fam) (w : World) (κ : Nat → Kd) (p c : Nat) (cnt : Int) (bs : List Int) (a : Option Addr) (cap : Nat) (hBuf : Buf w p c cnt bs) (kp : κ p = .bu) (kc : κ c = .bu) (hall : ∀ k, κ k ≠ .no → k < w.heap.size) :
    Calls Try.prog 8 #[.pointer (some ⟨p, 0, none⟩), .slice a 0 cap] w fun e w' => ∃ W κ' av ab, e = .returned (.pointer (some ⟨W, 0, none⟩)) ∧ WoIn C w' κ' W p c av nilSl ab ⟨bs, cnt, [], 0, []⟩ ∧ (∀ i, i < w.heap.size → κ' i = κ i) ∧ w.heap.size ≤ W ∧ Below w.heap.size w w' := by
  have HBuf := Lib.hid hBuf
  have HA := Lib.hid hall
  have KP := Lib.hid kp
  have KC := Lib.hid kc
  clear hBuf hall kp kc
  go_enter Try.func8, Try.ntmps8
  go_wp2_with fail
  refine wp_loop_rounds 1 ?_
  rw [rounds_succ]
  go_wp2
  go_ret
  have hb : Below w.heap.size w (w.alloc (.cells #[.pointer (some ⟨p, 0, none⟩), .slice none 0 0, .int .i64 0, .slice none 0 0] 97)) := (Below.refl _ _).alloc (Nat.le_refl _) _
  have old : ∀ i, i < w.heap.size → (fun i => if i = w.heap.size then Kd.wo else κ i) i = κ i := fun i hi => if_neg (by omega)
  refine ⟨w.heap.size, fun i => if i = w.heap.size then .wo else κ i, .slice none 0 0, fun _ => 0, rfl, ⟨Blk.made w _ _, by simp, HBuf.out.belows hb, ?_, ?_, .inl ⟨rfl, rfl⟩, (fun i a h => by simp at h), ⟨[], rfl, World.ownsRow_nil _ _ _ _, (fun i h => by cases h), ⟨(fun e h => by cases h), (fun e h => by cases h), (fun e h => by cases h), (fun e h => by cases h)⟩⟩, ?_⟩, old, Nat.le_refl _, hb⟩
  · exact (old p HBuf.out.hd.lt).trans KP.out
  · exact (old c HBuf.out.wd.lt).trans KC.out
  · intro k hk
    split at hk
    · rw [World.size_alloc]
      omega
    · have := HA.out k hk
      rw [World.size_alloc]
      omega
/-- The world of layer 6's laws, at its start. -/
def s0J (bs : List Int) (Js : List JobV) : SW CpM := ⟨bs, 0, Js.map fun j => ⟨some j.mac, false⟩, 0, []⟩
def kdB (κ : Nat → Kd) (p c : Nat) : Nat → Kd := fun i => if i = p ∨ i = c then .bu else κ i
theorem new06 {w1 w2 : World} {κ : Nat → Kd} {ov jv : Value} {mv : Nat → Value} {Js : List JobV} {jc : List (List Value)} {p c : Nat} {bs : List Int} (hM : MadeTo w1 w2 κ ov jv mv Js jc Js.length) (hBuf : Buf w1 p c 0 bs) (hn : Js.length ≤ 1000) :
    Calls Try.prog 8 #[.pointer (some ⟨p, 0, none⟩), ov] w2 fun e w' => ∃ W κ' av ab, e = .returned (.pointer (some ⟨W, 0, none⟩)) ∧ WoIn cpFam w' κ' W p c av nilSl ab (s0J bs Js) ∧ (∀ i, i < w2.heap.size → κ' i = kdB κ p c i) ∧ w2.heap.size ≤ W ∧ Below w2.heap.size w2 w' := by
  have hpl := hBuf.hd.lt
  have hcl := hBuf.wd.lt
  have hB2 := hBuf.belows hM.bel
  have hsz := hM.bel.size
  have hall : ∀ k, kdB κ p c k ≠ .no → k < w2.heap.size := by
    intro k hk
    unfold kdB at hk
    split at hk
    · omega
    · rcases hM.kd k with h | ⟨_, _, h⟩
      · exact absurd h hk
      · exact h
  by_cases h0 : Js.length = 0
  · obtain rfl := List.eq_nil_of_length_eq_zero h0
    rcases hM.oo.2 with ⟨rfl, _⟩ | ⟨g, cap, cur, rfl, _⟩
    · exact wNew_none cpFam w2 (kdB κ p c) p c 0 bs none 0 hB2 (by simp [kdB]) (by simp [kdB]) hall
    · exact wNew_none cpFam w2 (kdB κ p c) p c 0 bs _ cap hB2 (by simp [kdB]) (by simp [kdB]) hall
  · rcases hM.oo.2 with ⟨_, e⟩ | ⟨g, cap, cur, rfl, _, _, h1, h2, _⟩
    · omega
    have hmv : ∀ i, i < Js.length → ∃ J q, Js[i]? = some J ∧ mv i = .iface 84 (.pointer (some ⟨q, 0, none⟩)) ∧ cpFam.inv w2 (fun b => κ b = .ma i) q J.mac := by
      intro i hi
      obtain ⟨q, e, hv⟩ := hM.mac i Js[i] hi (List.getElem?_eq_getElem hi)
      exact ⟨_, q, List.getElem?_eq_getElem hi, e, hv⟩
    refine (wNew_any cpFam w2 (kdB κ p c) p c 0 bs Js.length mv (Js.map fun j => some j.mac) g 0 cap (by omega) h1 h2 hB2 (by simp [kdB]) (by simp [kdB]) (by simp) (by omega) ?_ ?_ ?_ hall ?_).mono ?_
    · intro i hi
      have := World.ownsRow.cells hM.oo rfl i (mv i) (by simp [hi])
      have e : (⟨g, 0, none⟩ : Addr).add i = ⟨g, 0 + i, none⟩ := by unfold Addr.add; split <;> simp_all
      rwa [e] at this
    · intro i hi
      obtain ⟨J, q, _, e, _⟩ := hmv i hi
      rw [e]
      rfl
    · intro i m hm
      rw [List.getElem?_map] at hm
      obtain ⟨J, hJ, rfl⟩ := Option.map_eq_some_iff.1 hm
      have hi : i < Js.length := (List.getElem?_eq_some_iff.1 hJ).1
      obtain ⟨J', q, hJ', e, hv⟩ := hmv i hi
      rw [hJ] at hJ'
      obtain rfl := Option.some.inj hJ'
      refine ⟨q, e, cpFam.mono hv (fun b hb => ?_) (fun b hb => hall b (by rw [hb]; nofun))⟩
      unfold kdB
      rw [if_neg]
      · exact hb
      · have hbd : w1.heap.size ≤ b := by
          rcases hM.kd b with h | ⟨_, h, _⟩
          · rw [h] at hb
            cases hb
          · exact h
        omega
    · intro k i
      unfold kdB
      split
      · exact ⟨nofun, nofun, nofun, nofun, nofun⟩
      · rcases hM.kd k with h | ⟨⟨j, h, _⟩, _⟩
        · rw [h]
          exact ⟨nofun, nofun, nofun, nofun, nofun⟩
        · rw [h]
          exact ⟨nofun, nofun, nofun, nofun, nofun⟩
    · rintro e w' ⟨W, κ', av, ab, rfl, hW, hk, hs, hb⟩
      refine ⟨W, κ', av, ab, rfl, ?_, hk, hs, hb⟩
      have e : ((Js.map fun j => some j.mac).map fun m => (⟨m, false⟩ : Ac cpFam.M.σ)) = Js.map fun j => ⟨some j.mac, false⟩ := by
        rw [List.map_map]
        rfl
      rw [e] at hW
      exact hW
theorem JobV.Ok.below {w w' : World} {j : JobV} (h : JobV.Ok w j) (b : Below w.heap.size w w') : JobV.Ok w' j := ⟨h.k, h.a, h.n, h.s, h.r.below b, h.b⟩
theorem new_nk {w w1 w2 : World} {κ κ' : Nat → Kd} {ov jv : Value} {mv : Nat → Value} {Js : List JobV} {jc : List (List Value)} {p c : Nat} (hM : MadeTo w1 w2 κ ov jv mv Js jc Js.length) (h1 : w.heap.size ≤ w1.heap.size) (hp : w.heap.size ≤ p) (hc : w.heap.size ≤ c) (hk : ∀ i, i < w2.heap.size → κ' i = kdB κ p c i) : ∀ i, κ' i ≠ .no → w.heap.size ≤ i := by
  intro i hi
  have := hM.bel.size
  by_cases h : i < w2.heap.size
  · rw [hk i h] at hi
    unfold kdB at hi
    split at hi
    · omega
    · rcases hM.kd i with e | ⟨_, e, _⟩
      · exact absurd e hi
      · omega
  · omega
/-- What a pick counts. -/
theorem pick_cnt (M : Mac) (S : SW M.σ) (k a n : Int) : (M.pick S k a n).1.cnt = S.cnt ∨ ((M.pick S k a n).1.cnt = S.cnt + 1 ∧ k = 0 ∧ S.dead a = false ∧ (M.pick S k a n).2.2 = 0) := by
  unfold Mac.pick
  split
  · left
    unfold Mac.tick
    split
    · split <;> (try split) <;> rfl
    · rfl
  split
  · rename_i h01
    have key : (M.act S k a).1.cnt = S.cnt ∨ ((M.act S k a).1.cnt = S.cnt + 1 ∧ k = 0 ∧ S.dead a = false ∧ (M.act S k a).2.2 = 0) := by
      unfold Mac.act
      split
      · exact .inl rfl
      rename_i ha0
      have hat : S.at a = S.acts[a.toNat]? := by unfold SW.at; rw [if_neg ha0]
      cases hc : S.acts[a.toNat]? with
      | none => exact .inl rfl
      | some c =>
        have hdd : S.dead a = c.dead := by unfold SW.dead; rw [hat, hc]
        simp only []
        split
        · exact .inl rfl
        rename_i hd
        split
        · exact .inl rfl
        rename_i hk1
        unfold Mac.stepA
        cases c.m with
        | none => exact .inl rfl
        | some s =>
          simp only []
          split
          · exact .inl rfl
          split
          · exact .inr ⟨rfl, by omega, by rw [hdd]; simpa using hd, rfl⟩
          · exact .inl rfl
    rcases key with e | ⟨e, h1, h2, h3⟩
    · left
      split
      · exact e
      · exact e
    · right
      rw [if_pos h3]
      exact ⟨e, h1, h2, rfl⟩
  · exact .inl rfl
theorem pick_clk (M : Mac) (S : SW M.σ) (k a n : Int) : S.clk ≤ (M.pick S k a n).1.clk ∧ (M.pick S k a n).1.clk ≤ S.clk + 1099511627776 := by
  have hact : (M.act S k a).1.clk = S.clk := by
    unfold Mac.act
    split
    · rfl
    cases S.acts[a.toNat]? with
    | none => rfl
    | some c =>
      simp only []
      split
      · rfl
      split
      · rfl
      unfold Mac.stepA
      cases c.m with
      | none => rfl
      | some s =>
        simp only []
        split
        · rfl
        split <;> rfl
  unfold Mac.pick
  split
  · split
    · unfold Mac.tick
      split
      · exact ⟨Int.le_refl _, by dsimp only; omega⟩
      · exact ⟨by dsimp only; omega, by dsimp only; omega⟩
    · exact ⟨Int.le_refl _, by dsimp only; omega⟩
  split
  · split
    · exact ⟨by dsimp only; omega, by dsimp only; omega⟩
    · exact ⟨by dsimp only; omega, by dsimp only; omega⟩
  · exact ⟨Int.le_refl _, by dsimp only; omega⟩
/-- Where a row of picks stands. -/
structure PkAt (w wr : World) (W p c : Nat) (av : Value) (ab : Nat → Nat) (k : Nat) (κ : Nat → Kd) (tv : Value) (S : SW CpM) : Prop where
  wo : WoIn cpFam wr κ W p c av tv ab S
  nk : ∀ i, κ i ≠ .no → w.heap.size ≤ i
  bel : Below w.heap.size w wr
  c0 : 0 ≤ S.cnt
  c1 : S.cnt ≤ k
  t : S.tr.length ≤ k
  k0 : 0 ≤ S.clk
  k1 : S.clk ≤ k * 1099511627776
theorem PkAt.below {w wr w' : World} {W p c : Nat} {av : Value} {ab : Nat → Nat} {k : Nat} {κ : Nat → Kd} {tv : Value} {S : SW CpM} (h : PkAt w wr W p c av ab k κ tv S) (b : Below wr.heap.size wr w') : PkAt w w' W p c av ab k κ tv S :=
  ⟨h.wo.below b, h.nk, h.bel.trans (b.mono h.bel.size), h.c0, h.c1, h.t, h.k0, h.k1⟩
/-- A pick more. -/
theorem PkAt.pick {w wr w' : World} {W p c : Nat} {av : Value} {ab : Nat → Nat} {k : Nat} {κ κ' : Nat → Kd} {tv tv' : Value} {S : SW CpM} (h : PkAt w wr W p c av ab k κ tv S) (pk pa pn : Int) (hw : WoIn cpFam w' κ' W p c av tv' ab (cpMac.pick S pk pa pn).1) (hk : ∀ i, i < wr.heap.size → κ' i = κ i) (kp : Keep (fun i => κ i ≠ .no) wr w') : PkAt w w' W p c av ab (k + 1) κ' tv' (cpMac.pick S pk pa pn).1 := by
  have hf := pick_facts cpMac S pk pa pn
  have hc := pick_clk cpMac S pk pa pn
  obtain ⟨h1, h2⟩ := step_bel h.bel h.nk kp hk
  have a1 := h.c0
  have a2 := h.c1
  have a3 := h.t
  have a4 := h.k0
  have a5 := h.k1
  exact ⟨hw, h2, h1, by omega, by omega, by omega, by omega, by omega⟩
end Go.Proofs.Ytknahaaefmlcpaa
end
end
section
namespace Go.Proofs.Ytknahaaefmlcpaa
set_option maxRecDepth 100000
open Go.RowKit
set_option linter.unusedVariables false
set_option linter.unusedSimpArgs false
/-- One pick of a row: the world, and the events told so far. -/
def Mac.run1 (M : Mac) (R : SW M.σ × List Ev) (p : PickV) : SW M.σ × List Ev :=
  ((M.pick R.1 p.k p.a p.n).1, if (M.pick R.1 p.k p.a p.n).2.2 = 0 then R.2 ++ [(M.pick R.1 p.k p.a p.n).2.1] else R.2)
/-- A row of picks. -/
def Mac.run (M : Mac) (S : SW M.σ) (L : List PickV) : SW M.σ × List Ev := L.foldl M.run1 (S, [])
theorem Mac.run_snoc (M : Mac) (S : SW M.σ) (L : List PickV) (p : PickV) : M.run S (L ++ [p]) = M.run1 (M.run S L) p := by
  unfold Mac.run
  rw [List.foldl_append]
  rfl
/-- An event whose bytes are few. -/
def Ev.few (e : Ev) : Prop := e.c.b.length ≤ 70368744177664 ∧ e.x.b.length ≤ 70368744177664
theorem pick_few (M : Mac) (S : SW M.σ) (k a n : Int) (h : (M.act S k a).2.1.1.b.length ≤ 70368744177664 ∧ (M.act S k a).2.1.2.b.length ≤ 70368744177664) : ∀ e ∈ (M.pick S k a n).1.tr, e ∈ S.tr ∨ e.few := by
  have hz : ∀ p q r, Ev.few ⟨p, q, r, aaZ, anZ⟩ := fun p q r => by simp [Ev.few, aaZ, anZ]
  have ha := (act_facts M S k a).1
  unfold Mac.pick
  split
  · split
    · intro e he
      rcases List.mem_append.1 he with he | he
      · exact .inl he
      · rw [List.mem_singleton.1 he]
        exact .inr (hz _ _ _)
    · exact fun e he => .inl he
  split
  · split
    · intro e he
      rcases List.mem_append.1 he with he | he
      · rw [ha] at he
        exact .inl he
      · rw [List.mem_singleton.1 he]
        exact .inr h
    · intro e he
      dsimp only at he
      rw [ha] at he
      exact .inl he
  · exact fun e he => .inl he
/-- Where Run stands. -/
structure RunAt (C : Fam) (w wr : World) (κ : Nat → Kd) (W p c : Nat) (av : Value) (ab : Nat → Nat) (S : SW C.M.σ) (L : List PickV) (κr : Nat → Kd) (tvr ov : Value) : Prop where
  wo : WoIn C wr κr W p c av tvr ab (C.M.run S L).1
  ev : EvRow (fun i => w.heap.size ≤ i ∧ i < wr.heap.size ∧ κr i = .no) wr ov (C.M.run S L).2
  old : ∀ i, i < w.heap.size → κr i = κ i
  kp : Keep (fun i => κ i ≠ .no) w wr
  c0 : S.cnt ≤ (C.M.run S L).1.cnt
  c1 : (C.M.run S L).1.cnt ≤ S.cnt + L.length
  t : (C.M.run S L).1.tr.length ≤ S.tr.length + L.length
  k0 : S.clk ≤ (C.M.run S L).1.clk
  k1 : (C.M.run S L).1.clk ≤ S.clk + L.length * 1099511627776
  n : (C.M.run S L).2.length ≤ L.length
  al : (C.M.run S L).1.acts.length = S.acts.length
  few : (∀ e ∈ S.tr, e.few) → ∀ e ∈ (C.M.run S L).1.tr, e.few
theorem RunAt.step {C : Fam} {w wr w7 w' : World} {κ : Nat → Kd} {W p c : Nat} {av : Value} {ab : Nat → Nat} {S : SW C.M.σ} {L : List PickV} {κr κ7 : Nat → Kd} {tvr ov tv7 ov' : Value} {K : Nat → Prop} (h : RunAt C w wr κ W p c av ab S L κr tvr ov) (P : PickV) (h7 : WoIn C w7 κ7 W p c av tv7 ab (C.M.pick (C.M.run S L).1 P.k P.a P.n).1) (k7 : ∀ i, i < wr.heap.size → κ7 i = κr i) (kp7 : Keep (fun i => κr i ≠ .no) wr w7) (kp : Keep K w7 w') (hK : ∀ i, K i → w.heap.size ≤ i ∧ κ7 i = .no) (hev : EvRow (fun i => w.heap.size ≤ i ∧ i < w'.heap.size ∧ κ7 i = .no) w' ov' (C.M.run1 (C.M.run S L) P).2) : RunAt C w w' κ W p c av ab S (L ++ [P]) κ7 tv7 ov' := by
  have hf := pick_facts C.M (C.M.run S L).1 P.k P.a P.n
  have hc := pick_clk C.M (C.M.run S L).1 P.k P.a P.n
  have a1 := h.c0
  have a2 := h.c1
  have a3 := h.t
  have a4 := h.k0
  have a5 := h.k1
  have a6 := h.n
  have z1 := h.kp.size
  have e1 : (C.M.run S (L ++ [P])).1 = (C.M.pick (C.M.run S L).1 P.k P.a P.n).1 := by rw [Mac.run_snoc]; rfl
  have e2 : (C.M.run S (L ++ [P])).2 = (C.M.run1 (C.M.run S L) P).2 := by rw [Mac.run_snoc]
  have el : (L ++ [P]).length = L.length + 1 := by simp
  have hn : (C.M.run1 (C.M.run S L) P).2.length ≤ (C.M.run S L).2.length + 1 := by
    unfold Mac.run1
    dsimp only
    split <;> simp
  refine ⟨?_, by rw [e2]; exact hev, fun i hi => by rw [k7 i (by omega)]; exact h.old i hi, ?_, ?_, ?_, ?_, ?_, ?_, ?_, by rw [e1, hf.2.1]; exact h.al, fun h0 e he => ?_⟩
  rotate_right
  · rw [e1] at he
    rcases pick_few C.M _ P.k P.a P.n (h.wo.actLen P.k P.a) e he with h1 | h1
    · exact h.few h0 e h1
    · exact h1
  · rw [e1]
    exact h7.keep kp (fun i hi hk => hi (hK i hk).2)
  · exact (h.kp.then kp7 (fun i hi hm => by rw [← h.old i hi]; exact hm)).then kp (fun i hi hm => by have := (hK i hm).1; omega)
  all_goals (first | rw [e1, el] | rw [e2, el] | rw [e1]) <;> push_cast <;> omega
theorem picks_blk {w : World} {v : Value} {Ps : List PickV} (r : RdR w v 3 (Ps.map PickV.cs)) : ∀ a n cc, v = .slice (some a) n cc → 0 < n → a.block < w.heap.size := by
  intro a n cc e hn
  subst e
  obtain ⟨a', c', e'⟩ := r.sl
  have hl : 0 < (Ps.map PickV.cs).length := by cases e'; exact hn
  obtain ⟨g, off, cap, e2, _, _, hcell⟩ := r.row hl
  rw [List.length_map] at hl
  have h0 := World.block_lt_of_cell? w _ (hcell 0 (Ps[0]).cs (by rw [List.getElem?_map, List.getElem?_eq_getElem hl]; rfl) 0 (.int .i64 (Ps[0]).k) rfl)
  cases e2
  exact h0
end Go.Proofs.Ytknahaaefmlcpaa
end
end
section
namespace Go.Proofs.Ytknahaaefmlcpaa
set_option maxRecDepth 100000
open Go.RowKit
set_option linter.unusedVariables false
set_option linter.unusedSimpArgs false
set_option maxHeartbeats 2000000 in
theorem sameAns_true (v : Int) (d : Bool) (s0 t0 : Option Addr) (sl sc tl tc : Nat) (l : List Int) (w : World) (h1 : RdB w (.slice s0 sl sc) l) (h2 : RdB w (.slice t0 tl tc) l) :
    Calls Try.prog 37 #[.agg #[.int .u64 v, .bool d, .slice s0 sl sc], .agg #[.int .u64 v, .bool d, .slice t0 tl tc]] w fun e w' => e = .returned (.bool true) ∧ Below w.heap.size w w' := by
  have r1 := ((h1.below ((Below.refl _ w).alloc (Nat.le_refl _) (Obj.cells #[Value.int IntKind.u64 v, Value.bool d, Value.slice s0 sl sc] 49))).below ((Below.refl _ _).alloc (Nat.le_refl _) (Obj.cells #[Value.int IntKind.u64 v, Value.bool d, Value.slice t0 tl tc] 49)))
  have r2 := ((h2.below ((Below.refl _ w).alloc (Nat.le_refl _) (Obj.cells #[Value.int IntKind.u64 v, Value.bool d, Value.slice s0 sl sc] 49))).below ((Below.refl _ _).alloc (Nat.le_refl _) (Obj.cells #[Value.int IntKind.u64 v, Value.bool d, Value.slice t0 tl tc] 49)))
  have V1 := conv_rd 26 9 Try.underlying26 Try.underlying9 r1
  have V2 := conv_rd 26 9 Try.underlying26 Try.underlying9 r2
  clear h1 h2 r1 r2
  go_enter Try.func37, Try.ntmps37
  go_wp2
  go_ret
  exact ⟨rfl, by go_grown⟩
/-- Events that may be read. -/
def EvRd (w : World) (v : Value) (l : List Ev) : Prop :=
  ∃ es : List (Ev × Value × Value), es.map (·.1) = l ∧ w.ownsRow 0 51 12 v es.length (es.flatMap evL) ∧ ∀ e ∈ es, RdB w e.2.1 e.1.c.b ∧ RdB w e.2.2 e.1.x.b
theorem EvRow.ev {P : Nat → Prop} {w : World} {v : Value} {l : List Ev} (h : EvRow P w v l) : EvRd w v l := by
  obtain ⟨es, e, ho, _, he⟩ := h
  exact ⟨es, e, ho, fun x hx => ⟨(he x hx).1.rd, (he x hx).2.1.rd⟩⟩
theorem EvRd.sl {w : World} {v : Value} {l : List Ev} (h : EvRd w v l) : ∃ a c, v = .slice a l.length c := by
  obtain ⟨es, rfl, ⟨_, ho⟩, _⟩ := h
  rcases ho with ⟨rfl, h0⟩ | ⟨g, cap, cur, rfl, _⟩
  · exact ⟨none, 0, by rw [List.length_map, h0]⟩
  · exact ⟨_, _, by rw [List.length_map]⟩
set_option maxHeartbeats 2000000 in
theorem same06_row {w : World} {l : List Ev} (g1 g2 c1 c2 : Nat) (n : Nat) (hn : n = l.length) (hsm : n ≤ 100000) (h1 : EvRd w (.slice (some ⟨g1, 0, none⟩) n c1) l) (h2 : EvRd w (.slice (some ⟨g2, 0, none⟩) n c2) l) :
    Calls Try.prog 11 #[.slice (some ⟨g1, 0, none⟩) n c1, .slice (some ⟨g2, 0, none⟩) n c2] w fun e w' => e = .returned (.bool true) ∧ Below w.heap.size w w' := by
  obtain ⟨E1, ha1, ho1, he1⟩ := h1
  obtain ⟨E2, ha2, ho2, he2⟩ := h2
  have hl1 : E1.length = n := by rw [hn, ← ha1, List.length_map]
  have hl2 : E2.length = n := by rw [hn, ← ha2, List.length_map]
  have HA1 := Lib.hid ha1
  have HA2 := Lib.hid ha2
  have HO1 := Lib.hid ho1
  have HO2 := Lib.hid ho2
  have HE1 := Lib.hid he1
  have HE2 := Lib.hid he2
  have HL1 := Lib.hid hl1
  have HL2 := Lib.hid hl2
  clear hn ha1 ha2 ho1 ho2 he1 he2 hl1 hl2
  go_enter Try.func11, Try.ntmps11
  go_wp2_with fail
  go_loopw [13] (fun i wr => ∃ k : Nat, k ≤ n ∧ i = .int .i64 k ∧ Below w.heap.size w wr) (fun i _ => n - (intOf i).toNat)
  case atStart => exact ⟨0, by omega, rfl, Below.refl _ _⟩
  case round =>
    obtain ⟨k, hk, rfl, hB⟩ := hrel
    by_cases hlt : k < n
    · obtain ⟨x1, hx1⟩ : ∃ e, E1[k]? = some e := ⟨_, List.getElem?_eq_getElem (by rw [HL1.out]; exact hlt)⟩
      obtain ⟨x2, hx2⟩ : ∃ e, E2[k]? = some e := ⟨_, List.getElem?_eq_getElem (by rw [HL2.out]; exact hlt)⟩
      have hm1 := HE1.out x1 (List.mem_of_getElem? hx1)
      have hm2 := HE2.out x2 (List.mem_of_getElem? hx2)
      have heq : x1.1 = x2.1 := by
        have a1 : l[k]? = some x1.1 := by rw [← HA1.out, List.getElem?_map, hx1]; rfl
        have a2 : l[k]? = some x2.1 := by rw [← HA2.out, List.getElem?_map, hx2]; rfl
        exact Option.some.inj (a1.symm.trans a2)
      have cc1 := fun j u hj => (hB.cell (p := ⟨g1, k * 12 + j, none⟩) (World.block_lt_of_cell? w _ (row_cells HO1.out hx1 j u hj))).trans (row_cells HO1.out hx1 j u hj)
      have cc2 := fun j u hj => (hB.cell (p := ⟨g2, k * 12 + j, none⟩) (World.block_lt_of_cell? w _ (row_cells HO2.out hx2 j u hj))).trans (row_cells HO2.out hx2 j u hj)
      obtain ⟨e1, s1, t1⟩ := x1
      obtain ⟨e2, s2, t2⟩ := x2
      dsimp only at heq hm1 hm2
      subst heq
      obtain ⟨sa, sl, sc, hs⟩ := hm1.1.isSl
      obtain ⟨ta, tl, tc, ht⟩ := hm1.2.isSl
      obtain ⟨ua, ul, uc, hu⟩ := hm2.1.isSl
      obtain ⟨va, vl, vc, hv⟩ := hm2.2.isSl
      have R1 := Lib.hid (hm1.1.below hB)
      have R2 := Lib.hid (hm1.2.below hB)
      have R3 := Lib.hid (hm2.1.below hB)
      have R4 := Lib.hid (hm2.2.below hB)
      subst hs ht hu hv
      have d0 : wr.cell? ⟨g1, k * 12, none⟩ = some (.int .i64 e1.pk) := cc1 0 _ rfl
      have d1 : wr.cell? ⟨g1, k * 12 + 1, none⟩ = some (.int .i64 e1.pa) := cc1 1 _ rfl
      have d2 : wr.cell? ⟨g1, k * 12 + 2, none⟩ = some (.int .i64 e1.pn) := cc1 2 _ rfl
      have d3 : wr.cell? ⟨g1, k * 12 + 3, none⟩ = some (.int .i64 e1.c.k) := cc1 3 _ rfl
      have d4 : wr.cell? ⟨g1, k * 12 + 4, none⟩ = some (.int .i64 e1.c.a) := cc1 4 _ rfl
      have d5 : wr.cell? ⟨g1, k * 12 + 5, none⟩ = some (.int .i64 e1.c.n) := cc1 5 _ rfl
      have d6 : wr.cell? ⟨g1, k * 12 + 6, none⟩ = some (.int .u64 e1.c.v) := cc1 6 _ rfl
      have d7 : wr.cell? ⟨g1, k * 12 + 7, none⟩ = some (.int .u64 e1.c.x) := cc1 7 _ rfl
      have d8 : wr.cell? ⟨g1, k * 12 + 8, none⟩ = some (.slice sa sl sc) := cc1 8 _ rfl
      have d9 : wr.cell? ⟨g1, k * 12 + 9, none⟩ = some (.int .u64 e1.x.v) := cc1 9 _ rfl
      have d10 : wr.cell? ⟨g1, k * 12 + 10, none⟩ = some (.bool e1.x.d) := cc1 10 _ rfl
      have d11 : wr.cell? ⟨g1, k * 12 + 11, none⟩ = some (.slice ta tl tc) := cc1 11 _ rfl
      have f0 : wr.cell? ⟨g2, k * 12, none⟩ = some (.int .i64 e1.pk) := cc2 0 _ rfl
      have f1 : wr.cell? ⟨g2, k * 12 + 1, none⟩ = some (.int .i64 e1.pa) := cc2 1 _ rfl
      have f2 : wr.cell? ⟨g2, k * 12 + 2, none⟩ = some (.int .i64 e1.pn) := cc2 2 _ rfl
      have f3 : wr.cell? ⟨g2, k * 12 + 3, none⟩ = some (.int .i64 e1.c.k) := cc2 3 _ rfl
      have f4 : wr.cell? ⟨g2, k * 12 + 4, none⟩ = some (.int .i64 e1.c.a) := cc2 4 _ rfl
      have f5 : wr.cell? ⟨g2, k * 12 + 5, none⟩ = some (.int .i64 e1.c.n) := cc2 5 _ rfl
      have f6 : wr.cell? ⟨g2, k * 12 + 6, none⟩ = some (.int .u64 e1.c.v) := cc2 6 _ rfl
      have f7 : wr.cell? ⟨g2, k * 12 + 7, none⟩ = some (.int .u64 e1.c.x) := cc2 7 _ rfl
      have f8 : wr.cell? ⟨g2, k * 12 + 8, none⟩ = some (.slice ua ul uc) := cc2 8 _ rfl
      have f9 : wr.cell? ⟨g2, k * 12 + 9, none⟩ = some (.int .u64 e1.x.v) := cc2 9 _ rfl
      have f10 : wr.cell? ⟨g2, k * 12 + 10, none⟩ = some (.bool e1.x.d) := cc2 10 _ rfl
      have f11 : wr.cell? ⟨g2, k * 12 + 11, none⟩ = some (.slice va vl vc) := cc2 11 _ rfl
      have hg1 : g1 < wr.heap.size := World.block_lt_of_cell? _ _ d0
      have hg2 : g2 < wr.heap.size := World.block_lt_of_cell? _ _ f0
      have HB := Lib.hid hB
      have zB := hB.size
      clear cc1 cc2 hm1 hm2 hx1 hx2 hB
      go_upto_region 6 with fail
      refine wp_region_held_drew (S := fun w' => (∀ o, w'.cell? ⟨g1, o, none⟩ = wr.cell? ⟨g1, o, none⟩) ∧ (∀ o, w'.cell? ⟨g2, o, none⟩ = wr.cell? ⟨g2, o, none⟩)) (by kernel_rfl) ?_ (fun hHeld => ?_)
      · try dsimp only
        exact ⟨fun _ => rfl, fun _ => rfl⟩
      refine wpAnyH_take (i := 0) (v := ?_) rfl (by kernel_rfl) (by kernel_rfl) (by kernel_rfl) (fun _ _ _ h => h) (Or.inl ⟨by rfl, ?_⟩) (by assumption) ?_
      rotate_left
      · intro w0 hSw
        (try dsimp only at hSw)
        go_simp
        try with_reducible rfl
      try simp only [Act.put, List.getElem_toArray, List.getElem_cons_zero, List.getElem_cons_succ, List.setIfInBounds_toArray, List.set_cons_zero, List.set_cons_succ]
      refine wpAnyH_take (i := 1) (v := ?_) rfl (by kernel_rfl) (by kernel_rfl) (by kernel_rfl) (fun _ _ _ h => h) (Or.inl ⟨by rfl, ?_⟩) (by assumption) ?_
      rotate_left
      · intro w0 hSw
        (try dsimp only at hSw)
        go_simp
        try with_reducible rfl
      try simp only [Act.put, List.getElem_toArray, List.getElem_cons_zero, List.getElem_cons_succ, List.setIfInBounds_toArray, List.set_cons_zero, List.set_cons_succ]
      refine wpAnyH_take (i := 2) (v := ?_) rfl (by kernel_rfl) (by kernel_rfl) (by kernel_rfl) (fun _ _ _ h => h) (Or.inl ⟨by rfl, ?_⟩) (by assumption) ?_
      rotate_left
      · intro w0 hSw
        (try dsimp only at hSw)
        go_simp
        try with_reducible rfl
      try simp only [Act.put, List.getElem_toArray, List.getElem_cons_zero, List.getElem_cons_succ, List.setIfInBounds_toArray, List.set_cons_zero, List.set_cons_succ]
      refine wpAnyH_take (i := 3) (v := ?_) rfl (by kernel_rfl) (by kernel_rfl) (by kernel_rfl) (fun _ _ _ h => h) (Or.inl ⟨by rfl, ?_⟩) (by assumption) ?_
      rotate_left
      · intro w0 hSw
        (try dsimp only at hSw)
        go_simp
        try with_reducible rfl
      try simp only [Act.put, List.getElem_toArray, List.getElem_cons_zero, List.getElem_cons_succ, List.setIfInBounds_toArray, List.set_cons_zero, List.set_cons_succ]
      refine wpAnyH_take (i := 4) (v := ?_) rfl (by kernel_rfl) (by kernel_rfl) (by kernel_rfl) (fun _ _ _ h => h) (Or.inl ⟨by rfl, ?_⟩) (by assumption) ?_
      rotate_left
      · intro w0 hSw
        (try dsimp only at hSw)
        go_simp
        try with_reducible rfl
      try simp only [Act.put, List.getElem_toArray, List.getElem_cons_zero, List.getElem_cons_succ, List.setIfInBounds_toArray, List.set_cons_zero, List.set_cons_succ]
      refine wpAnyH_take (i := 5) (v := ?_) rfl (by kernel_rfl) (by kernel_rfl) (by kernel_rfl) (fun _ _ _ h => h) (Or.inl ⟨by rfl, ?_⟩) (by assumption) ?_
      rotate_left
      · intro w0 hSw
        (try dsimp only at hSw)
        go_simp
        try with_reducible rfl
      try simp only [Act.put, List.getElem_toArray, List.getElem_cons_zero, List.getElem_cons_succ, List.setIfInBounds_toArray, List.set_cons_zero, List.set_cons_succ]
      refine wpAnyH_take (i := 6) (v := ?_) rfl (by kernel_rfl) (by kernel_rfl) (by kernel_rfl) (fun _ _ _ h => h) (Or.inl ⟨by rfl, ?_⟩) (by assumption) ?_
      rotate_left
      · intro w0 hSw
        (try dsimp only at hSw)
        go_simp
        try with_reducible rfl
      try simp only [Act.put, List.getElem_toArray, List.getElem_cons_zero, List.getElem_cons_succ, List.setIfInBounds_toArray, List.set_cons_zero, List.set_cons_succ]
      refine wpAnyH_take (i := 7) (v := ?_) rfl (by kernel_rfl) (by kernel_rfl) (by kernel_rfl) (fun _ _ _ h => h) (Or.inl ⟨by rfl, ?_⟩) (by assumption) ?_
      rotate_left
      · intro w0 hSw
        (try dsimp only at hSw)
        go_simp
        try with_reducible rfl
      try simp only [Act.put, List.getElem_toArray, List.getElem_cons_zero, List.getElem_cons_succ, List.setIfInBounds_toArray, List.set_cons_zero, List.set_cons_succ]
      refine wpAnyH_take (i := 8) (v := ?_) rfl (by kernel_rfl) (by kernel_rfl) (by kernel_rfl) (fun _ _ _ h => h) (Or.inl ⟨by rfl, ?_⟩) (by assumption) ?_
      rotate_left
      · intro w0 hSw
        (try dsimp only at hSw)
        go_simp
        try with_reducible rfl
      try simp only [Act.put, List.getElem_toArray, List.getElem_cons_zero, List.getElem_cons_succ, List.setIfInBounds_toArray, List.set_cons_zero, List.set_cons_succ]
      refine wpAnyH_take (i := 9) (v := ?_) rfl (by kernel_rfl) (by kernel_rfl) (by kernel_rfl) (fun _ _ _ h => h) (Or.inl ⟨by rfl, ?_⟩) (by assumption) ?_
      rotate_left
      · intro w0 hSw
        (try dsimp only at hSw)
        go_simp
        try with_reducible rfl
      try simp only [Act.put, List.getElem_toArray, List.getElem_cons_zero, List.getElem_cons_succ, List.setIfInBounds_toArray, List.set_cons_zero, List.set_cons_succ]
      refine wpAnyH_take (i := 10) (v := ?_) rfl (by kernel_rfl) (by kernel_rfl) (by kernel_rfl) (fun _ _ _ h => h) (Or.inl ⟨by rfl, ?_⟩) (by assumption) ?_
      rotate_left
      · intro w0 hSw
        (try dsimp only at hSw)
        go_simp
        try with_reducible rfl
      try simp only [Act.put, List.getElem_toArray, List.getElem_cons_zero, List.getElem_cons_succ, List.setIfInBounds_toArray, List.set_cons_zero, List.set_cons_succ]
      refine wpAnyH_take (i := 11) (v := ?_) rfl (by kernel_rfl) (by kernel_rfl) (by kernel_rfl) (fun _ _ _ h => h) (Or.inl ⟨by rfl, ?_⟩) (by assumption) ?_
      rotate_left
      · intro w0 hSw
        (try dsimp only at hSw)
        go_simp
        try with_reducible rfl
      try simp only [Act.put, List.getElem_toArray, List.getElem_cons_zero, List.getElem_cons_succ, List.setIfInBounds_toArray, List.set_cons_zero, List.set_cons_succ]
      refine wpAnyH_take (i := 12) (v := ?_) rfl (by kernel_rfl) (by kernel_rfl) (by kernel_rfl) (fun _ _ _ h => h) (Or.inl ⟨by rfl, ?_⟩) (by assumption) ?_
      rotate_left
      · intro w0 hSw
        (try dsimp only at hSw)
        go_simp
        try with_reducible rfl
      try simp only [Act.put, List.getElem_toArray, List.getElem_cons_zero, List.getElem_cons_succ, List.setIfInBounds_toArray, List.set_cons_zero, List.set_cons_succ]
      refine wpAnyH_take (i := 13) (v := ?_) rfl (by kernel_rfl) (by kernel_rfl) (by kernel_rfl) (fun _ _ _ h => h) (Or.inl ⟨by rfl, ?_⟩) (by assumption) ?_
      rotate_left
      · intro w0 hSw
        (try dsimp only at hSw)
        go_simp
        try with_reducible rfl
      try simp only [Act.put, List.getElem_toArray, List.getElem_cons_zero, List.getElem_cons_succ, List.setIfInBounds_toArray, List.set_cons_zero, List.set_cons_succ]
      refine wpAnyH_take (i := 14) (v := ?_) rfl (by kernel_rfl) (by kernel_rfl) (by kernel_rfl) (fun _ _ _ h => h) (Or.inl ⟨by rfl, ?_⟩) (by assumption) ?_
      rotate_left
      · intro w0 hSw
        (try dsimp only at hSw)
        go_simp
        try with_reducible rfl
      try simp only [Act.put, List.getElem_toArray, List.getElem_cons_zero, List.getElem_cons_succ, List.setIfInBounds_toArray, List.set_cons_zero, List.set_cons_succ]
      refine wpAnyH_take (i := 15) (v := ?_) rfl (by kernel_rfl) (by kernel_rfl) (by kernel_rfl) (fun _ _ _ h => h) (Or.inl ⟨by rfl, ?_⟩) (by assumption) ?_
      rotate_left
      · intro w0 hSw
        (try dsimp only at hSw)
        go_simp
        try with_reducible rfl
      try simp only [Act.put, List.getElem_toArray, List.getElem_cons_zero, List.getElem_cons_succ, List.setIfInBounds_toArray, List.set_cons_zero, List.set_cons_succ]
      refine wpAnyH_take (i := 16) (v := ?_) rfl (by kernel_rfl) (by kernel_rfl) (by kernel_rfl) (fun _ _ _ h => h) (Or.inl ⟨by rfl, ?_⟩) (by assumption) ?_
      rotate_left
      · intro w0 hSw
        (try dsimp only at hSw)
        go_simp
        try with_reducible rfl
      try simp only [Act.put, List.getElem_toArray, List.getElem_cons_zero, List.getElem_cons_succ, List.setIfInBounds_toArray, List.set_cons_zero, List.set_cons_succ]
      refine wpAnyH_take (i := 17) (v := ?_) rfl (by kernel_rfl) (by kernel_rfl) (by kernel_rfl) (fun _ _ _ h => h) (Or.inl ⟨by rfl, ?_⟩) (by assumption) ?_
      rotate_left
      · intro w0 hSw
        (try dsimp only at hSw)
        go_simp
        try with_reducible rfl
      try simp only [Act.put, List.getElem_toArray, List.getElem_cons_zero, List.getElem_cons_succ, List.setIfInBounds_toArray, List.set_cons_zero, List.set_cons_succ]
      refine wpAnyH_take (i := 18) (v := ?_) rfl (by kernel_rfl) (by kernel_rfl) (by kernel_rfl) (fun _ _ _ h => h) (Or.inl ⟨by rfl, ?_⟩) (by assumption) ?_
      rotate_left
      · intro w0 hSw
        (try dsimp only at hSw)
        go_simp
        try with_reducible rfl
      try simp only [Act.put, List.getElem_toArray, List.getElem_cons_zero, List.getElem_cons_succ, List.setIfInBounds_toArray, List.set_cons_zero, List.set_cons_succ]
      refine wpAnyH_take (i := 19) (v := ?_) rfl (by kernel_rfl) (by kernel_rfl) (by kernel_rfl) (fun _ _ _ h => h) (Or.inl ⟨by rfl, ?_⟩) (by assumption) ?_
      rotate_left
      · intro w0 hSw
        (try dsimp only at hSw)
        go_simp
        try with_reducible rfl
      try simp only [Act.put, List.getElem_toArray, List.getElem_cons_zero, List.getElem_cons_succ, List.setIfInBounds_toArray, List.set_cons_zero, List.set_cons_succ]
      refine wpAnyH_take (i := 20) (v := ?_) rfl (by kernel_rfl) (by kernel_rfl) (by kernel_rfl) (fun _ _ _ h => h) (Or.inl ⟨by rfl, ?_⟩) (by assumption) ?_
      rotate_left
      · intro w0 hSw
        (try dsimp only at hSw)
        go_simp
        try with_reducible rfl
      try simp only [Act.put, List.getElem_toArray, List.getElem_cons_zero, List.getElem_cons_succ, List.setIfInBounds_toArray, List.set_cons_zero, List.set_cons_succ]
      refine wpAnyH_take (i := 21) (v := ?_) rfl (by kernel_rfl) (by kernel_rfl) (by kernel_rfl) (fun _ _ _ h => h) (Or.inl ⟨by rfl, ?_⟩) (by assumption) ?_
      rotate_left
      · intro w0 hSw
        (try dsimp only at hSw)
        go_simp
        try with_reducible rfl
      try simp only [Act.put, List.getElem_toArray, List.getElem_cons_zero, List.getElem_cons_succ, List.setIfInBounds_toArray, List.set_cons_zero, List.set_cons_succ]
      refine wpAnyH_ready (rs := [22]) (by kernel_rfl) (by simp) ?_
      refine AllReadyH.cons rfl (fun K hK => ?_) AllReadyH.nil
      go_simp
      go_at_call 36
      refine (sameAcc_true e1.c.k e1.c.a e1.c.n e1.c.v e1.c.x _ _ _ _ _ _ e1.c.b _ (RdB.drewN 1 R1.out) (RdB.drewN 1 R3.out)).mono ?_
      rintro r w9 ⟨rfl, b9⟩
      have z9 := b9.size
      simp at z9
      have hb9a := fun o => b9.cell (p := ⟨g1, o, none⟩) (by simp; try omega)
      have hb9b := fun o => b9.cell (p := ⟨g2, o, none⟩) (by simp; try omega)
      go_wp2_with fail
      refine hK.out _ _ ?_ (fun hHeld => ?_)
      · try dsimp only
        exact ⟨fun o => by rw [hb9a]; simp, fun o => by rw [hb9b]; simp⟩
      clear hK K
      try simp only [Act.put, List.getElem_toArray, List.getElem_cons_zero, List.getElem_cons_succ, List.setIfInBounds_toArray, List.set_cons_zero, List.set_cons_succ]
      refine wpAnyH_take (i := 23) (v := ?_) rfl (by kernel_rfl) (by kernel_rfl) (by kernel_rfl) (fun _ _ _ h => h) (Or.inl ⟨by rfl, ?_⟩) (by assumption) ?_
      rotate_left
      · intro w0 hSw
        (try dsimp only at hSw)
        go_simp
        try with_reducible rfl
      try simp only [Act.put, List.getElem_toArray, List.getElem_cons_zero, List.getElem_cons_succ, List.setIfInBounds_toArray, List.set_cons_zero, List.set_cons_succ]
      refine wpAnyH_take (i := 24) (v := ?_) rfl (by kernel_rfl) (by kernel_rfl) (by kernel_rfl) (fun _ _ _ h => h) (Or.inl ⟨by rfl, ?_⟩) (by assumption) ?_
      rotate_left
      · intro w0 hSw
        (try dsimp only at hSw)
        go_simp
        try with_reducible rfl
      try simp only [Act.put, List.getElem_toArray, List.getElem_cons_zero, List.getElem_cons_succ, List.setIfInBounds_toArray, List.set_cons_zero, List.set_cons_succ]
      refine wpAnyH_take (i := 25) (v := ?_) rfl (by kernel_rfl) (by kernel_rfl) (by kernel_rfl) (fun _ _ _ h => h) (Or.inl ⟨by rfl, ?_⟩) (by assumption) ?_
      rotate_left
      · intro w0 hSw
        (try dsimp only at hSw)
        go_simp
        try with_reducible rfl
      try simp only [Act.put, List.getElem_toArray, List.getElem_cons_zero, List.getElem_cons_succ, List.setIfInBounds_toArray, List.set_cons_zero, List.set_cons_succ]
      refine wpAnyH_take (i := 26) (v := ?_) rfl (by kernel_rfl) (by kernel_rfl) (by kernel_rfl) (fun _ _ _ h => h) (Or.inl ⟨by rfl, ?_⟩) (by assumption) ?_
      rotate_left
      · intro w0 hSw
        (try dsimp only at hSw)
        go_simp
        try with_reducible rfl
      try simp only [Act.put, List.getElem_toArray, List.getElem_cons_zero, List.getElem_cons_succ, List.setIfInBounds_toArray, List.set_cons_zero, List.set_cons_succ]
      refine wpAnyH_take (i := 27) (v := ?_) rfl (by kernel_rfl) (by kernel_rfl) (by kernel_rfl) (fun _ _ _ h => h) (Or.inl ⟨by rfl, ?_⟩) (by assumption) ?_
      rotate_left
      · intro w0 hSw
        (try dsimp only at hSw)
        go_simp
        try with_reducible rfl
      try simp only [Act.put, List.getElem_toArray, List.getElem_cons_zero, List.getElem_cons_succ, List.setIfInBounds_toArray, List.set_cons_zero, List.set_cons_succ]
      refine wpAnyH_take (i := 28) (v := ?_) rfl (by kernel_rfl) (by kernel_rfl) (by kernel_rfl) (fun _ _ _ h => h) (Or.inl ⟨by rfl, ?_⟩) (by assumption) ?_
      rotate_left
      · intro w0 hSw
        (try dsimp only at hSw)
        go_simp
        try with_reducible rfl
      try simp only [Act.put, List.getElem_toArray, List.getElem_cons_zero, List.getElem_cons_succ, List.setIfInBounds_toArray, List.set_cons_zero, List.set_cons_succ]
      refine wpAnyH_take (i := 29) (v := ?_) rfl (by kernel_rfl) (by kernel_rfl) (by kernel_rfl) (fun _ _ _ h => h) (Or.inl ⟨by rfl, ?_⟩) (by assumption) ?_
      rotate_left
      · intro w0 hSw
        (try dsimp only at hSw)
        go_simp
        try with_reducible rfl
      try simp only [Act.put, List.getElem_toArray, List.getElem_cons_zero, List.getElem_cons_succ, List.setIfInBounds_toArray, List.set_cons_zero, List.set_cons_succ]
      refine wpAnyH_take (i := 30) (v := ?_) rfl (by kernel_rfl) (by kernel_rfl) (by kernel_rfl) (fun _ _ _ h => h) (Or.inl ⟨by rfl, ?_⟩) (by assumption) ?_
      rotate_left
      · intro w0 hSw
        (try dsimp only at hSw)
        go_simp
        try with_reducible rfl
      try simp only [Act.put, List.getElem_toArray, List.getElem_cons_zero, List.getElem_cons_succ, List.setIfInBounds_toArray, List.set_cons_zero, List.set_cons_succ]
      refine wpAnyH_take (i := 31) (v := ?_) rfl (by kernel_rfl) (by kernel_rfl) (by kernel_rfl) (fun _ _ _ h => h) (Or.inl ⟨by rfl, ?_⟩) (by assumption) ?_
      rotate_left
      · intro w0 hSw
        (try dsimp only at hSw)
        go_simp
        try with_reducible rfl
      try simp only [Act.put, List.getElem_toArray, List.getElem_cons_zero, List.getElem_cons_succ, List.setIfInBounds_toArray, List.set_cons_zero, List.set_cons_succ]
      refine wpAnyH_take (i := 32) (v := ?_) rfl (by kernel_rfl) (by kernel_rfl) (by kernel_rfl) (fun _ _ _ h => h) (Or.inl ⟨by rfl, ?_⟩) (by assumption) ?_
      rotate_left
      · intro w0 hSw
        (try dsimp only at hSw)
        go_simp
        try with_reducible rfl
      try simp only [Act.put, List.getElem_toArray, List.getElem_cons_zero, List.getElem_cons_succ, List.setIfInBounds_toArray, List.set_cons_zero, List.set_cons_succ]
      refine wpAnyH_take (i := 33) (v := ?_) rfl (by kernel_rfl) (by kernel_rfl) (by kernel_rfl) (fun _ _ _ h => h) (Or.inl ⟨by rfl, ?_⟩) (by assumption) ?_
      rotate_left
      · intro w0 hSw
        (try dsimp only at hSw)
        go_simp
        try with_reducible rfl
      try simp only [Act.put, List.getElem_toArray, List.getElem_cons_zero, List.getElem_cons_succ, List.setIfInBounds_toArray, List.set_cons_zero, List.set_cons_succ]
      refine wpAnyH_take (i := 34) (v := ?_) rfl (by kernel_rfl) (by kernel_rfl) (by kernel_rfl) (fun _ _ _ h => h) (Or.inl ⟨by rfl, ?_⟩) (by assumption) ?_
      rotate_left
      · intro w0 hSw
        (try dsimp only at hSw)
        go_simp
        try with_reducible rfl
      try simp only [Act.put, List.getElem_toArray, List.getElem_cons_zero, List.getElem_cons_succ, List.setIfInBounds_toArray, List.set_cons_zero, List.set_cons_succ]
      refine wpAnyH_take (i := 35) (v := ?_) rfl (by kernel_rfl) (by kernel_rfl) (by kernel_rfl) (fun _ _ _ h => h) (Or.inl ⟨by rfl, ?_⟩) (by assumption) ?_
      rotate_left
      · intro w0 hSw
        (try dsimp only at hSw)
        go_simp
        try with_reducible rfl
      try simp only [Act.put, List.getElem_toArray, List.getElem_cons_zero, List.getElem_cons_succ, List.setIfInBounds_toArray, List.set_cons_zero, List.set_cons_succ]
      refine wpAnyH_ready (rs := [36]) (by kernel_rfl) (by simp) ?_
      refine AllReadyH.cons rfl (fun K hK => ?_) AllReadyH.nil
      go_simp
      go_at_call 37
      refine (sameAns_true e1.x.v e1.x.d _ _ _ _ _ _ e1.x.b _ ((RdB.drewN 1 R2.out).below b9) ((RdB.drewN 1 R4.out).below b9)).mono ?_
      rintro r w10 ⟨rfl, b10⟩
      have z10 := b10.size
      have hb10a := fun o => b10.cell (p := ⟨g1, o, none⟩) (by first | omega | (simp; omega))
      have hb10b := fun o => b10.cell (p := ⟨g2, o, none⟩) (by first | omega | (simp; omega))
      go_wp2_with fail
      refine hK.out _ _ ?_ (fun hHeld => ?_)
      · try dsimp only
        exact ⟨fun o => by rw [hb10a, hb9a]; simp, fun o => by rw [hb10b, hb9b]; simp⟩
      clear hK K
      try simp only [Act.put, List.getElem_toArray, List.getElem_cons_zero, List.getElem_cons_succ, List.setIfInBounds_toArray, List.set_cons_zero, List.set_cons_succ]
      refine wpAnyH_take (i := 37) (v := ?_) rfl (by kernel_rfl) (by kernel_rfl) (by kernel_rfl) (fun _ _ _ h => h) (Or.inl ⟨by rfl, ?_⟩) (by assumption) ?_
      rotate_left
      · intro w0 hSw
        (try dsimp only at hSw)
        go_simp
        try with_reducible rfl
      try simp only [Act.put, List.getElem_toArray, List.getElem_cons_zero, List.getElem_cons_succ, List.setIfInBounds_toArray, List.set_cons_zero, List.set_cons_succ]
      refine wpAnyH_take (i := 38) (v := ?_) rfl (by kernel_rfl) (by kernel_rfl) (by kernel_rfl) (fun _ _ _ h => h) (Or.inl ⟨by rfl, ?_⟩) (by assumption) ?_
      rotate_left
      · intro w0 hSw
        (try dsimp only at hSw)
        go_simp
        try with_reducible rfl
      try simp only [Act.put, List.getElem_toArray, List.getElem_cons_zero, List.getElem_cons_succ, List.setIfInBounds_toArray, List.set_cons_zero, List.set_cons_succ]
      refine wpAnyH_done (by kernel_rfl) ?_ _
      have BF := Lib.hid (show Below w.heap.size w w10 from (HB.out.drew.trans (b9.mono (by simp; omega))).trans (b10.mono (by omega)))
      clear b9 b10 hb9a hb9b hb10a hb10b
      go_wp2
      exact ⟨⟨k + 1, by omega, by go_num, BF.out⟩, by simp [intOf]; omega⟩
    · obtain rfl : k = n := by omega
      go_wp2
      go_ret
      exact ⟨rfl, hB⟩
set_option maxHeartbeats 400000 in
theorem same06_none (a b : Option Addr) (c1 c2 : Nat) (w : World) :
    Calls Try.prog 11 #[.slice a 0 c1, .slice b 0 c2] w fun e w' => e = .returned (.bool true) ∧ Below w.heap.size w w' := by
  go_enter Try.func11, Try.ntmps11
  go_wp2_with fail
  refine wp_loop_rounds 1 ?_
  rw [rounds_succ]
  go_wp2
  go_ret
  exact ⟨rfl, Below.refl _ _⟩
theorem same06_rd {w : World} {va vb : Value} {l : List Ev} (hsm : l.length ≤ 100000) (h1 : EvRd w va l) (h2 : EvRd w vb l) :
    Calls Try.prog 11 #[va, vb] w fun e w' => e = .returned (.bool true) ∧ Below w.heap.size w w' := by
  by_cases h0 : l.length = 0
  · obtain ⟨a, c, rfl⟩ := h1.sl
    obtain ⟨b, d, rfl⟩ := h2.sl
    rw [h0]
    exact same06_none a b c d w
  · have row : ∀ {v : Value}, EvRd w v l → ∃ g c, v = .slice (some ⟨g, 0, none⟩) l.length c := by
      rintro v ⟨es, rfl, ⟨_, ho⟩, _⟩
      rw [List.length_map] at h0 ⊢
      rcases ho with ⟨rfl, e⟩ | ⟨g, cap, cur, rfl, _⟩
      · exact absurd e h0
      · exact ⟨g, cap, rfl⟩
    obtain ⟨g1, c1, rfl⟩ := row h1
    obtain ⟨g2, c2, rfl⟩ := row h2
    exact same06_row g1 g2 c1 c2 _ rfl hsm h1 h2
theorem same06_any {P P' : Nat → Prop} {w : World} {va vb : Value} {l : List Ev} (hsm : l.length ≤ 100000) (h1 : EvRow P w va l) (h2 : EvRow P' w vb l) :
    Calls Try.prog 11 #[va, vb] w fun e w' => e = .returned (.bool true) ∧ Below w.heap.size w w' := same06_rd hsm h1.ev h2.ev
/-- What a pick tells of. -/
theorem pick_tr (M : Mac) (S : SW M.σ) (k a n : Int) : (M.pick S k a n).1.tr = if (M.pick S k a n).2.2 = 0 then S.tr ++ [(M.pick S k a n).2.1] else S.tr := by
  have ha := (act_facts M S k a).1
  unfold Mac.pick
  split
  · split
    · simp
    · simp
  split
  · split
    · rename_i h
      simp [ha]
    · rename_i h
      simp [ha, h]
  · simp
/-- The trace tells of all that a row of picks told of. -/
theorem run_tr (M : Mac) (S : SW M.σ) (L : List PickV) : (M.run S L).1.tr = S.tr ++ (M.run S L).2 := by
  have key : ∀ (L : List PickV) (R : SW M.σ × List Ev), R.1.tr = S.tr ++ R.2 → (L.foldl M.run1 R).1.tr = S.tr ++ (L.foldl M.run1 R).2 := by
    intro L
    induction L with
    | nil => exact fun R h => h
    | cons p L ih =>
      intro R h
      refine ih _ ?_
      unfold Mac.run1
      dsimp only
      rw [pick_tr]
      split
      · rw [h, List.append_assoc]
      · exact h
  exact key L (S, []) (by simp)
end Go.Proofs.Ytknahaaefmlcpaa
end
section
namespace Go.Proofs.Ytknahaaefmlcpaa
set_option maxRecDepth 100000
open Go.RowKit
set_option linter.unusedVariables false
set_option linter.unusedSimpArgs false
/-- A slice value owns some n bytes. -/
def OwN (w : World) (v : Value) (n : Nat) : Prop := ∃ l : List Int, l.length = n ∧ OwB 5 0 w v l
theorem OwN.below {w w' : World} {v : Value} {n : Nat} (h : OwN w v n) (b : Below w.heap.size w w') : OwN w' v n := by
  obtain ⟨l, hl, ho⟩ := h
  exact ⟨l, hl, OwB.keepQ ho (Below.keeps (M := fun _ => False) b) (fun _ _ => id)⟩
/-- Events whose bytes may have been turned: the row, and of each a slice of some bytes; all from block B on. -/
structure TrX (B : Nat) (w : World) (v : Value) (es : List (Ev × Value × Value)) : Prop where
  row : w.ownsRow 0 51 12 v es.length (es.flatMap evL)
  bs : ∀ e ∈ es, OwN w e.2.1 e.1.c.b.length
  hb : ∀ e ∈ es, ∀ i, e.2.1.ownBlock = some i → B ≤ i
  sx : ∀ e ∈ es, ∃ a n c, e.2.2 = .slice a n c
theorem TrX.below {B : Nat} {w w' : World} {v : Value} {es : List (Ev × Value × Value)} (h : TrX B w v es) (b : Below w.heap.size w w') : TrX B w' v es :=
  ⟨ownsRow_keep h.row (Below.keeps (M := fun _ => False) b) (fun _ _ => id), fun e he => (h.bs e he).below b, h.hb, h.sx⟩
theorem EvRow.trX {B : Nat} {w : World} {v : Value} {l : List Ev} (h : EvRow (fun i => B ≤ i) w v l) : ∃ es, es.map (·.1) = l ∧ TrX B w v es := by
  obtain ⟨es, e, ho, hp, he⟩ := h
  exact ⟨es, e, ho, fun x hx => ⟨_, rfl, (he x hx).1⟩, fun x hx i hi => (he x hx).2.2 i (.inl hi), fun x hx => (he x hx).2.1.rd.isSl⟩
theorem TrX.sl {B : Nat} {w : World} {v : Value} {es : List (Ev × Value × Value)} (h : TrX B w v es) : ∃ a c, v = .slice a es.length c := by
  rcases h.row.2 with ⟨rfl, h0⟩ | ⟨g, cap, cur, rfl, _⟩
  · exact ⟨none, 0, by rw [h0]⟩
  · exact ⟨_, _, rfl⟩
theorem OwN.sl {w : World} {v : Value} {n : Nat} (h : OwN w v n) : ∃ a c, v = .slice a n c := by
  obtain ⟨l, rfl, ho⟩ := h
  rcases ho.2 with ⟨rfl, h0⟩ | ⟨g, cap, cur, rfl, _⟩
  · exact ⟨none, 0, by rw [h0]⟩
  · exact ⟨_, _, rfl⟩
/-- The cell of a byte of a slice, and its block. -/
theorem OwN.blk {w : World} {v : Value} {n : Nat} (h : OwN w v n) {k : Nat} (hk : k < n) : ∃ g cap, v = .slice (some ⟨g, 0, none⟩) n cap ∧ n ≤ cap ∧ ∃ b, w.cell? ⟨g, k, none⟩ = some (.int .u8 b) ∧ w.frozen? ⟨g, k, none⟩ = false := by
  obtain ⟨l, rfl, ho⟩ := h
  have ho' := ho
  rcases ho.2 with ⟨_, e⟩ | ⟨g, cap, cur, rfl, hb, hh, h1, _⟩
  · omega
  · refine ⟨g, cap, rfl, h1, l[k], ?_, Blk.frozen (cs := cur.toList) ⟨_, hh⟩ k⟩
    have := World.ownsRow.cells ho' rfl k (.int .u8 l[k]) (by simp [hk])
    have e : (⟨g, 0, none⟩ : Addr).add k = ⟨g, 0 + k, none⟩ := by unfold Addr.add; split <;> simp_all
    rw [e, Nat.zero_add] at this
    exact this
/-- A byte of one slice turned: each slice still owns some bytes. -/
theorem OwN.set {w : World} {v u : Value} {n m : Nat} (h : OwN w v n) (hu : OwN w u m) {g cap k : Nat} (hg : u = .slice (some ⟨g, 0, none⟩) m cap) (hk : k < m) (b : Int) : OwN (w.setCell ⟨g, k, none⟩ (.int .u8 b)) v n := by
  obtain ⟨l, rfl, ho⟩ := h
  by_cases hv : v.ownBlock = some g
  · rcases ho with ⟨h1, h2⟩
    rcases h2 with ⟨rfl, _⟩ | ⟨g', cap', cur, rfl, hb, hheap, e1, e2, e3, e4⟩
    · cases hv
    obtain rfl : g' = g := Option.some.inj hv
    refine ⟨l.set k b, by simp, ⟨by simp, .inr ⟨g', cap', cur.setIfInBounds k (.int .u8 b), by simp, hb, ?_, by simpa using e1, e2, by simpa using e3, ?_⟩⟩⟩
    · show (w.heap.modify g' _)[g']? = _
      rw [Array.getElem?_modify, if_pos rfl, hheap]
      rfl
    · rw [Array.toList_setIfInBounds, List.take_set, List.length_set, e4, List.map_set]
  · exact ⟨l, rfl, OwB.keepQ ho (Keep.setCell (M := (· = g)) (Keep.refl _ _) (p := ⟨g, k, none⟩) (.inl rfl) _) (fun i hi e => hv (by rw [hi]; exact congrArg some e))⟩
/-- A byte of an event's copy turned. -/
theorem TrX.set {B : Nat} {w : World} {v : Value} {es : List (Ev × Value × Value)} (h : TrX B w v es) {u : Value} {m g cap k : Nat} (hu : OwN w u m) (hg : u = .slice (some ⟨g, 0, none⟩) m cap) (hk : k < m) (b : Int) : TrX B (w.setCell ⟨g, k, none⟩ (.int .u8 b)) v es := by
  refine ⟨ownsRow_keep h.row (Keep.setCell (M := (· = g)) (Keep.refl _ _) (p := ⟨g, k, none⟩) (.inl rfl) _) (fun i hi e => ?_), fun e he => (h.bs e he).set hu hg hk b, h.hb, h.sx⟩
  obtain rfl : i = g := e
  obtain ⟨l, _, ho⟩ := hu
  rcases ho.2 with ⟨e', _⟩ | ⟨g1, c1, u1, e', _, e1, _⟩
  · rw [e'] at hg
    cases hg
  rcases h.row.2 with ⟨rfl, _⟩ | ⟨g2, c2, u2, rfl, _, e2, _⟩
  · cases hi
  have a2 : g2 = i := Option.some.inj hi
  have a1 : g1 = i := by rw [e'] at hg; cases hg; rfl
  rw [a1] at e1
  rw [a2, e1] at e2
  simp only [Option.some.injEq, Obj.cells.injEq] at e2
  exact absurd e2.2.1 (by decide)
/-- The labels of two worlds made one behind the other lie apart. -/
theorem kd_apart {κa κb κ1 κ2 : Nat → Kd} {p1 c1 p2 c2 sA sB sC sD sE : Nat} (hAB : sA ≤ sB) (hBC : sB ≤ sC) (hCD : sC ≤ sD) (hDE : sD ≤ sE) (h1 : p1 < sA) (h2 : c1 < sA) (h3 : sA ≤ p2 ∧ p2 < sB) (h4 : sA ≤ c2 ∧ c2 < sB) (ha : ∀ i, κa i ≠ .no → sB ≤ i ∧ i < sC) (hb : ∀ i, κb i ≠ .no → sC ≤ i ∧ i < sD) (k1 : ∀ i, i < sD → κ1 i = kdB κa p1 c1 i) (a1 : ∀ i, κ1 i ≠ .no → i < sE) (k2 : ∀ i, i < sE → κ2 i = kdB κb p2 c2 i) : ∀ i, κ1 i ≠ .no → κ2 i = .no := by
  intro i hi
  have hE := a1 i hi
  have nb : ∀ j, (j < sC ∨ sD ≤ j) → κb j = .no := by
    intro j hj
    by_cases h : κb j = .no
    · exact h
    · have := hb j h
      omega
  rw [k2 i hE]
  unfold kdB
  by_cases hD : i < sD
  · rw [k1 i hD] at hi
    unfold kdB at hi
    split at hi
    · rename_i h
      rw [if_neg (by omega)]
      exact nb i (by omega)
    · have := ha i hi
      rw [if_neg (by omega)]
      exact nb i (by omega)
  · rw [if_neg (by omega)]
    exact nb i (by omega)
end Go.Proofs.Ytknahaaefmlcpaa
end
