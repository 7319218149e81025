/- Contracts of sync/atomic's methods, in one goroutine. Conditions: the cell is there and not frozen. Contracts of membuf's fields. Conditions: the word is there and not frozen. -/
import Derived.Test.YtpicplkbblmbeaaGreatRw
import Derived.Laws.LoneSync
import Derived.Test.YtpicplkbblmbeaaGreatBt
import Derived.Test.YtpicplkbblmbeaaGreatKp
import Derived.Deep.QuietTactic
import Derived.BigQuiet
import Derived.Laws.Bits64
import Derived.Laws.ShiftsVar
import Derived.Deep.RegionHeld3
section
namespace Go.Proofs.YtpicplkbblmbeaaGreat
set_option maxRecDepth 100000
open Go.RowKit
set_option linter.unusedVariables false
set_option maxHeartbeats 400000 in
theorem load64_any (c i : Nat) (x : Int) (w : World) (h : w.cell? ⟨c, i, none⟩ = some (.int .u64 x)) :
    Calls Tryz.prog 80 #[.pointer (some ⟨c, i, none⟩)] w fun e w' => e = .returned (.int .u64 x) ∧ w = w' := by
  have hl := run_call_load (P := Tryz.prog) Tryz.func142 (by kernel_rfl) (by kernel_rfl) (by kernel_rfl) .u64 (by kernel_rfl) h
  go_enter Tryz.func80, Tryz.ntmps80
  go_wp2
  go_ret
  exact ⟨rfl, rfl⟩
set_option maxHeartbeats 400000 in
theorem cas64_any (c i : Nat) (old new : Int) (w : World) (h : w.cell? ⟨c, i, none⟩ = some (.int .u64 old)) (hf : w.frozen? ⟨c, i, none⟩ = false) :
    Calls Tryz.prog 161 #[.pointer (some ⟨c, i, none⟩), .int .u64 old, .int .u64 new] w fun e w' => e = .returned (.bool true) ∧ w.setCell ⟨c, i, none⟩ (.int .u64 new) = w' := by
  have hl := run_call_cas_hit (P := Tryz.prog) Tryz.func183 (by kernel_rfl) (by kernel_rfl) (by kernel_rfl) .u64 (by kernel_rfl) (y := new) h hf
  go_enter Tryz.func161, Tryz.ntmps161
  go_wp2
  go_ret
  exact ⟨rfl, rfl⟩
theorem add_run {P : Program} {k : IntKind} (x d : Int) (w : World) : (Op.intArith .add k x d).run P w = .ok (.int k (k.wrap (x + d))) w := rfl
set_option maxHeartbeats 400000 in
theorem add64_any (c i : Nat) (x d : Int) (w : World) (h : w.cell? ⟨c, i, none⟩ = some (.int .u64 x)) (hf : w.frozen? ⟨c, i, none⟩ = false) :
    Calls Tryz.prog 63 #[.pointer (some ⟨c, i, none⟩), .int .u64 d] w fun e w' => e = .returned (.int .u64 (IntKind.u64.wrap (x + d))) ∧ w.setCell ⟨c, i, none⟩ (.int .u64 (IntKind.u64.wrap (x + d))) = w' := by
  obtain ⟨s, hs⟩ : ∃ s, s = IntKind.u64.wrap (x + d) := ⟨_, rfl⟩
  have hl := run_call_add (P := Tryz.prog) Tryz.func121 (by kernel_rfl) (by kernel_rfl) (by kernel_rfl) .u64 (by kernel_rfl) h hf (add_run x d w)
  rw [← hs] at hl ⊢
  clear hs
  go_enter Tryz.func63, Tryz.ntmps63
  go_wp2
  go_ret
  exact ⟨rfl, rfl⟩
set_option maxHeartbeats 400000 in
theorem addI64_any (c i : Nat) (x d : Int) (w : World) (h : w.cell? ⟨c, i, none⟩ = some (.int .i64 x)) (hf : w.frozen? ⟨c, i, none⟩ = false) :
    Calls Tryz.prog 58 #[.pointer (some ⟨c, i, none⟩), .int .i64 d] w fun e w' => e = .returned (.int .i64 (IntKind.i64.wrap (x + d))) ∧ w.setCell ⟨c, i, none⟩ (.int .i64 (IntKind.i64.wrap (x + d))) = w' := by
  obtain ⟨s, hs⟩ : ∃ s, s = IntKind.i64.wrap (x + d) := ⟨_, rfl⟩
  have hl := run_call_add (P := Tryz.prog) Tryz.func119 (by kernel_rfl) (by kernel_rfl) (by kernel_rfl) .i64 (by kernel_rfl) h hf (add_run x d w)
  rw [← hs] at hl ⊢
  clear hs
  go_enter Tryz.func58, Tryz.ntmps58
  go_wp2
  go_ret
  exact ⟨rfl, rfl⟩
end Go.Proofs.YtpicplkbblmbeaaGreat
end
section
namespace Go.Proofs.YtpicplkbblmbeaaGreat
set_option maxRecDepth 100000
open Go.RowKit
set_option linter.unusedVariables false
/-- What is read of a word, and what is written into it, as the code reckons it. -/
def gtV (x m : Int) (o : Nat) : Int := bits .and .u64 (x / 2 ^ (8 * o)) m
def swV (x m v : Int) (o : Nat) : Int := bits .or .u64 (bits .andNot .u64 x (IntKind.u64.wrap (m * 2 ^ (8 * o)))) (IntKind.u64.wrap (bits .and .u64 v m * 2 ^ (8 * o)))
set_option maxHeartbeats 400000 in
theorem get_any (c i o : Nat) (x m : Int) (w : World) (ho : o ≤ 7) (h0 : 0 ≤ x) (h1 : x ≤ 18446744073709551615) (h : w.cell? ⟨c, i, none⟩ = some (.int .u64 x)) :
    Calls Tryz.prog 62 #[.agg #[.pointer (some ⟨c, i, none⟩), .int .u64 (8 * (o : Int)), .int .u64 m]] w fun e w' => e = .returned (.int .u64 (gtV x m o)) ∧ Below w.heap.size w w' := by
  have hlt := World.block_lt_of_cell? w _ h
  go_enter Tryz.func62, Tryz.ntmps62
  go_wp2
  go_quiet ((go_at_call 80; exact quietR (load64_any c i x _ (by go_simp))))
  go_wp2
  go_ret
  exact ⟨rfl, bel_drewN nq (by go_grown)⟩
set_option maxHeartbeats 400000 in
theorem swap_any (c i o : Nat) (ws : List Int) (m v : Int) (w : World) (ho : o ≤ 7) (h0 : 0 ≤ gB ws i) (h1 : gB ws i ≤ 18446744073709551615) (h : WB w c ws) (hi : i < ws.length) :
    Calls Tryz.prog 120 #[.agg #[.pointer (some ⟨c, i, none⟩), .int .u64 (8 * (o : Int)), .int .u64 m], .int .u64 (gB ws i), .int .u64 v] w fun e w' => e = .returned (.bool true) ∧ WB w' c (ws.set i (swV (gB ws i) m v o)) ∧ Keep (· = c) w w' := by
  have hlt := h.lt
  have H := Lib.hid h
  have hcell := h.cell i hi
  have hfr := h.frozen i
  obtain ⟨x, hx⟩ : ∃ x, x = gB ws i := ⟨_, rfl⟩
  rw [← hx] at h0 h1 hcell ⊢
  clear h hx
  go_enter Tryz.func120, Tryz.ntmps120
  go_wp2_with fail
  refine (cas64_any c i x _ _ (by go_simp) (by go_simp)).mono ?_
  rintro e w' ⟨rfl, rfl⟩
  go_wp2
  go_ret
  exact ⟨rfl, Blk.alloc (WB.set H.out i _) _, Keep.alloc (Keep.setCell (M := (· = c)) (Keep.refl _ w) (p := ⟨c, i, none⟩) (.inl rfl) _) _⟩
set_option maxHeartbeats 400000 in
theorem put_any (c i o : Nat) (ws : List Int) (m v : Int) (w : World) (ho : o ≤ 7) (h0 : 0 ≤ gB ws i) (h1 : gB ws i ≤ 18446744073709551615) (h : WB w c ws) (hi : i < ws.length) :
    Calls Tryz.prog 61 #[.agg #[.pointer (some ⟨c, i, none⟩), .int .u64 (8 * (o : Int)), .int .u64 m], .int .u64 v] w fun e w' => e = .returned (.tuple #[]) ∧ WB w' c (ws.set i (swV (gB ws i) m v o)) ∧ Keep (· = c) w w' := by
  have hlt := h.lt
  have H := Lib.hid h
  have hcell := h.cell i hi
  go_enter Tryz.func61, Tryz.ntmps61
  go_wp2_with fail
  refine wp_loop_rounds 1 ?_
  rw [rounds_succ]
  go_wp2_with fail
  have HI := Lib.hid hi
  go_region_held3 (fun w' => w'.cell? ⟨w.heap.size, 0, none⟩ = some (.pointer (some ⟨c, i, none⟩)) ∧ w'.cell? ⟨w.heap.size, 1, none⟩ = some (.int .u64 (8 * (o : Int))) ∧ w'.cell? ⟨w.heap.size, 2, none⟩ = some (.int .u64 m)) (go_keep)
    (first
      | (go_at_call 80; refine (load64_any c i (gB ws i) _ (by go_simp)).mono ?_; rintro e w' ⟨rfl, rfl⟩)
      | (go_at_call 120; refine (swap_any c i o ws m v _ ho h0 h1 (Blk.drew (Blk.alloc H.out _)) HI.out).mono ?_; rintro e w1 ⟨rfl, hw1, hk1⟩; have hz1 := hk1.size; have hc1 := fun o => hk1.cell (b := w.heap.size) o (by simp) (by show ¬ w.heap.size = c; omega)))
  go_wp2_with fail
  go_end0
  exact ⟨rfl, hw1, (((Keep.refl _ w).alloc _).drew).trans hk1⟩
theorem msk_eq (n : Nat) (h : n ≤ 7) : IntKind.u64.wrap (IntKind.u64.wrap (2 ^ (8 * n)) - 1) = 256 ^ n - 1 := by
  match n, h with
  | 0, _ | 1, _ | 2, _ | 3, _ | 4, _ | 5, _ | 6, _ | 7, _ => decide
/-- A single result in a cell. -/
theorem results_cell1b {fn : Func} {p : Tmp} {ty : TypeId} (h : fn.results = #[.cell p ty]) (tmps : Array Value) (P : Program) (w : World) :
    (results fn tmps).run P w = ((asAddr (tmps.getD p undef)).run P w).andThen fun a w₁ => (loadVar ty a).run P w₁ := by
  simp only [results, h]
  simp [Sem.run_bind, Result.andThen]
set_option maxHeartbeats 400000 in
theorem at_any (p c a n cap : Nat) (cnt : Value) (k : Nat) (w : World) (hb : Blk w p [.slice (some ⟨c, 0, none⟩) k cap, cnt]) (ha : a < 8 * k) (hk : k ≤ 1000000) (hn : n ≤ 8) :
    Calls Tryz.prog 60 #[.pointer (some ⟨p, 0, none⟩), .int .i64 a, .int .i64 n] w fun e w' => e = .returned (.agg #[.pointer (some ⟨c, a / 8, none⟩), .int .u64 (8 * ((a : Int) % 8)), .int .u64 (256 ^ n - 1)]) ∧ Below w.heap.size w w' := by
  have hlt := hb.lt
  have hc0 := hb.cell 0
  simp only [List.getElem?_cons_zero] at hc0
  by_cases h8 : (n : Int) < 8
  · have HM := Lib.hid (show IntKind.u64.wrap (IntKind.u64.wrap (2 ^ (8 * n)) - 1) = 256 ^ n - 1 from msk_eq n (by omega))
    go_enter Tryz.func60, Tryz.ntmps60
    go_wp2_with fail
    (try simp only [Exit.inBlock, Exit.then])
    refine bodyPost_ret ?_ rfl ⟨rfl, by go_grown⟩
    rw [results_cell1b rfl]
    go_simp
    exact HM.out
  · obtain rfl : n = 8 := by omega
    go_enter Tryz.func60, Tryz.ntmps60
    go_wp2_with fail
    (try simp only [Exit.inBlock, Exit.then])
    refine bodyPost_ret ?_ rfl ⟨rfl, by go_grown⟩
    rw [results_cell1b rfl]
    go_simp
set_option maxHeartbeats 1000000 in
/-- cas, where the number is there. -/
theorem cas_hit (c i o : Nat) (ws : List Int) (m old v : Int) (w : World) (ho : o ≤ 7) (h0 : 0 ≤ gB ws i) (h1 : gB ws i ≤ 18446744073709551615) (h : WB w c ws) (hi : i < ws.length) (he : gtV (gB ws i) m o = bits .and .u64 old m) :
    Calls Tryz.prog 64 #[.agg #[.pointer (some ⟨c, i, none⟩), .int .u64 (8 * (o : Int)), .int .u64 m], .int .u64 old, .int .u64 v] w fun e w' => e = .returned (.tuple #[.int .u64 (gtV (gB ws i) m o), .bool true]) ∧ WB w' c (ws.set i (swV (gB ws i) m v o)) ∧ Keep (· = c) w w' := by
  have hlt := h.lt
  have H := Lib.hid h
  have HI := Lib.hid hi
  have hcell := h.cell i hi
  have he' := Lib.hid he
  have hne : (bits .and .u64 (gB ws i / 2 ^ (8 * o)) m != bits .and .u64 old m) = false := by
    unfold gtV at he
    simp [he]
  clear he hi
  go_enter Tryz.func64, Tryz.ntmps64
  go_wp2_with fail
  refine wp_loop_rounds 1 ?_
  rw [rounds_succ]
  go_wp2_with fail
  refine (load64_any c i (gB ws i) _ (by go_simp)).mono ?_
  rintro e w' ⟨rfl, rfl⟩
  go_wp2_with fail
  refine (swap_any c i o ws m v _ ho h0 h1 (Blk.alloc H.out _) HI.out).mono ?_
  rintro e w1 ⟨rfl, hw1, hk1⟩
  go_wp2
  go_ret2
  exact ⟨rfl, hw1, ((Keep.refl _ w).alloc _).trans hk1⟩
set_option maxHeartbeats 1000000 in
/-- cas, where another number is there. -/
theorem cas_miss (c i o : Nat) (x m old v : Int) (w : World) (ho : o ≤ 7) (h0 : 0 ≤ x) (h1 : x ≤ 18446744073709551615) (h : w.cell? ⟨c, i, none⟩ = some (.int .u64 x)) (he : ¬ gtV x m o = bits .and .u64 old m) :
    Calls Tryz.prog 64 #[.agg #[.pointer (some ⟨c, i, none⟩), .int .u64 (8 * (o : Int)), .int .u64 m], .int .u64 old, .int .u64 v] w fun e w' => e = .returned (.tuple #[.int .u64 (gtV x m o), .bool false]) ∧ Below w.heap.size w w' := by
  have hlt := World.block_lt_of_cell? w _ h
  have hne : (bits .and .u64 (x / 2 ^ (8 * o)) m != bits .and .u64 old m) = true := by
    unfold gtV at he
    simpa using he
  clear he
  go_enter Tryz.func64, Tryz.ntmps64
  go_wp2_with fail
  refine wp_loop_rounds 1 ?_
  rw [rounds_succ]
  go_wp2_with fail
  refine (load64_any c i x _ (by go_simp)).mono ?_
  rintro e w' ⟨rfl, rfl⟩
  go_wp2
  go_ret2
  exact ⟨rfl, by go_grown⟩
end Go.Proofs.YtpicplkbblmbeaaGreat
end
