/- Families of machines behind an interface; an actor in memory; the contract of its next. Conditions: as each says. -/
import Derived.Test.YtggjhleomocojaaGreatKe
import Derived.Deep.RegionWith
import Derived.Shelf.Abstract
import Derived.Test.YtggjhleomocojaaGreatWb
namespace Go.Proofs.YtggjhleomocojaaGreat
set_option maxRecDepth 100000
open Go.RowKit
set_option linter.unusedVariables false
set_option linter.unusedSimpArgs false
def AA.V (c : AA) (s : Value) : Value := .agg #[.int .i64 c.k, .int .i64 c.a, .int .i64 c.n, .int .u64 c.v, .int .u64 c.x, s]
structure Fam where
 M : Mac
 inv : World → (Nat → Prop) → Nat → M.σ → Prop
 ty : M.σ → TypeId
 fn : M.σ → FuncId
 ft : M.σ → FuncId
 mn : ∀ s b w, (method (Tryz.prog.types.size + Made.depth) (ty s) (.pointer (some ⟨b, 0, none⟩)) "Next").run Tryz.prog w = .ok (fn s, .pointer (some ⟨b, 0, none⟩)) w
 mt : ∀ s b w, (method (Tryz.prog.types.size + Made.depth) (ty s) (.pointer (some ⟨b, 0, none⟩)) "Take").run Tryz.prog w = .ok (ft s, .pointer (some ⟨b, 0, none⟩)) w
 en : ∀ s args w, (callFunc (fn s) args).run Tryz.prog w = .ok (.enter (fn s) args) w
 et : ∀ s args w, (callFunc (ft s) args).run Tryz.prog w = .ok (.enter (ft s) args) w
 ts : ∀ s x, ty (M.step s x) = ty s
 dom : ∀ {w F q s}, inv w F q s → F q ∧ ∀ i, F i → i < w.heap.size
 mono : ∀ {w q s} {F F' : Nat → Prop}, inv w F q s → (∀ i, F i → F' i) → (∀ i, F' i → i < w.heap.size) → inv w F' q s
 keep : ∀ {w w' F q s} {K : Nat → Prop}, inv w F q s → Keep K w w' → (∀ i, F i → ¬ K i) → inv w' F q s
 wf : ∀ {w F q s}, inv w F q s → (M.want s).wf
 next : ∀ {w F q s}, inv w F q s → Calls Tryz.prog (fn s) #[.pointer (some ⟨q, 0, none⟩)] w fun e w' => ∃ s0 sl sc, e = .returned (.tuple #[(M.want s).V (.slice s0 sl sc), .bool (M.live s)]) ∧ RdB w' (.slice s0 sl sc) (M.want s).b ∧ Below w.heap.size w w'
 take : ∀ {w F q s x s0 sl sc}, inv w F q s → M.live s = true → AN.ok (M.want s) x → RdB w (.slice s0 sl sc) x.b →
  Calls Tryz.prog (ft s) #[.pointer (some ⟨q, 0, none⟩), .agg #[.int .u64 x.v, .bool x.d, .slice s0 sl sc]] w fun e w' => e = .returned (.tuple #[]) ∧ ∃ F', inv w' F' q (M.step s x) ∧ (∀ i, F' i → F i ∨ w.heap.size ≤ i) ∧ Keep F w w'
def McIn (C : Fam) (w : World) (F : Nat → Prop) (mv : Value) (m : Option C.M.σ) : Prop :=
 match m with
 | none => mv = .nilIface
 | some s => ∃ q, mv = .iface (C.ty s) (.pointer (some ⟨q, 0, none⟩)) ∧ C.inv w F q s
def AcIn (C : Fam) (w : World) (F : Nat → Prop) (ab : Nat) (a : Ac C.M.σ) : Prop := ∃ mv, Blk w ab [mv, .bool a.dead] ∧ McIn C w F mv a.m
variable {w w' : World}
theorem McIn.keep {C : Fam} {F K : Nat → Prop} {mv : Value} {m : Option C.M.σ} (h : McIn C w F mv m) (k : Keep K w w') (hd : ∀ i, F i → ¬ K i) : McIn C w' F mv m := by
 cases m with
 | none => exact h
 | some s =>
  obtain ⟨q, e, h⟩ := h
  exact ⟨q, e, C.keep h k hd⟩
theorem AcIn.keep {C : Fam} {F K : Nat → Prop} {ab : Nat} {a : Ac C.M.σ} (h : AcIn C w F ab a) (k : Keep K w w') (hd : ∀ i, F i → ¬ K i) (hb : ¬ K ab) : AcIn C w' F ab a := by
 obtain ⟨mv, h1, h2⟩ := h
 exact ⟨mv, h1.keep k hb, h2.keep k hd⟩
theorem res_aa {fn : Func} {tmps : Array Value} {W : World} {q : Nat} {c : AA} {s E : Value} (hf : fn.results = #[.cell 2 72, .tmp 3]) (hp : tmps.getD 2 undef = .pointer (some ⟨q, 0, none⟩)) (he : tmps.getD 3 undef = E)
  (h : Blk W q [.int .i64 c.k, .int .i64 c.a, .int .i64 c.n, .int .u64 c.v, .int .u64 c.x, s]) :
  (results fn tmps).run Tryz.prog W = .ok (.tuple #[c.V s, E]) W := by
 have c0 := h.cell 0
 have c1 := h.cell 1
 have c2 := h.cell 2
 have c3 := h.cell 3
 have c4 := h.cell 4
 have c5 := h.cell 5
 simp only [List.getElem?_cons_zero, List.getElem?_cons_succ] at c0 c1 c2 c3 c4 c5
 clear h
 rw [results_cell_tmp hf, hp, he]
 go_simp
 rfl
theorem RdB.keep {K : Nat → Prop} {v : Value} {l : List Int} (h : RdB w v l) (k : Keep K w w') (hd : l.length ≠ 0 → ∀ i, v.ownBlock = some i → ¬ K i) : RdB w' v l := by
 rcases h with h | h | ⟨b, off, cap, e1, e2, e3, e4⟩
 ·exact .inl h
 ·exact .inr (.inl h)
 ·refine .inr <| .inr ⟨b, off, cap, e1, e2, e3, fun i hi => ?_⟩
  have hc := e4 i hi
  exact (k.cell _ (World.block_lt_of_cell? w _ hc) (hd (by omega) b (by rw [e1]; rfl))).trans hc
def noByte : Value → Bool
 | .int .u8 _ => false
 | _ => true
theorem RdB.apart {w : World} {v : Value} {l : List Int} (h : RdB w v l) (hl : l.length ≠ 0) {b : Nat} {cs : List Value} (hb : Blk w b cs) (hn : cs.all noByte = true) : ∀ i, v.ownBlock = some i → i ≠ b := by
 rcases h with ⟨_, rfl⟩ | ⟨_, _, _, rfl, _⟩ | ⟨g, off, cap, e1, e2, e3, e4⟩
 ·exact absurd rfl hl
 ·exact absurd rfl hl
 ·intro i hi e
  rw [e1] at hi
  obtain rfl : g = i := by simpa [Value.ownBlock] using hi
  subst e
  have hc := e4 0 (by omega)
  rw [hb.cell] at hc
  have hm := List.mem_of_getElem? hc
  have := List.all_eq_true.1 hn _ hm
  simp [noByte] at this
theorem qIf (w : World) (t : TypeId) (v : Value) : (binOp .eql 66 (.iface t v) .nilIface).run Tryz.prog w = .ok (.bool false) w := by kernel_rfl
theorem qIn (w : World) : (binOp .eql 66 .nilIface .nilIface).run Tryz.prog w = .ok (.bool true) w := by kernel_rfl
set_option maxHeartbeats 1000000 in
theorem aNext_nil (ab : Nat) (d : Bool) (w : World) (h : Blk w ab [.nilIface, .bool d]) :
  Calls Tryz.prog 39 #[.pointer (some ⟨ab, 0, none⟩)] w fun e w' => e = .returned (.tuple #[aaZ.V (.slice none 0 0), .bool false]) ∧ Below w.heap.size w w' := by
 have hlt := h.lt
 have c0 := h.cell 0
 simp only [List.getElem?_cons_zero] at c0
 clear h
 have q1 := qIf
 have q2 := qIn
 go_enter Tryz.func39, Tryz.ntmps39
 go_wp2
 refine bodyPost_ret (v := .tuple #[aaZ.V (.slice none 0 0), .bool false]) (res_aa (c := aaZ) rfl rfl rfl (Blk.made _ _ _)) rfl ⟨rfl, by go_grown⟩
set_option maxHeartbeats 1000000 in
theorem aNext_some (C : Fam) (F : Nat → Prop) (ab q : Nat) (d : Bool) (s : C.M.σ) (w : World) (h : Blk w ab [.iface (C.ty s) (.pointer (some ⟨q, 0, none⟩)), .bool d]) (hi : C.inv w F q s) :
  Calls Tryz.prog 39 #[.pointer (some ⟨ab, 0, none⟩)] w fun e w' => ∃ s0 sl sc, e = .returned (.tuple #[(C.M.want s).V (.slice s0 sl sc), .bool (C.M.live s)]) ∧ RdB w' (.slice s0 sl sc) (C.M.want s).b ∧ Below w.heap.size w w' := by
 have hlt := h.lt
 have c0 := h.cell 0
 simp only [List.getElem?_cons_zero] at c0
 have HI := Lib.hid hi
 clear h hi
 have q1 := qIf
 have q2 := qIn
 have mn := C.mn s q
 simp only [Tryz.types_size, Made.depth, Nat.reduceAdd] at mn
 have en := C.en s
 go_enter Tryz.func39, Tryz.ntmps39
 go_wp2_with fail
 refine (C.next (C.keep HI.out (Below.keeps (M := fun _ => False) ((Below.refl w.heap.size w).alloc (Nat.le_refl _) _)) (fun _ _ => id))).mono ?_
 rintro e w1 ⟨s0, sl, sc, rfl, hr, b1⟩
 unfold AA.V
 dsimp only
 have z1 := b1.size
 simp at z1
 have A1 := Lib.hid (Blk.below (Blk.made w #[.int .i64 0, .int .i64 0, .int .i64 0, .int .u64 0, .int .u64 0, .slice none 0 0] 72) b1 (by simp))
 have B1 : Below w.heap.size w w1 := ((Below.refl w.heap.size w).alloc (Nat.le_refl _) _).trans (b1.mono (by simp))
 have y1 : w.heap.size < w1.heap.size := by omega
 have HR := Lib.hid hr
 clear b1 hr
 have a0 := A1.out.cell 0
 have a1 := A1.out.cell 1
 have a2 := A1.out.cell 2
 have a3 := A1.out.cell 3
 have a4 := A1.out.cell 4
 have a5 := A1.out.cell 5
 have e0 := A1.out.frozen 0
 have e1 := A1.out.frozen 1
 have e2 := A1.out.frozen 2
 have e3 := A1.out.frozen 3
 have e4 := A1.out.frozen 4
 have e5 := A1.out.frozen 5
 simp only [List.getElem?_toArray, List.getElem?_cons_zero, List.getElem?_cons_succ] at a0 a1 a2 a3 a4 a5
 go_wp2
 refine bodyPost_ret (v := .tuple #[(C.M.want s).V (.slice s0 sl sc), .bool (C.M.live s)]) (res_aa (c := C.M.want s) rfl rfl rfl (((((((A1.out.set 0 _).set 1 _).set 2 _).set 3 _).set 4 _).set 5 _))) rfl ⟨s0, sl, sc, rfl, ?_, ?_⟩
 ·refine HR.out.keep (K := (· = w.heap.size)) ?_ (fun h => HR.out.apart h A1.out rfl)
  repeat' (refine Keep.setCell (M := (· = w.heap.size)) ?_ (Or.inl (by simp)) _)
  exact Keep.refl _ _
 ·repeat' (refine Below.setCell ?_ (by simp; try omega) _)
  exact B1
end Go.Proofs.YtggjhleomocojaaGreat
namespace Go.Proofs.YtggjhleomocojaaGreat
set_option maxRecDepth 100000
open Go.RowKit
set_option linter.unusedVariables false
set_option linter.unusedSimpArgs false
def rgE (b s : Int) : Int := if rgOk b s = true then 0 else 1
theorem tmod8 {b : Int} (h : 0 ≤ b) : b.tmod 8 = b % 8 := Int.tmod_eq_emod_of_nonneg h
set_option maxHeartbeats 2000000 in
theorem rCheck_any (b s : Int) (w : World) (hb0 : -9223372036854775808 ≤ b) (hb1 : b ≤ 9223372036854775807) (hs0 : -9223372036854775808 ≤ s) (hs1 : s ≤ 9223372036854775807) :
  Calls Tryz.prog 35 #[.agg #[.int .i64 b, .int .i64 s]] w fun e w' => e = .returned (.int .i64 (rgE b s)) ∧ Below w.heap.size w w' := by
 by_cases c0 : 64 ≤ s
 rotate_left
 ·have HV' : rgOk b s = false := by unfold rgOk; simp; intros; first | contradiction | omega
  have HV := Lib.hid (show rgOk b s = false ∧ rgE b s = 1 from ⟨HV', by unfold rgE; rw [HV']; rfl⟩)
  clear HV'
  go_enter Tryz.func35, Tryz.ntmps35
  go_wp2_with fail
  go_ret
  exact ⟨by first | rw [HV.out.1]; rfl | rw [HV.out.2]; rfl | (rw [HV.out.1]; exact congrArg (fun x => Ending.returned (.bool x)) (decide_eq_false (by omega))) | (rw [HV.out.1]; exact congrArg (fun x => Ending.returned (.bool x)) (decide_eq_true (by omega))), by go_grown⟩
 by_cases c1 : s ≤ 8192
 rotate_left
 ·have HV' : rgOk b s = false := by unfold rgOk; simp; intros; first | contradiction | omega
  have HV := Lib.hid (show rgOk b s = false ∧ rgE b s = 1 from ⟨HV', by unfold rgE; rw [HV']; rfl⟩)
  clear HV'
  go_enter Tryz.func35, Tryz.ntmps35
  go_wp2_with fail
  go_ret
  exact ⟨by first | rw [HV.out.1]; rfl | rw [HV.out.2]; rfl | (rw [HV.out.1]; exact congrArg (fun x => Ending.returned (.bool x)) (decide_eq_false (by omega))) | (rw [HV.out.1]; exact congrArg (fun x => Ending.returned (.bool x)) (decide_eq_true (by omega))), by go_grown⟩
 by_cases c2 : isP s = true
 rotate_left
 ·have HV' : rgOk b s = false := by unfold rgOk; simp; intros; first | contradiction | omega
  have HV := Lib.hid (show rgOk b s = false ∧ rgE b s = 1 from ⟨HV', by unfold rgE; rw [HV']; rfl⟩)
  clear HV'
  have c2' : isP s = false := by simpa using c2
  clear c2
  go_enter Tryz.func35, Tryz.ntmps35
  go_wp2_with (go_at_call 71; refine (isPower_any _ _ (by omega)).mono ?_; rintro e w' ⟨rfl, rfl⟩)
  go_ret
  exact ⟨by first | rw [HV.out.1]; rfl | rw [HV.out.2]; rfl | (rw [HV.out.1]; exact congrArg (fun x => Ending.returned (.bool x)) (decide_eq_false (by omega))) | (rw [HV.out.1]; exact congrArg (fun x => Ending.returned (.bool x)) (decide_eq_true (by omega))), by go_grown⟩
 by_cases c3 : 0 ≤ b
 rotate_left
 ·have HV' : rgOk b s = false := by unfold rgOk; simp; intros; first | contradiction | omega
  have HV := Lib.hid (show rgOk b s = false ∧ rgE b s = 1 from ⟨HV', by unfold rgE; rw [HV']; rfl⟩)
  clear HV'
  have P := c2
  go_enter Tryz.func35, Tryz.ntmps35
  go_wp2_with (go_at_call 71; refine (isPower_any _ _ (by omega)).mono ?_; rintro e w' ⟨rfl, rfl⟩)
  go_ret
  exact ⟨by first | rw [HV.out.1]; rfl | rw [HV.out.2]; rfl | (rw [HV.out.1]; exact congrArg (fun x => Ending.returned (.bool x)) (decide_eq_false (by omega))) | (rw [HV.out.1]; exact congrArg (fun x => Ending.returned (.bool x)) (decide_eq_true (by omega))), by go_grown⟩
 by_cases c4 : b % 8 = 0
 rotate_left
 ·have HV' : rgOk b s = false := by unfold rgOk; simp; intros; first | contradiction | omega
  have HV := Lib.hid (show rgOk b s = false ∧ rgE b s = 1 from ⟨HV', by unfold rgE; rw [HV']; rfl⟩)
  clear HV'
  have P := c2
  have q8 := tmod8 c3
  have c4' : ¬ b.tmod 8 = 0 := by rw [q8]; exact c4
  go_enter Tryz.func35, Tryz.ntmps35
  go_wp2_with (go_at_call 71; refine (isPower_any _ _ (by omega)).mono ?_; rintro e w' ⟨rfl, rfl⟩)
  go_ret
  exact ⟨by first | rw [HV.out.1]; rfl | rw [HV.out.2]; rfl | (rw [HV.out.1]; exact congrArg (fun x => Ending.returned (.bool x)) (decide_eq_false (by omega))) | (rw [HV.out.1]; exact congrArg (fun x => Ending.returned (.bool x)) (decide_eq_true (by omega))), by go_grown⟩
 by_cases c5 : b ≤ 131040 - s
 rotate_left
 ·have HV' : rgOk b s = false := by unfold rgOk; simp; intros; first | contradiction | omega
  have HV := Lib.hid (show rgOk b s = false ∧ rgE b s = 1 from ⟨HV', by unfold rgE; rw [HV']; rfl⟩)
  clear HV'
  have P := c2
  have q8 := tmod8 c3
  rw [← q8] at c4
  have W1 : IntKind.i64.wrap (131072 - s) = 131072 - s := IntWalk.i64_in _ ⟨by omega, by omega⟩
  have W2 : IntKind.i64.wrap (131072 - s - 32) = 131072 - s - 32 := IntWalk.i64_in _ ⟨by omega, by omega⟩
  have c5' : 131072 - s - 32 < b := by omega
  go_enter Tryz.func35, Tryz.ntmps35
  go_wp2_with (go_at_call 71; refine (isPower_any _ _ (by omega)).mono ?_; rintro e w' ⟨rfl, rfl⟩)
  go_ret
  exact ⟨by first | rw [HV.out.1]; rfl | rw [HV.out.2]; rfl | (rw [HV.out.1]; exact congrArg (fun x => Ending.returned (.bool x)) (decide_eq_false (by omega))) | (rw [HV.out.1]; exact congrArg (fun x => Ending.returned (.bool x)) (decide_eq_true (by omega))), by go_grown⟩
 have HV' : rgOk b s = true := by unfold rgOk; simp; refine ⟨⟨⟨⟨⟨?_, ?_⟩, ?_⟩, ?_⟩, ?_⟩, ?_⟩ <;> first | assumption | omega
 have HV := Lib.hid (show rgOk b s = true ∧ rgE b s = 0 from ⟨HV', by unfold rgE; rw [HV']; rfl⟩)
 clear HV'
 have q8 := tmod8 c3
 rw [← q8] at c4
 have W1 : IntKind.i64.wrap (131072 - s) = 131072 - s := IntWalk.i64_in _ ⟨by omega, by omega⟩
 have W2 : IntKind.i64.wrap (131072 - s - 32) = 131072 - s - 32 := IntWalk.i64_in _ ⟨by omega, by omega⟩
 have c5' : b ≤ 131072 - s - 32 := by omega
 go_enter Tryz.func35, Tryz.ntmps35
 go_wp2_with (go_at_call 71; refine (isPower_any _ _ (by omega)).mono ?_; rintro e w' ⟨rfl, rfl⟩)
 go_ret
 exact ⟨by first | rw [HV.out.1]; rfl | rw [HV.out.2]; rfl | (rw [HV.out.1]; exact congrArg (fun x => Ending.returned (.bool x)) (decide_eq_false (by omega))) | (rw [HV.out.1]; exact congrArg (fun x => Ending.returned (.bool x)) (decide_eq_true (by omega))), by go_grown⟩
end Go.Proofs.YtggjhleomocojaaGreat
