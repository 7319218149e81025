/- ring.Filler: its Next, its Take, and it as a family of machines. Conditions: as each says. -/
import Derived.Test.YtggjhleomocojaaGreatDc
import Derived.Test.YtggjhleomocojaaGreatDd
import Derived.Test.YtggjhleomocojaaGreatDs
import Derived.Test.YtggjhleomocojaaGreatYq
section
namespace Go.Proofs.YtggjhleomocojaaGreat
set_option maxRecDepth 100000
open Go.RowKit
set_option linter.unusedVariables false
set_option linter.unusedSimpArgs false
theorem fil_ty : ∀ s, filK.C.ty s = 97 := fun _ => rfl
variable {q : Nat}
set_option maxHeartbeats 2000000 in
theorem filNext_of {W : AA} {L : Bool} (w : World) (hlt : q < w.heap.size)
  (hc : ∀ w1, Below w.heap.size w w1 → Calls Tryz.prog 203 #[ptr q] w1 fun e w' => ∃ s0 sl sc, e = .returned (.tuple #[W.V (.slice s0 sl sc), .bool L]) ∧ RdB w' (.slice s0 sl sc) W.b ∧ Below w1.heap.size w1 w') :
  Calls Tryz.prog 201 #[ptr q] w fun e w' => ∃ s0 sl sc, e = .returned (.tuple #[W.V (.slice s0 sl sc), .bool L]) ∧ RdB w' (.slice s0 sl sc) W.b ∧ Below w.heap.size w w' := by
 have HC := Lib.hid hc
 clear hc
 unfold ptr
 go_enter Tryz.func201, Tryz.ntmps201
 go_wp2_with fail
 refine (HC.out (w.alloc (.cells #[.int .i64 0, .int .i64 0, .int .i64 0, .int .u64 0, .int .u64 0, .slice none 0 0] 72)) ((Below.refl w.heap.size w).alloc (Nat.le_refl _) _)).mono ?_
 rintro e w1 ⟨s0, sl, sc, rfl, hr, b1⟩
 unfold AA.V
 dsimp only
 have z1 := b1.size
 simp at z1
 have A1 := Lib.hid (Blk.below (Blk.made w #[.int .i64 0, .int .i64 0, .int .i64 0, .int .u64 0, .int .u64 0, .slice none 0 0] 72) b1 (by simp))
 have B1 : Below w.heap.size w w1 := ((Below.refl w.heap.size w).alloc (Nat.le_refl _) _).trans (b1.mono (by simp))
 have y1 : w.heap.size < w1.heap.size := by omega
 have HR := Lib.hid hr
 clear b1 hr
 have a0 := A1.out.cell 0
 have a1 := A1.out.cell 1
 have a2 := A1.out.cell 2
 have a3 := A1.out.cell 3
 have a4 := A1.out.cell 4
 have a5 := A1.out.cell 5
 have e0 := A1.out.frozen 0
 have e1 := A1.out.frozen 1
 have e2 := A1.out.frozen 2
 have e3 := A1.out.frozen 3
 have e4 := A1.out.frozen 4
 have e5 := A1.out.frozen 5
 simp only [List.getElem?_toArray, List.getElem?_cons_zero, List.getElem?_cons_succ] at a0 a1 a2 a3 a4 a5
 go_wp2
 refine bodyPost_ret (v := .tuple #[W.V (.slice s0 sl sc), .bool L]) (res_aa (c := W) rfl rfl rfl (((((((A1.out.set 0 _).set 1 _).set 2 _).set 3 _).set 4 _).set 5 _))) rfl ⟨s0, sl, sc, rfl, ?_, ?_⟩
 ·refine HR.out.keep (K := (· = w.heap.size)) ?_ (fun h => HR.out.apart h A1.out rfl)
  repeat' (refine Keep.setCell (M := (· = w.heap.size)) ?_ (Or.inl (by simp)) _)
  exact Keep.refl _ _
 ·repeat' (refine Below.setCell ?_ (by simp; try omega) _)
  exact B1
set_option maxHeartbeats 2000000 in
theorem filTake_of (v : Int) (d : Bool) (s0 : Option Addr) (sl sc : Nat) (Q : World → Prop) (w : World) (hlt : q < w.heap.size)
  (hc : ∀ w1, Below w.heap.size w w1 → Calls Tryz.prog 204 #[ptr q, .agg #[.int .u64 v, .bool d, .slice s0 sl sc]] w1 fun e w' => e = .returned (.tuple #[]) ∧ Q w' ∧ Keep (fun k => k < w.heap.size) w1 w') :
  Calls Tryz.prog 202 #[ptr q, .agg #[.int .u64 v, .bool d, .slice s0 sl sc]] w fun e w' => e = .returned (.tuple #[]) ∧ Q w' := by
 have HC := Lib.hid hc
 clear hc
 unfold ptr
 go_enter Tryz.func202, Tryz.ntmps202
 go_wp2_with fail
 go_region_held3 (fun w' => w'.cell? ⟨w.heap.size, 0, none⟩ = some (.int .u64 v) ∧ w'.cell? ⟨w.heap.size, 1, none⟩ = some (.bool d) ∧ w'.cell? ⟨w.heap.size, 2, none⟩ = some (.slice s0 sl sc)) (first | go_keep | trivial)
  (first
   | (go_at_call 204; refine (HC.out _ (by go_grown)).mono ?_; rintro e w2 ⟨rfl, hQ, hk⟩; have hc := fun o => hk.cell (b := w.heap.size) o (by simp) (by simp)))
 all_goals
  clear hc
  go_wp2
  go_end0
  exact ⟨rfl, hQ⟩
variable {w : World} {F : Nat → Prop}
theorem filNext_any {cur : Option filK.C.M.σ} {t : filK.c.τ} (h : filK.P w q F cur t) (hf : filK.c.fin (cur, t)) :
  Calls Tryz.prog 201 #[ptr q] w fun e w' => ∃ s0 sl sc, e = .returned (.tuple #[(filK.c.want (cur, t)).V (.slice s0 sl sc), .bool cur.isSome]) ∧ RdB w' (.slice s0 sl sc) (filK.c.want (cur, t)).b ∧ Below w.heap.size w w' :=
 filNext_of w ((filK.dom h).2 q (filK.dom h).1) (fun w1 b1 => chNext_p filK fil_ty w1 q F cur t (filK.below h b1) hf)
theorem filTake_any {cur : Option filK.C.M.σ} {t : filK.c.τ} (x : AN) (s0 : Option Addr) (sl sc : Nat) (h : filK.P w q F cur t) (ho : filK.c.okay (cur, t)) (hl : filK.c.fin (cur, t)) (hx : cur.isSome = true → filK.xok x) (hr : RdB w (.slice s0 sl sc) x.b) :
  Calls Tryz.prog 202 #[ptr q, .agg #[.int .u64 x.v, .bool x.d, .slice s0 sl sc]] w fun e w' => e = .returned (.tuple #[]) ∧ filK.c.okay (filK.c.step (cur, t) x) ∧ ∃ F', filK.P w' q F' (filK.c.step (cur, t) x).1 (filK.c.step (cur, t) x).2 ∧ (∀ i, F' i → F i ∨ w.heap.size ≤ i) ∧ Keep F w w' := by
 refine filTake_of x.v x.d s0 sl sc _ w ((filK.dom h).2 q (filK.dom h).1) (fun w1 b1 => ?_)
 refine (chTake_p filK fil_ty w1 q F cur t x s0 sl sc (filK.below h b1) ho fil_enough hl hx (hr.below b1)).mono ?_
 rintro e w' ⟨rfl, ho', F', hp, hg, k⟩
 have z1 := b1.size
 exact ⟨rfl, ⟨ho', F', hp, fun i hi => (hg i hi).imp_right (fun h => by omega), (Below.keeps (M := F) b1).trans k⟩, k.mono (fun i _ hi => (filK.dom h).2 i hi)⟩
theorem filM_next (b : Nat) (w : World) : (method (Tryz.prog.types.size + Made.depth) 63 (.pointer (some ⟨b, 0, none⟩)) "Next").run Tryz.prog w = .ok (201, .pointer (some ⟨b, 0, none⟩)) w := by kernel_rfl
theorem filM_take (b : Nat) (w : World) : (method (Tryz.prog.types.size + Made.depth) 63 (.pointer (some ⟨b, 0, none⟩)) "Take").run Tryz.prog w = .ok (202, .pointer (some ⟨b, 0, none⟩)) w := by kernel_rfl
theorem filE_next (args : Array Value) (w : World) : (callFunc 201 args).run Tryz.prog w = .ok (.enter 201 args) w :=
 enters_of Tryz.func201 (by kernel_rfl) rfl args w
theorem filE_take (args : Array Value) (w : World) : (callFunc 202 args).run Tryz.prog w = .ok (.enter 202 args) w :=
 enters_of Tryz.func202 (by kernel_rfl) rfl args w
theorem fil_xan {s : filC.mac.σ} {x : AN} (h : filK.P w q F s.1 s.2) (hf : filC.fin s) (hs : s.1.isSome = true) (hx : AN.ok (filC.mac.want s) x) : filK.xok x := by
 obtain ⟨cur, t⟩ := s
 cases cur with
 | none => cases hs
 | some m =>
  obtain ⟨nv, _, c0, _⟩ := filK.cells h
  obtain ⟨p, F1, _, hi, _⟩ := filK.mach h c0
  exact filK.xan hi (hf m rfl) hx
def filFam : Fam where
 M := filC.mac
 inv := fun w F q s => (filK.P w q F s.1 s.2) ∧ filC.fin s ∧ filC.okay s
 ty := fun _ => 63
 fn := fun _ => 201
 ft := fun _ => 202
 mn := fun _ b w => filM_next b w
 mt := fun _ b w => filM_take b w
 en := fun _ args w => filE_next args w
 et := fun _ args w => filE_take args w
 ts := fun _ _ => rfl
 dom := fun h => have h1 := h.1; filK.dom h1
 mono := fun h k1 k2 => have h1 := h.1; ⟨filK.mono h1 k1 k2, h.2⟩
 keep := fun h k hd => have h1 := h.1; ⟨filK.keep h1 k hd, h.2⟩
 wf := fun {w F q s} h => by
  obtain ⟨cur, t⟩ := s
  cases cur with
  | none => exact aaZ_wf
  | some m =>
   obtain ⟨h1, _⟩ := h
   obtain ⟨nv, _, c0, _⟩ := filK.cells h1
   obtain ⟨p, F1, _, hi, _⟩ := filK.mach h1 c0
   exact filK.C.wf hi
 next := fun {w F q s} h => have h1 := h.1; filNext_any (cur := s.1) (t := s.2) h1 h.2.1
 take := fun {w F q s x s0 sl sc} h hl hx hr => by
  obtain ⟨h1, h2⟩ := h
  refine (filTake_any (cur := s.1) (t := s.2) x s0 sl sc h1 h2.2 h2.1 (fun hs => fil_xan h1 h2.1 hs hx) hr).mono ?_
  rintro e w' ⟨rfl, h0, F', g1, g2, g3⟩
  exact ⟨rfl, F', ⟨g1, filC.fin_step fil_enough _ _ h2.1 h2.2, h0⟩, g2, g3⟩
theorem dra_ty (bx : Nat) : ∀ s, (draK bx).C.ty s = 95 := fun _ => rfl
set_option maxHeartbeats 2000000 in
theorem draNext_of {W : AA} {L : Bool} (w : World) (hlt : q < w.heap.size)
  (hc : ∀ w1, Below w.heap.size w w1 → Calls Tryz.prog 199 #[ptr q] w1 fun e w' => ∃ s0 sl sc, e = .returned (.tuple #[W.V (.slice s0 sl sc), .bool L]) ∧ RdB w' (.slice s0 sl sc) W.b ∧ Below w1.heap.size w1 w') :
  Calls Tryz.prog 197 #[ptr q] w fun e w' => ∃ s0 sl sc, e = .returned (.tuple #[W.V (.slice s0 sl sc), .bool L]) ∧ RdB w' (.slice s0 sl sc) W.b ∧ Below w.heap.size w w' := by
 have HC := Lib.hid hc
 clear hc
 unfold ptr
 go_enter Tryz.func197, Tryz.ntmps197
 go_wp2_with fail
 refine (HC.out (w.alloc (.cells #[.int .i64 0, .int .i64 0, .int .i64 0, .int .u64 0, .int .u64 0, .slice none 0 0] 72)) ((Below.refl w.heap.size w).alloc (Nat.le_refl _) _)).mono ?_
 rintro e w1 ⟨s0, sl, sc, rfl, hr, b1⟩
 unfold AA.V
 dsimp only
 have z1 := b1.size
 simp at z1
 have A1 := Lib.hid (Blk.below (Blk.made w #[.int .i64 0, .int .i64 0, .int .i64 0, .int .u64 0, .int .u64 0, .slice none 0 0] 72) b1 (by simp))
 have B1 : Below w.heap.size w w1 := ((Below.refl w.heap.size w).alloc (Nat.le_refl _) _).trans (b1.mono (by simp))
 have y1 : w.heap.size < w1.heap.size := by omega
 have HR := Lib.hid hr
 clear b1 hr
 have a0 := A1.out.cell 0
 have a1 := A1.out.cell 1
 have a2 := A1.out.cell 2
 have a3 := A1.out.cell 3
 have a4 := A1.out.cell 4
 have a5 := A1.out.cell 5
 have e0 := A1.out.frozen 0
 have e1 := A1.out.frozen 1
 have e2 := A1.out.frozen 2
 have e3 := A1.out.frozen 3
 have e4 := A1.out.frozen 4
 have e5 := A1.out.frozen 5
 simp only [List.getElem?_toArray, List.getElem?_cons_zero, List.getElem?_cons_succ] at a0 a1 a2 a3 a4 a5
 go_wp2
 refine bodyPost_ret (v := .tuple #[W.V (.slice s0 sl sc), .bool L]) (res_aa (c := W) rfl rfl rfl (((((((A1.out.set 0 _).set 1 _).set 2 _).set 3 _).set 4 _).set 5 _))) rfl ⟨s0, sl, sc, rfl, ?_, ?_⟩
 ·refine HR.out.keep (K := (· = w.heap.size)) ?_ (fun h => HR.out.apart h A1.out rfl)
  repeat' (refine Keep.setCell (M := (· = w.heap.size)) ?_ (Or.inl (by simp)) _)
  exact Keep.refl _ _
 ·repeat' (refine Below.setCell ?_ (by simp; try omega) _)
  exact B1
set_option maxHeartbeats 2000000 in
theorem draTake_of (v : Int) (d : Bool) (s0 : Option Addr) (sl sc : Nat) (Q : World → Prop) (w : World) (hlt : q < w.heap.size)
  (hc : ∀ w1, Below w.heap.size w w1 → Calls Tryz.prog 200 #[ptr q, .agg #[.int .u64 v, .bool d, .slice s0 sl sc]] w1 fun e w' => e = .returned (.tuple #[]) ∧ Q w' ∧ Keep (fun k => k < w.heap.size) w1 w') :
  Calls Tryz.prog 198 #[ptr q, .agg #[.int .u64 v, .bool d, .slice s0 sl sc]] w fun e w' => e = .returned (.tuple #[]) ∧ Q w' := by
 have HC := Lib.hid hc
 clear hc
 unfold ptr
 go_enter Tryz.func198, Tryz.ntmps198
 go_wp2_with fail
 go_region_held3 (fun w' => w'.cell? ⟨w.heap.size, 0, none⟩ = some (.int .u64 v) ∧ w'.cell? ⟨w.heap.size, 1, none⟩ = some (.bool d) ∧ w'.cell? ⟨w.heap.size, 2, none⟩ = some (.slice s0 sl sc)) (first | go_keep | trivial)
  (first
   | (go_at_call 200; refine (HC.out _ (by go_grown)).mono ?_; rintro e w2 ⟨rfl, hQ, hk⟩; have hc := fun o => hk.cell (b := w.heap.size) o (by simp) (by simp)))
 all_goals
  clear hc
  go_wp2
  go_end0
  exact ⟨rfl, hQ⟩
variable {bx : Nat}
theorem draNext_any {cur : Option (draK bx).C.M.σ} {t : (draK bx).c.τ} (h : (draK bx).P w q F cur t) (hf : (draK bx).c.fin (cur, t)) :
  Calls Tryz.prog 197 #[ptr q] w fun e w' => ∃ s0 sl sc, e = .returned (.tuple #[((draK bx).c.want (cur, t)).V (.slice s0 sl sc), .bool cur.isSome]) ∧ RdB w' (.slice s0 sl sc) ((draK bx).c.want (cur, t)).b ∧ Below w.heap.size w w' :=
 draNext_of w (((draK bx).dom h).2 q ((draK bx).dom h).1) (fun w1 b1 => chNext_g (draK bx) (dra_ty bx) w1 q F cur t ((draK bx).below h b1) hf)
theorem draTake_any {cur : Option (draK bx).C.M.σ} {t : (draK bx).c.τ} (x : AN) (s0 : Option Addr) (sl sc : Nat) (h : (draK bx).P w q F cur t) (ho : (draK bx).c.okay (cur, t)) (hl : (draK bx).c.fin (cur, t)) (hx : cur.isSome = true → (draK bx).xok x) (hr : RdB w (.slice s0 sl sc) x.b) :
  Calls Tryz.prog 198 #[ptr q, .agg #[.int .u64 x.v, .bool x.d, .slice s0 sl sc]] w fun e w' => e = .returned (.tuple #[]) ∧ (draK bx).c.okay ((draK bx).c.step (cur, t) x) ∧ ∃ F', (draK bx).P w' q F' ((draK bx).c.step (cur, t) x).1 ((draK bx).c.step (cur, t) x).2 ∧ (∀ i, F' i → F i ∨ w.heap.size ≤ i) ∧ Keep F w w' := by
 refine draTake_of x.v x.d s0 sl sc _ w (((draK bx).dom h).2 q ((draK bx).dom h).1) (fun w1 b1 => ?_)
 refine (chTake_g (draK bx) (dra_ty bx) w1 q F cur t x s0 sl sc ((draK bx).below h b1) ho dra_enough hl hx (hr.below b1)).mono ?_
 rintro e w' ⟨rfl, ho', F', hp, hg, k⟩
 have z1 := b1.size
 exact ⟨rfl, ⟨ho', F', hp, fun i hi => (hg i hi).imp_right (fun h => by omega), (Below.keeps (M := F) b1).trans k⟩, k.mono (fun i _ hi => ((draK bx).dom h).2 i hi)⟩
theorem draM_next (b : Nat) (w : World) : (method (Tryz.prog.types.size + Made.depth) 61 (.pointer (some ⟨b, 0, none⟩)) "Next").run Tryz.prog w = .ok (197, .pointer (some ⟨b, 0, none⟩)) w := by kernel_rfl
theorem draM_take (b : Nat) (w : World) : (method (Tryz.prog.types.size + Made.depth) 61 (.pointer (some ⟨b, 0, none⟩)) "Take").run Tryz.prog w = .ok (198, .pointer (some ⟨b, 0, none⟩)) w := by kernel_rfl
theorem draE_next (args : Array Value) (w : World) : (callFunc 197 args).run Tryz.prog w = .ok (.enter 197 args) w :=
 enters_of Tryz.func197 (by kernel_rfl) rfl args w
theorem draE_take (args : Array Value) (w : World) : (callFunc 198 args).run Tryz.prog w = .ok (.enter 198 args) w :=
 enters_of Tryz.func198 (by kernel_rfl) rfl args w
theorem dra_xan {s : draC.mac.σ} {x : AN} (h : (draK bx).P w q F s.1 s.2) (hf : draC.fin s) (hs : s.1.isSome = true) (hx : AN.ok (draC.mac.want s) x) : (draK bx).xok x := by
 obtain ⟨cur, t⟩ := s
 cases cur with
 | none => cases hs
 | some m =>
  obtain ⟨nv, _, c0, _⟩ := (draK bx).cells h
  obtain ⟨p, F1, _, hi, _⟩ := (draK bx).mach h c0
  exact (draK bx).xan hi (hf m rfl) hx
def draFam : Fam where
 M := draC.mac
 inv := fun w F q s => (∃ bx, (draK bx).P w q F s.1 s.2) ∧ draC.fin s ∧ draC.okay s
 ty := fun _ => 61
 fn := fun _ => 197
 ft := fun _ => 198
 mn := fun _ b w => draM_next b w
 mt := fun _ b w => draM_take b w
 en := fun _ args w => draE_next args w
 et := fun _ args w => draE_take args w
 ts := fun _ _ => rfl
 dom := fun h => h.1.elim fun bx h1 => (draK bx).dom h1
 mono := fun h k1 k2 => h.1.elim fun bx h1 => ⟨⟨bx, (draK bx).mono h1 k1 k2⟩, h.2⟩
 keep := fun h k hd => h.1.elim fun bx h1 => ⟨⟨bx, (draK bx).keep h1 k hd⟩, h.2⟩
 wf := fun {w F q s} h => by
  obtain ⟨cur, t⟩ := s
  cases cur with
  | none => exact aaZ_wf
  | some m =>
   obtain ⟨⟨bx, h1⟩, _⟩ := h
   obtain ⟨nv, _, c0, _⟩ := (draK bx).cells h1
   obtain ⟨p, F1, _, hi, _⟩ := (draK bx).mach h1 c0
   exact (draK bx).C.wf hi
 next := fun {w F q s} h => h.1.elim fun bx h1 => draNext_any (cur := s.1) (t := s.2) h1 h.2.1
 take := fun {w F q s x s0 sl sc} h hl hx hr => by
  obtain ⟨⟨bx, h1⟩, h2⟩ := h
  refine (draTake_any (cur := s.1) (t := s.2) x s0 sl sc h1 h2.2 h2.1 (fun hs => dra_xan h1 h2.1 hs hx) hr).mono ?_
  rintro e w' ⟨rfl, h0, F', g1, g2, g3⟩
  exact ⟨rfl, F', ⟨⟨bx, g1⟩, draC.fin_step dra_enough _ _ h2.1 h2.2, h0⟩, g2, g3⟩
end Go.Proofs.YtggjhleomocojaaGreat
end
