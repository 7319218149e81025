/- Contracts of Chunks, the program's and the reference's. Conditions: the arguments are in their kinds' ranges. -/
import Derived.Test.YtggjhleomocojaaGreatRw
import Derived.Laws.AppendOwnNone
import Derived.Deep.AppendLies
import Derived.Test.YtggjhleomocojaaGreatKc
section
namespace Go.Proofs.YtggjhleomocojaaGreat
set_option maxRecDepth 100000
open Go.RowKit
set_option linter.unusedVariables false
theorem intinfo : (Tryz.prog.info? 3).map (fun i => (i.zero, i.size, i.bytes)) = some (some (.int .i64 0), 1, 8) := by kernel_rfl
def chK (n : Int) : Nat := (n.toNat - 1) / 8
def chL (n : Int) : List Int := if n < 1 ∨ 131072 < n then [] else List.replicate (chK n) 8 ++ [n - 8 * chK n]
variable {n : Int}
theorem chL_in (h1 : 1 ≤ n) (h2 : n ≤ 131072) : chL n = List.replicate (chK n) 8 ++ [n - 8 * chK n] := by unfold chL; rw [if_neg (by omega)]
theorem chL_out (h : n < 1 ∨ 131072 < n) : chL n = [] := by unfold chL; rw [if_pos h]
theorem chK_bd (h1 : 1 ≤ n) : 8 * (chK n : Int) < n ∧ n ≤ 8 * (chK n : Int) + 8 := by unfold chK; omega
def chP (n : Int) (k : Nat) : List Int := if k ≤ chK n then List.replicate k 8 else chL n
theorem chP_len (h1 : 1 ≤ n) (h2 : n ≤ 131072) (k : Nat) (hk : k ≤ chK n + 1) : (chP n k).length = k := by
 unfold chP
 split
 ·simp
 ·rw [chL_in h1 h2]; simp; omega
theorem chP_step (h1 : 1 ≤ n) (h2 : n ≤ 131072) (k : Nat) (hk : k ≤ chK n) : chP n k ++ [min (n - 8 * k) 8] = chP n (k + 1) := by
 have := chK_bd h1
 unfold chP
 rw [if_pos hk]
 split
 ·rw [show min (n - 8 * (k : Int)) 8 = 8 from by omega, List.replicate_succ']
 ·obtain rfl : k = chK n := by omega
  rw [chL_in h1 h2, show min (n - 8 * (chK n : Int)) 8 = n - 8 * chK n from by omega]
set_option maxHeartbeats 1000000 in
theorem wChunks_any (n : Int) (w : World) (hn0 : -9223372036854775808 ≤ n) :
  Calls Tryz.prog 137 #[.int .i64 n] w fun e w' => ∃ v, e = .returned v ∧ OwI 3 w.heap.size w' v (chL n) ∧ Below w.heap.size w w' := by
 by_cases c1 : n < 1
 ·have HV := Lib.hid (chL_out (n := n) (.inl c1))
  go_enter Tryz.func137, Tryz.ntmps137
  go_wp2
  go_ret
  exact ⟨_, rfl, by rw [HV.out]; exact OwI.nil _ _ _, Below.refl _ _⟩
 by_cases c2 : 131072 < n
 ·have HV := Lib.hid (chL_out (n := n) (.inr c2))
  go_enter Tryz.func137, Tryz.ntmps137
  go_wp2
  go_ret
  exact ⟨_, rfl, by rw [HV.out]; exact OwI.nil _ _ _, Below.refl _ _⟩
 have hk0 := chK_bd (n := n) (by omega)
 have a1 : 1 ≤ n := by omega
 have a2 : n ≤ 131072 := by omega
 obtain ⟨i0, hi, hz0, hz1, hz2⟩ := info_parts intinfo
 go_enter Tryz.func137, Tryz.ntmps137
 go_wp2
 go_loopw [0, 3] (fun x v wr => ∃ k : Nat, k ≤ chK n + 1 ∧ x = .int .i64 (n - 8 * k) ∧ OwI 3 w.heap.size wr v (chP n k) ∧ Below w.heap.size w wr) (fun x _ _ => (intOf x).toNat)
 case atStart => exact ⟨0, by omega, by simp, by simpa [chP] using OwI.nil _ _ _, Below.refl _ _⟩
 case round =>
  obtain ⟨k, hk, rfl, hown, hbel⟩ := hrel
  by_cases hlt : k ≤ chK n
  ·have hsz := hbel.size
   unfold OwI at hown
   rw [chP_len a1 a2 k hk] at hown
   have HS := Lib.hid (chP_step a1 a2 k hlt)
   by_cases hm : n - 8 * (k : Int) ≤ 8
   ·rw [show min (n - 8 * (k : Int)) 8 = n - 8 * k from by omega] at HS
    go_wp2_with (at_builtin; refine wpList_append_own _ rfl _ _ 222 rfl w.heap.size 3 i0 (.int .i64 0) 1 8 Tryz.underlying222 hi hz0 hz1 hz2 rfl (by decide) _ _ _ rfl (hown.alloc _) ⟨wr.heap.size, 0, none⟩ 1 1 [.int .i64 (n - 8 * k)] rfl rfl ?c1 ?c2 ?c3 ?c4 ?c5 ?_)
    case c1 => exact cell_one_new _ _ _
    case c2 => simp [Value.oneCell']
    case c3 => unfold maxLen; omega
    case c4 => omega
    case c5 => first | omega | (simp; omega)
    intro v' w1 hown' hgrow _
    have hrel := OwI.push (n - 8 * k) (chP_len a1 a2 k hk) hown hown' hgrow hbel hsz
    rw [HS.out] at hrel
    clear hown hown' hgrow hbel
    go_wp2
    go_roundw
    case rel => exact ⟨k + 1, by omega, int_eq (by omega), hrel.1, hrel.2⟩
    case measure => simp [intOf]; omega
   ·rw [show min (n - 8 * (k : Int)) 8 = 8 from by omega] at HS
    go_wp2_with (at_builtin; refine wpList_append_own _ rfl _ _ 222 rfl w.heap.size 3 i0 (.int .i64 0) 1 8 Tryz.underlying222 hi hz0 hz1 hz2 rfl (by decide) _ _ _ rfl (hown.alloc _) ⟨wr.heap.size, 0, none⟩ 1 1 [.int .i64 8] rfl rfl ?d1 ?d2 ?d3 ?d4 ?d5 ?_)
    try case d1 => exact cell_one_new _ _ _
    case d2 => simp [Value.oneCell']
    case d3 => unfold maxLen; omega
    case d4 => omega
    case d5 => first | omega | (simp; omega)
    intro v' w1 hown' hgrow _
    have hrel := OwI.push 8 (chP_len a1 a2 k hk) hown hown' hgrow hbel hsz
    rw [HS.out] at hrel
    clear hown hown' hgrow hbel
    go_wp2
    go_roundw
    case rel => exact ⟨k + 1, by omega, int_eq (by omega), hrel.1, hrel.2⟩
    case measure => simp [intOf]; omega
  ·obtain rfl : k = chK n + 1 := by omega
   go_wp2
   go_ret
   have e : chP n (chK n + 1) = chL n := by unfold chP; rw [if_neg (by omega)]
   rw [e] at hown
   exact ⟨_, rfl, hown, hbel⟩
theorem wChunks_in (n : Int) (w : World) (h1 : 1 ≤ n) (h2 : n ≤ 131072) :
  Calls Tryz.prog 137 #[.int .i64 n] w fun e w' => ∃ g cap, e = .returned (.slice (some ⟨g, 0, none⟩) (chL n).length cap) ∧ g < w'.heap.size ∧ (chL n).length ≤ cap ∧ cap ≤ maxLen ∧ (∀ i, i < (chL n).length → w'.cell? ⟨g, i, none⟩ = some (.int .i64 (gB (chL n) i))) ∧ Below w.heap.size w w' := by
 refine (wChunks_any n w (by omega)).mono ?_
 rintro e w' ⟨v, rfl, own, hb⟩
 obtain ⟨g, cap, rfl, _, hg, hc, hm, hcell⟩ := own.slice (by rw [chL_in h1 h2]; simp)
 exact ⟨g, cap, rfl, hg, hc, hm, hcell, hb⟩
theorem add_none (b off j : Nat) : (⟨b, off, none⟩ : Addr).add j = ⟨b, off + j, none⟩ := by unfold Addr.add; split <;> simp_all
variable {w : World}
theorem news_of {b off : Nat} {m : List Int} (h : ∀ i, i < m.length → w.cell? ⟨b, off + i, none⟩ = some (.int .u8 (gB m i))) :
  ∀ j u, (m.map (Value.int .u8))[j]? = some u → w.cell? ((⟨b, off, none⟩ : Addr).add j) = some u := by
 intro j u hu
 rw [add_none]
 have hj : j < m.length := by
  have := (List.getElem?_eq_some_iff.1 hu).1
  simpa using this
 rw [h j hj]
 simp [hj] at hu
 simp [gB, hj, hu]
def AppB (B : Nat) (w : World) (v : Value) (l m : List Int) (v' : Value) (w' : World) : Prop :=
 OwB 5 B w' v' (l ++ m) ∧ w.grownBy w' v.ownBlock ∧ (v'.ownBlock = v.ownBlock ∨ v'.ownBlock = some w.heap.size)
theorem run_app {ty : TypeId} {B : Nat} {v x : Value} {l m : List Int} (hown : OwB 5 B w v l) (hx : RdB w x m) (hlen : l.length + m.length ≤ 140737488355328) (hB : B ≤ w.heap.size) :
  ∃ v' w', (Builtin.append_ #[32, 32] ty #[v, x]).run Tryz.prog w = .ok v' w' ∧ AppB B w v l m v' w' := by
 obtain ⟨i0, hi, hz0, hz1, hz2⟩ := info_parts u8info
 rcases hx with ⟨rfl, rfl⟩ | ⟨a, cap, rfl, rfl, hm⟩ | ⟨b, off, cap, rfl, hc, hm, hcell⟩
 ·refine ⟨v, w, run_append_owned_none (P := Tryz.prog) (w := w) B 32 ty 5 i0 1 Tryz.underlying32 hi v _ _ hown, ?_, World.grownBy.refl _ _, .inl rfl⟩
  simpa using hown
 ·obtain ⟨v', w', hr, h2, h3, _, h5⟩ := run_append_own_at (P := Tryz.prog) w B 32 ty 5 i0 (.int .u8 0) 1 1 Tryz.underlying32 hi hz0 hz1 hz2 rfl (by decide) v _ _ hown a 0 cap [] rfl (by simp) (by simp) (by unfold maxLen; omega) (by omega) hB
  refine ⟨v', w', hr, ?_, h3, h5⟩
  unfold OwB
  simpa using h2
 ·obtain ⟨v', w', hr, h2, h3, _, h5⟩ := run_append_own_at (P := Tryz.prog) w B 32 ty 5 i0 (.int .u8 0) 1 1 Tryz.underlying32 hi hz0 hz1 hz2 rfl (by decide) v _ _ hown ⟨b, off, none⟩ m.length cap (m.map (Value.int .u8)) (by simp) (news_of hcell) (ones_u8 m) (by unfold maxLen; omega) (by omega) hB
  refine ⟨v', w', hr, ?_, h3, h5⟩
  unfold OwB
  simpa using h2
variable {o : Oper} {a : Act} {Q : Exit → Act → World → Prop}
theorem wp_app {K : Act → World → Prop} (s x : Operand)
  (ho : o.op = .call { callee := .builtin .append, args := #[s, x], argTypes := #[32, 32] }) (B : Nat) (v y : Value) (l m : List Int) (hs : a.eval s = v) (hown : OwB 5 B w v l) (hx : a.eval x = y) (hy : RdB w y m)
  (hlen : l.length + m.length ≤ 140737488355328) (hB : B ≤ w.heap.size) (h : ∀ v' w', AppB B w v l m v' w' → K (a.put o.dst v') w') : o.wp Tryz.prog a w K Q := by
 obtain ⟨v', w', hr, h2⟩ := run_app (ty := o.type) hown hy hlen hB
 unfold Oper.wp execOp
 simp only [ho, resolve, invoke, builtin, Sem.run_bind, Sem.run_pure, Result.andThen_ok, List.map_toArray, List.map_cons, List.map_nil, hs, hx, hr]
 exact h v' w' h2
theorem list_app {ops : Array Oper} {rest : List Oper} (hgd : o.guard = none) (s x : Operand)
  (ho : o.op = .call { callee := .builtin .append, args := #[s, x], argTypes := #[32, 32] }) (B : Nat) (v y : Value) (l m : List Int) (hs : a.eval s = v) (hown : OwB 5 B w v l) (hx : a.eval x = y) (hy : RdB w y m)
  (hlen : l.length + m.length ≤ 140737488355328) (hB : B ≤ w.heap.size) (h : ∀ v' w', AppB B w v l m v' w' → wpList Tryz.prog ops Q rest (a.put o.dst v') w') : wpList Tryz.prog ops Q (o :: rest) a w :=
 wpList_plain hgd fun _ hK => wp_app s x ho B v y l m hs hown hx hy hlen hB fun v' w' h2 => hK _ _ (h v' w' h2)
theorem step_app {ops : Array Oper} {K : Act → World → Prop} {E : Prop} (hgd : o.guard = none) (s x : Operand)
  (ho : o.op = .call { callee := .builtin .append, args := #[s, x], argTypes := #[32, 32] }) (B : Nat) (v y : Value) (l m : List Int) (hs : a.eval s = v) (hown : OwB 5 B w v l) (hx : a.eval x = y) (hy : RdB w y m)
  (hlen : l.length + m.length ≤ 140737488355328) (hB : B ≤ w.heap.size) (h : ∀ v' w', AppB B w v l m v' w' → K (a.put o.dst v') w') :
  if Region.wanted o (yielded ops a.tmps) = true then Oper.wp Tryz.prog o a w K Q else E := by
 have hw : Region.wanted o (yielded ops a.tmps) = true := by simp [Region.wanted, hgd]
 rw [if_pos hw]
 exact wp_app s x ho B v y l m hs hown hx hy hlen hB h
theorem AppB.below {B B0 : Nat} {W w w' : World} {v v' : Value} {l m : List Int} (h : AppB B w v l m v' w') (hb : Below B0 W w) (hB : B0 ≤ w.heap.size) (hv : ∀ k, v.ownBlock = some k → B0 ≤ k) : Below B0 W w' :=
 hb.grown h.2.1 hB hv
theorem OwB.own_ge {B : Nat} {v : Value} {l : List Int} (h : OwB 5 B w v l) : ∀ k, v.ownBlock = some k → B ≤ k := fun k hk => (World.ownsRow.lt h k hk).1
set_option linter.unusedSimpArgs false
theorem chL_head (h1 : 1 ≤ n) (h2 : n ≤ 131072) : gB (chL n) 0 = min n 8 ∧ 0 < (chL n).length := by
 rw [chL_in h1 h2]
 by_cases h : n ≤ 8
 ·have : chK n = 0 := by unfold chK; omega
  rw [this]
  simp [gB]
  omega
 ·obtain ⟨m, hm⟩ : ∃ m, chK n = m + 1 := ⟨chK n - 1, by unfold chK; omega⟩
  rw [hm]
  simp [gB, List.replicate_succ]
  omega
def ptr (b : Nat) : Value := .pointer (some ⟨b, 0, none⟩)
def InK (w : World) (O : Nat → Prop) (t : Value) (q : Nat) (at0 n : Int) (bv f0 : Value) : Prop :=
 ∃ cb ab nb bb tb, t = .func (.func 138) #[] #[ptr cb, ptr ab, ptr nb, ptr bb, ptr tb] ∧ Blk w cb [ptr q] ∧ Blk w ab [.int .i64 at0] ∧ Blk w nb [.int .i64 n] ∧ Blk w bb [bv] ∧ Blk w tb [f0] ∧ O cb ∧ O ab ∧ O nb ∧ O bb ∧ O tb
theorem InK.keep {w w' : World} {O M : Nat → Prop} {t : Value} {q : Nat} {a n : Int} {bv f0 : Value} (h : InK w O t q a n bv f0) (k : Keep M w w') (hd : ∀ i, O i → ¬ M i) : InK w' O t q a n bv f0 := by
 obtain ⟨cb, ab, nb, bb, tb, e, h1, h2, h3, h4, h5, o1, o2, o3, o4, o5⟩ := h
 exact ⟨cb, ab, nb, bb, tb, e, h1.keep k (hd _ o1), h2.keep k (hd _ o2), h3.keep k (hd _ o3), h4.keep k (hd _ o4), h5.keep k (hd _ o5), o1, o2, o3, o4, o5⟩
theorem InK.mono {O O' : Nat → Prop} {t : Value} {q : Nat} {a n : Int} {bv f0 : Value} (h : InK w O t q a n bv f0) (hd : ∀ i, O i → O' i) : InK w O' t q a n bv f0 := by
 obtain ⟨cb, ab, nb, bb, tb, e, h1, h2, h3, h4, h5, o1, o2, o3, o4, o5⟩ := h
 exact ⟨cb, ab, nb, bb, tb, e, h1, h2, h3, h4, h5, hd _ o1, hd _ o2, hd _ o3, hd _ o4, hd _ o5⟩
theorem box4 (w : World) (x0 x1 x2 x3 : Value) (t0 t1 t2 t3 : TypeId) : ∃ w4, w4 = (((w.alloc (.cells #[x0] t0)).alloc (.cells #[x1] t1)).alloc (.cells #[x2] t2)).alloc (.cells #[x3] t3) ∧ Blk w4 w.heap.size [x0] ∧ Blk w4 (w.heap.size + 1) [x1] ∧ Blk w4 (w.heap.size + 1 + 1) [x2] ∧ Blk w4 (w.heap.size + 1 + 1 + 1) [x3] ∧ w4.heap.size = w.heap.size + 1 + 1 + 1 + 1 ∧ Below w.heap.size w w4 := by
 refine ⟨_, rfl, ?_, ?_, ?_, ?_, by simp, by go_grown⟩
 ·exact (((Blk.made w #[x0] t0).alloc _).alloc _).alloc _
 ·have := ((Blk.made (w.alloc (.cells #[x0] t0)) #[x1] t1).alloc (.cells #[x2] t2)).alloc (.cells #[x3] t3)
  simpa using this
 ·have := (Blk.made ((w.alloc (.cells #[x0] t0)).alloc (.cells #[x1] t1)) #[x2] t2).alloc (.cells #[x3] t3)
  simpa using this
 ·have := Blk.made (((w.alloc (.cells #[x0] t0)).alloc (.cells #[x1] t1)).alloc (.cells #[x2] t2)) #[x3] t3
  simpa using this
set_option maxHeartbeats 2000000 in
theorem cIn_more (q : Nat) (c : Acc) (t : Value) (r : List Value) (at0 : Int) (b off cap : Nat) (l : List Int) (g : Nat) (gc : Array Value) (w : World) (h : Mch w q c t r) (hl0 : l.length ≠ 0) (hl : l.length ≤ 131072) (hc : l.length ≤ cap) :
  Calls Tryz.prog 109 #[.pointer (some ⟨q, 0, none⟩), .int .i64 at0, .slice (some ⟨b, off, none⟩) l.length cap, .func (.func g) #[] gc] w fun e w' =>
   e = .returned (.tuple #[]) ∧ ∃ (n : Nat) (t' : Value), n = min l.length 8 ∧ Mch w' q ⟨6, at0, n, 0, 0, .slice (some ⟨b, off, none⟩) n n⟩ t' r ∧ InK w' (fun k => w.heap.size ≤ k ∧ k < w'.heap.size) t' q at0 n (.slice (some ⟨b, off, none⟩) l.length cap) (.func (.func g) #[] gc) ∧ Keep (· = q) w w' := by
 have hlt := h.lt
 have H := Lib.hid h
 obtain ⟨n, hn⟩ : ∃ n : Nat, n = min l.length 8 := ⟨_, rfl⟩
 have hn1 : n ≤ l.length := by omega
 have hn8 : n ≤ 8 := by omega
 have hn0 : 1 ≤ n := by omega
 obtain ⟨hh, hp⟩ := chL_head (n := l.length) (by omega) (by omega)
 rw [show min (l.length : Int) 8 = (n : Int) by omega] at hh
 have HN := Lib.hid hn
 have hz : ((l.length : Int) == 0) = false := by
  rw [beq_eq_false_iff_ne]
  omega
 have hnc : (n : Int) ≤ (cap : Int) := by omega
 have hnc' : n ≤ cap := by omega
 clear h hn
 go_enter Tryz.func109, Tryz.ntmps109
 go_wp2_with fail
 refine (wChunks_in l.length _ (by omega) (by omega)).mono ?_
 rintro e w1 ⟨g1, cap1, rfl, hg1, hc1, hm1, hcell1, b1⟩
 have hch := hcell1 0 hp
 rw [hh] at hch
 have hp' : (0 : Int) < ((chL l.length).length : Int) := by omega
 clear hcell1
 go_wp2_with fail
 have z1 := b1.size
 simp at z1
 obtain ⟨w4, hw4, k0, k1, k2, k3, hs4, b4⟩ := box4 w (.pointer (some ⟨q, 0, none⟩)) (.int .i64 at0) (.slice (some ⟨b, off, none⟩) l.length cap) (.func (.func g) #[] gc) 174 3 32 1
 rw [← hw4] at b1
 have k0 := Lib.hid (k0.below b1 (by omega))
 have k1 := Lib.hid (k1.below b1 (by omega))
 have k2 := Lib.hid (k2.below b1 (by omega))
 have k3 := Lib.hid (k3.below b1 (by omega))
 have B1 : Below w.heap.size w w1 := b4.trans (b1.mono (by omega))
 have p0 := k0.out.cell 0
 have p1 := k1.out.cell 0
 have p2 := k2.out.cell 0
 simp only [List.getElem?_cons_zero] at p0 p1 p2
 have y0 : w.heap.size < w1.heap.size := by omega
 have y1 : w.heap.size + 1 < w1.heap.size := by omega
 have y2 : w.heap.size + 1 + 1 < w1.heap.size := by omega
 have yq : q < w1.heap.size := by omega
 have H1 := Lib.hid (show Mch w1 q c t r from Blk.below H.out B1 hlt)
 clear hch b1 hw4 b4 hs4
 go_region_held3 (fun w' => w'.cell? ⟨w.heap.size, 0, none⟩ = some (.pointer (some ⟨q, 0, none⟩)) ∧ w'.cell? ⟨w.heap.size + 1, 0, none⟩ = some (.int .i64 at0) ∧ w'.cell? ⟨w.heap.size + 1 + 1, 0, none⟩ = some (.slice (some ⟨b, off, none⟩) l.length cap) ∧ w'.cell? ⟨w1.heap.size, 0, none⟩ = some (.int .i64 n)) (first | go_keep | trivial)
  ((go_at_call 72; refine (cDo_any q c t r 6 at0 n 0 0 (some ⟨b, off, none⟩) n n _ _ _ (Blk.drew (Blk.alloc H1.out _))).mono ?_; rintro e w2 ⟨rfl, m2, k5⟩; have hc0 := fun o => k5.cell (b := w.heap.size) o (by simp; omega) (by show ¬ w.heap.size = q; omega); have hc1 := fun o => k5.cell (b := w.heap.size + 1) o (by simp; omega) (by show ¬ w.heap.size + 1 = q; omega); have hc2 := fun o => k5.cell (b := w.heap.size + 1 + 1) o (by simp; omega) (by show ¬ w.heap.size + 1 + 1 = q; omega); have hc3 := fun o => k5.cell (b := w1.heap.size) o (by simp) (by show ¬ w1.heap.size = q; omega)))
 have z2 := k5.size
 simp at z2
 clear hc0 hc1 hc2 hc3
 go_wp2
 go_end0
 refine ⟨rfl, n, _, HN.out, m2, ⟨w.heap.size, w.heap.size + 1, w1.heap.size, w.heap.size + 1 + 1, w.heap.size + 1 + 1 + 1, rfl, ?_, ?_, ?_, ?_, ?_, by omega, by omega, by omega, by omega, by omega⟩, ?_⟩
 ·exact ((k0.out.alloc _).drew).keep k5 (by show ¬ w.heap.size = q; omega)
 ·exact ((k1.out.alloc _).drew).keep k5 (by show ¬ w.heap.size + 1 = q; omega)
 ·exact ((Blk.made w1 _ _).drew).keep k5 (by show ¬ w1.heap.size = q; omega)
 ·exact ((k2.out.alloc _).drew).keep k5 (by show ¬ w.heap.size + 1 + 1 = q; omega)
 ·exact ((k3.out.alloc _).drew).keep k5 (by show ¬ w.heap.size + 1 + 1 + 1 = q; omega)
 ·exact (((Below.keeps B1).alloc _).drew).trans k5
set_option maxHeartbeats 2000000 in
theorem cIn_end (q : Nat) (at0 : Int) (s0 : Option Addr) (sc : Nat) (g : Nat) (gc : Array Value) (w : World) (hen : ∀ w1, (callFunc g gc).run Tryz.prog w1 = .ok (.enter g gc) w1) (Q : World → Prop)
  (hF : ∀ w1, Below w.heap.size w w1 → Calls Tryz.prog g gc w1 fun e w' => e = .returned (.tuple #[]) ∧ Q w') :
  Calls Tryz.prog 109 #[.pointer (some ⟨q, 0, none⟩), .int .i64 at0, .slice s0 0 sc, .func (.func g) #[] gc] w fun e w' => e = .returned (.tuple #[]) ∧ Q w' := by
 have HF := Lib.hid hF
 clear hF
 go_enter Tryz.func109, Tryz.ntmps109
 go_wp2_with fail
 refine (HF.out _ (by go_grown)).mono ?_
 rintro e w' ⟨rfl, hQ⟩
 go_wp2
 exact bodyPost_ret (v := .tuple #[]) (results_none rfl _ _ _) rfl ⟨rfl, hQ⟩
set_option maxHeartbeats 2000000 in
theorem cInK_more (q : Nat) (at0 : Int) (n b off cap len : Nat) (g : Nat) (gc : Array Value) (v : Int) (d : Bool) (s0 : Option Addr) (sl sc : Nat) (cb ab nb bb tb : Nat) (w : World)
  (h0 : Blk w cb [ptr q]) (h1 : Blk w ab [.int .i64 at0]) (h2 : Blk w nb [.int .i64 n]) (h3 : Blk w bb [.slice (some ⟨b, off, none⟩) len cap]) (h4 : Blk w tb [.func (.func g) #[] gc])
  (ha : -2305843009213693952 ≤ at0) (ha' : at0 ≤ 2305843009213693952) (hn : n ≤ 8) (hlen : n < len) (hc : len ≤ cap) (hcm : len ≤ 131072) (Q : World → Prop) (M : Nat → Prop) (hm : ¬ M cb ∧ ¬ M ab ∧ ¬ M nb ∧ ¬ M bb ∧ ¬ M tb)
  (hF : ∀ w1, Below w.heap.size w w1 → Calls Tryz.prog 109 #[.pointer (some ⟨q, 0, none⟩), .int .i64 (at0 + n), .slice (some ⟨b, off + n, none⟩) (len - n) (cap - n), .func (.func g) #[] gc] w1 fun e w' => e = .returned (.tuple #[]) ∧ Q w' ∧ Keep M w1 w') :
  Calls Tryz.prog 138 #[.agg #[.int .u64 v, .bool d, .slice s0 sl sc], ptr cb, ptr ab, ptr nb, ptr bb, ptr tb] w fun e w' => e = .returned (.tuple #[]) ∧ Q w' ∧ Keep M w w' := by
 have HF := Lib.hid hF
 have l0 := h0.lt
 have l1 := h1.lt
 have l2 := h2.lt
 have l3 := h3.lt
 have l4 := h4.lt
 have c0 := h0.cell 0
 have c1 := h1.cell 0
 have c2 := h2.cell 0
 have c3 := h3.cell 0
 have c4 := h4.cell 0
 simp only [List.getElem?_cons_zero, ptr] at c0 c1 c2 c3 c4
 have W : IntKind.i64.wrap (at0 + (n : Int)) = at0 + (n : Int) := IntWalk.i64_in _ ⟨by omega, by omega⟩
 have b1 : (n : Int) ≤ (len : Int) := by omega
 have b2 : ¬ cap = n := by omega
 unfold ptr
 clear hF h0 h1 h2 h3 h4
 go_enter Tryz.func138, Tryz.ntmps138
 go_wp2_with fail
 go_region_held3 (fun w' => w'.cell? ⟨cb, 0, none⟩ = some (.pointer (some ⟨q, 0, none⟩)) ∧ w'.cell? ⟨ab, 0, none⟩ = some (.int .i64 at0) ∧ w'.cell? ⟨nb, 0, none⟩ = some (.int .i64 n) ∧ w'.cell? ⟨bb, 0, none⟩ = some (.slice (some ⟨b, off, none⟩) len cap) ∧ w'.cell? ⟨tb, 0, none⟩ = some (.func (.func g) #[] gc)) (first | go_keep | trivial)
  ((go_at_call 109; refine (HF.out _ (by go_grown)).mono ?_; rintro e w2 ⟨rfl, hQ, hk⟩; have d0 := fun o => hk.cell (b := cb) o (by simp; omega) hm.1; have d1 := fun o => hk.cell (b := ab) o (by simp; omega) hm.2.1; have d2 := fun o => hk.cell (b := nb) o (by simp; omega) hm.2.2.1; have d3 := fun o => hk.cell (b := bb) o (by simp; omega) hm.2.2.2.1; have d4 := fun o => hk.cell (b := tb) o (by simp; omega) hm.2.2.2.2))
 clear d0 d1 d2 d3 d4
 go_wp2
 go_end0
 exact ⟨rfl, hQ, (((Keep.refl _ w).alloc _).drew).trans hk⟩
set_option maxHeartbeats 2000000 in
theorem cInK_last (q : Nat) (at0 : Int) (n b off cap len : Nat) (g : Nat) (gc : Array Value) (v : Int) (d : Bool) (s0 : Option Addr) (sl sc : Nat) (cb ab nb bb tb : Nat) (w : World)
  (h0 : Blk w cb [ptr q]) (h1 : Blk w ab [.int .i64 at0]) (h2 : Blk w nb [.int .i64 n]) (h3 : Blk w bb [.slice (some ⟨b, off, none⟩) len cap]) (h4 : Blk w tb [.func (.func g) #[] gc])
  (ha : -2305843009213693952 ≤ at0) (ha' : at0 ≤ 2305843009213693952) (hn : n ≤ 8) (hlen : n = len) (hc : len ≤ cap) (hcm : len ≤ 131072) (Q : World → Prop) (M : Nat → Prop) (hm : ¬ M cb ∧ ¬ M ab ∧ ¬ M nb ∧ ¬ M bb ∧ ¬ M tb)
  (hF : ∀ w1 a1 c1', Below w.heap.size w w1 → Calls Tryz.prog 109 #[.pointer (some ⟨q, 0, none⟩), .int .i64 (at0 + n), .slice a1 0 c1', .func (.func g) #[] gc] w1 fun e w' => e = .returned (.tuple #[]) ∧ Q w' ∧ Keep M w1 w') :
  Calls Tryz.prog 138 #[.agg #[.int .u64 v, .bool d, .slice s0 sl sc], ptr cb, ptr ab, ptr nb, ptr bb, ptr tb] w fun e w' => e = .returned (.tuple #[]) ∧ Q w' ∧ Keep M w w' := by
 have HF := Lib.hid hF
 have l0 := h0.lt
 have l1 := h1.lt
 have l2 := h2.lt
 have l3 := h3.lt
 have l4 := h4.lt
 have c0 := h0.cell 0
 have c1 := h1.cell 0
 have c2 := h2.cell 0
 have c3 := h3.cell 0
 have c4 := h4.cell 0
 simp only [List.getElem?_cons_zero, ptr] at c0 c1 c2 c3 c4
 have W : IntKind.i64.wrap (at0 + (n : Int)) = at0 + (n : Int) := IntWalk.i64_in _ ⟨by omega, by omega⟩
 have b1 : (n : Int) ≤ (len : Int) := by omega
 subst hlen
 by_cases hcn : cap = n
 ·subst hcn
  unfold ptr
  clear hF h0 h1 h2 h3 h4
  go_enter Tryz.func138, Tryz.ntmps138
  go_wp2_with fail
  go_region_held3 (fun w' => w'.cell? ⟨cb, 0, none⟩ = some (.pointer (some ⟨q, 0, none⟩)) ∧ w'.cell? ⟨ab, 0, none⟩ = some (.int .i64 at0) ∧ w'.cell? ⟨nb, 0, none⟩ = some (.int .i64 cap) ∧ w'.cell? ⟨bb, 0, none⟩ = some (.slice (some ⟨b, off, none⟩) cap cap) ∧ w'.cell? ⟨tb, 0, none⟩ = some (.func (.func g) #[] gc)) (first | go_keep | trivial)
   ((go_at_call 109; refine (HF.out _ _ _ (by go_grown)).mono ?_; rintro e w2 ⟨rfl, hQ, hk⟩; have d0 := fun o => hk.cell (b := cb) o (by simp; omega) hm.1; have d1 := fun o => hk.cell (b := ab) o (by simp; omega) hm.2.1; have d2 := fun o => hk.cell (b := nb) o (by simp; omega) hm.2.2.1; have d3 := fun o => hk.cell (b := bb) o (by simp; omega) hm.2.2.2.1; have d4 := fun o => hk.cell (b := tb) o (by simp; omega) hm.2.2.2.2))
  clear d0 d1 d2 d3 d4
  go_wp2
  go_end0
  exact ⟨rfl, hQ, (((Keep.refl _ w).alloc _).drew).trans hk⟩
 ·have b2 : ¬ cap = n := hcn
  unfold ptr
  clear hF h0 h1 h2 h3 h4
  go_enter Tryz.func138, Tryz.ntmps138
  go_wp2_with fail
  go_region_held3 (fun w' => w'.cell? ⟨cb, 0, none⟩ = some (.pointer (some ⟨q, 0, none⟩)) ∧ w'.cell? ⟨ab, 0, none⟩ = some (.int .i64 at0) ∧ w'.cell? ⟨nb, 0, none⟩ = some (.int .i64 n) ∧ w'.cell? ⟨bb, 0, none⟩ = some (.slice (some ⟨b, off, none⟩) n cap) ∧ w'.cell? ⟨tb, 0, none⟩ = some (.func (.func g) #[] gc)) (first | go_keep | trivial)
   ((go_at_call 109; refine (HF.out _ _ _ (by go_grown)).mono ?_; rintro e w2 ⟨rfl, hQ, hk⟩; have d0 := fun o => hk.cell (b := cb) o (by simp; omega) hm.1; have d1 := fun o => hk.cell (b := ab) o (by simp; omega) hm.2.1; have d2 := fun o => hk.cell (b := nb) o (by simp; omega) hm.2.2.1; have d3 := fun o => hk.cell (b := bb) o (by simp; omega) hm.2.2.2.1; have d4 := fun o => hk.cell (b := tb) o (by simp; omega) hm.2.2.2.2))
  clear d0 d1 d2 d3 d4
  go_wp2
  go_end0
  exact ⟨rfl, hQ, (((Keep.refl _ w).alloc _).drew).trans hk⟩
end Go.Proofs.YtggjhleomocojaaGreat
end
