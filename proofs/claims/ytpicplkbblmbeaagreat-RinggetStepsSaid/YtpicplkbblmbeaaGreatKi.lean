/- Contracts of cont.Cont's In, and of what it goes on with. Conditions: the bytes are 131072 at most. -/
import Derived.Test.YtpicplkbblmbeaaGreatKc
import Derived.Test.YtpicplkbblmbeaaGreatCh
import Derived.Test.YtpicplkbblmbeaaGreatAp
namespace Go.Proofs.YtpicplkbblmbeaaGreat
set_option maxRecDepth 100000
open Go.RowKit
set_option linter.unusedVariables false
set_option linter.unusedSimpArgs false
theorem chL_head {n : Int} (h1 : 1 ≤ n) (h2 : n ≤ 131072) : gB (chL n) 0 = min n 8 ∧ 0 < (chL n).length := by
  rw [chL_in h1 h2]
  by_cases h : n ≤ 8
  · have : chK n = 0 := by unfold chK; omega
    rw [this]
    simp [gB]
    omega
  · obtain ⟨m, hm⟩ : ∃ m, chK n = m + 1 := ⟨chK n - 1, by unfold chK; omega⟩
    rw [hm]
    simp [gB, List.replicate_succ]
    omega
def ptr (b : Nat) : Value := .pointer (some ⟨b, 0, none⟩)
/-- What In goes on with. -/
def InK (w : World) (O : Nat → Prop) (t : Value) (q : Nat) (at0 n : Int) (bv f0 : Value) : Prop :=
  ∃ cb ab nb bb tb, t = .func (.func 196) #[] #[ptr cb, ptr ab, ptr nb, ptr bb, ptr tb] ∧ Blk w cb [ptr q] ∧ Blk w ab [.int .i64 at0] ∧ Blk w nb [.int .i64 n] ∧ Blk w bb [bv] ∧ Blk w tb [f0] ∧ O cb ∧ O ab ∧ O nb ∧ O bb ∧ O tb
theorem InK.keep {w w' : World} {O M : Nat → Prop} {t : Value} {q : Nat} {a n : Int} {bv f0 : Value} (h : InK w O t q a n bv f0) (k : Keep M w w') (hd : ∀ i, O i → ¬ M i) : InK w' O t q a n bv f0 := by
  obtain ⟨cb, ab, nb, bb, tb, e, h1, h2, h3, h4, h5, o1, o2, o3, o4, o5⟩ := h
  exact ⟨cb, ab, nb, bb, tb, e, h1.keep k (hd _ o1), h2.keep k (hd _ o2), h3.keep k (hd _ o3), h4.keep k (hd _ o4), h5.keep k (hd _ o5), o1, o2, o3, o4, o5⟩
theorem InK.mono {w : World} {O O' : Nat → Prop} {t : Value} {q : Nat} {a n : Int} {bv f0 : Value} (h : InK w O t q a n bv f0) (hd : ∀ i, O i → O' i) : InK w O' t q a n bv f0 := by
  obtain ⟨cb, ab, nb, bb, tb, e, h1, h2, h3, h4, h5, o1, o2, o3, o4, o5⟩ := h
  exact ⟨cb, ab, nb, bb, tb, e, h1, h2, h3, h4, h5, hd _ o1, hd _ o2, hd _ o3, hd _ o4, hd _ o5⟩
theorem box4 (w : World) (x0 x1 x2 x3 : Value) (t0 t1 t2 t3 : TypeId) : ∃ w4, w4 = (((w.alloc (.cells #[x0] t0)).alloc (.cells #[x1] t1)).alloc (.cells #[x2] t2)).alloc (.cells #[x3] t3) ∧ Blk w4 w.heap.size [x0] ∧ Blk w4 (w.heap.size + 1) [x1] ∧ Blk w4 (w.heap.size + 1 + 1) [x2] ∧ Blk w4 (w.heap.size + 1 + 1 + 1) [x3] ∧ w4.heap.size = w.heap.size + 1 + 1 + 1 + 1 ∧ Below w.heap.size w w4 := by
  refine ⟨_, rfl, ?_, ?_, ?_, ?_, by simp, by go_grown⟩
  · exact (((Blk.made w #[x0] t0).alloc _).alloc _).alloc _
  · have := ((Blk.made (w.alloc (.cells #[x0] t0)) #[x1] t1).alloc (.cells #[x2] t2)).alloc (.cells #[x3] t3)
    simpa using this
  · have := (Blk.made ((w.alloc (.cells #[x0] t0)).alloc (.cells #[x1] t1)) #[x2] t2).alloc (.cells #[x3] t3)
    simpa using this
  · have := Blk.made (((w.alloc (.cells #[x0] t0)).alloc (.cells #[x1] t1)).alloc (.cells #[x2] t2)) #[x3] t3
    simpa using this
set_option maxHeartbeats 2000000 in
theorem cIn_more (q : Nat) (c : Acc) (t : Value) (r : List Value) (at0 : Int) (b off cap : Nat) (l : List Int) (g : Nat) (gc : Array Value) (w : World) (h : Mch w q c t r) (hl0 : l.length ≠ 0) (hl : l.length ≤ 131072) (hc : l.length ≤ cap) :
    Calls Tryz.prog 187 #[.pointer (some ⟨q, 0, none⟩), .int .i64 at0, .slice (some ⟨b, off, none⟩) l.length cap, .func (.func g) #[] gc] w fun e w' =>
      e = .returned (.tuple #[]) ∧ ∃ (n : Nat) (t' : Value), n = min l.length 8 ∧ Mch w' q ⟨6, at0, n, 0, 0, .slice (some ⟨b, off, none⟩) n n⟩ t' r ∧ InK w' (fun k => w.heap.size ≤ k ∧ k < w'.heap.size) t' q at0 n (.slice (some ⟨b, off, none⟩) l.length cap) (.func (.func g) #[] gc) ∧ Keep (· = q) w w' := by
  have hlt := h.lt
  have H := Lib.hid h
  obtain ⟨n, hn⟩ : ∃ n : Nat, n = min l.length 8 := ⟨_, rfl⟩
  have hn1 : n ≤ l.length := by omega
  have hn8 : n ≤ 8 := by omega
  have hn0 : 1 ≤ n := by omega
  obtain ⟨hh, hp⟩ := chL_head (n := l.length) (by omega) (by omega)
  rw [show min (l.length : Int) 8 = (n : Int) by omega] at hh
  have HN := Lib.hid hn
  have hz : ((l.length : Int) == 0) = false := by
    rw [beq_eq_false_iff_ne]
    omega
  have hnc : (n : Int) ≤ (cap : Int) := by omega
  have hnc' : n ≤ cap := by omega
  clear h hn
  go_enter Tryz.func187, Tryz.ntmps187
  go_wp2_with fail
  refine (wChunks_in l.length _ (by omega) (by omega)).mono ?_
  rintro e w1 ⟨g1, cap1, rfl, hg1, hc1, hm1, hcell1, b1⟩
  have hch := hcell1 0 hp
  rw [hh] at hch
  have hp' : (0 : Int) < ((chL l.length).length : Int) := by omega
  clear hcell1
  go_wp2_with fail
  have z1 := b1.size
  simp at z1
  obtain ⟨w4, hw4, k0, k1, k2, k3, hs4, b4⟩ := box4 w (.pointer (some ⟨q, 0, none⟩)) (.int .i64 at0) (.slice (some ⟨b, off, none⟩) l.length cap) (.func (.func g) #[] gc) 208 3 22 1
  rw [← hw4] at b1
  have k0 := Lib.hid (k0.below b1 (by omega))
  have k1 := Lib.hid (k1.below b1 (by omega))
  have k2 := Lib.hid (k2.below b1 (by omega))
  have k3 := Lib.hid (k3.below b1 (by omega))
  have B1 : Below w.heap.size w w1 := b4.trans (b1.mono (by omega))
  have p0 := k0.out.cell 0
  have p1 := k1.out.cell 0
  have p2 := k2.out.cell 0
  simp only [List.getElem?_cons_zero] at p0 p1 p2
  have y0 : w.heap.size < w1.heap.size := by omega
  have y1 : w.heap.size + 1 < w1.heap.size := by omega
  have y2 : w.heap.size + 1 + 1 < w1.heap.size := by omega
  have yq : q < w1.heap.size := by omega
  have H1 := Lib.hid (show Mch w1 q c t r from Blk.below H.out B1 hlt)
  clear hch b1 hw4 b4 hs4
  go_region_held3 (fun w' => w'.cell? ⟨w.heap.size, 0, none⟩ = some (.pointer (some ⟨q, 0, none⟩)) ∧ w'.cell? ⟨w.heap.size + 1, 0, none⟩ = some (.int .i64 at0) ∧ w'.cell? ⟨w.heap.size + 1 + 1, 0, none⟩ = some (.slice (some ⟨b, off, none⟩) l.length cap) ∧ w'.cell? ⟨w1.heap.size, 0, none⟩ = some (.int .i64 n)) (first | go_keep | trivial)
    ((go_at_call 123; refine (cDo_any q c t r 6 at0 n 0 0 (some ⟨b, off, none⟩) n n _ _ _ (Blk.drew (Blk.alloc H1.out _))).mono ?_; rintro e w2 ⟨rfl, m2, k5⟩; have hc0 := fun o => k5.cell (b := w.heap.size) o (by simp; omega) (by show ¬ w.heap.size = q; omega); have hc1 := fun o => k5.cell (b := w.heap.size + 1) o (by simp; omega) (by show ¬ w.heap.size + 1 = q; omega); have hc2 := fun o => k5.cell (b := w.heap.size + 1 + 1) o (by simp; omega) (by show ¬ w.heap.size + 1 + 1 = q; omega); have hc3 := fun o => k5.cell (b := w1.heap.size) o (by simp) (by show ¬ w1.heap.size = q; omega)))
  have z2 := k5.size
  simp at z2
  clear hc0 hc1 hc2 hc3
  go_wp2
  go_end0
  refine ⟨rfl, n, _, HN.out, m2, ⟨w.heap.size, w.heap.size + 1, w1.heap.size, w.heap.size + 1 + 1, w.heap.size + 1 + 1 + 1, rfl, ?_, ?_, ?_, ?_, ?_, by omega, by omega, by omega, by omega, by omega⟩, ?_⟩
  · exact ((k0.out.alloc _).drew).keep k5 (by show ¬ w.heap.size = q; omega)
  · exact ((k1.out.alloc _).drew).keep k5 (by show ¬ w.heap.size + 1 = q; omega)
  · exact ((Blk.made w1 _ _).drew).keep k5 (by show ¬ w1.heap.size = q; omega)
  · exact ((k2.out.alloc _).drew).keep k5 (by show ¬ w.heap.size + 1 + 1 = q; omega)
  · exact ((k3.out.alloc _).drew).keep k5 (by show ¬ w.heap.size + 1 + 1 + 1 = q; omega)
  · exact (((Below.keeps B1).alloc _).drew).trans k5
set_option maxHeartbeats 2000000 in
theorem cIn_end (q : Nat) (at0 : Int) (s0 : Option Addr) (sc : Nat) (g : Nat) (gc : Array Value) (w : World) (hen : ∀ w1, (callFunc g gc).run Tryz.prog w1 = .ok (.enter g gc) w1) (Q : World → Prop)
    (hF : ∀ w1, Below w.heap.size w w1 → Calls Tryz.prog g gc w1 fun e w' => e = .returned (.tuple #[]) ∧ Q w') :
    Calls Tryz.prog 187 #[.pointer (some ⟨q, 0, none⟩), .int .i64 at0, .slice s0 0 sc, .func (.func g) #[] gc] w fun e w' => e = .returned (.tuple #[]) ∧ Q w' := by
  have HF := Lib.hid hF
  clear hF
  go_enter Tryz.func187, Tryz.ntmps187
  go_wp2_with fail
  refine (HF.out _ (by go_grown)).mono ?_
  rintro e w' ⟨rfl, hQ⟩
  go_wp2
  exact bodyPost_ret (v := .tuple #[]) (results_none rfl _ _ _) rfl ⟨rfl, hQ⟩
set_option maxHeartbeats 2000000 in
theorem cInK_more (q : Nat) (at0 : Int) (n b off cap len : Nat) (g : Nat) (gc : Array Value) (v : Int) (d : Bool) (s0 : Option Addr) (sl sc : Nat) (cb ab nb bb tb : Nat) (w : World)
    (h0 : Blk w cb [ptr q]) (h1 : Blk w ab [.int .i64 at0]) (h2 : Blk w nb [.int .i64 n]) (h3 : Blk w bb [.slice (some ⟨b, off, none⟩) len cap]) (h4 : Blk w tb [.func (.func g) #[] gc])
    (ha : -2305843009213693952 ≤ at0) (ha' : at0 ≤ 2305843009213693952) (hn : n ≤ 8) (hlen : n < len) (hc : len ≤ cap) (hcm : len ≤ 131072) (Q : World → Prop) (M : Nat → Prop) (hm : ¬ M cb ∧ ¬ M ab ∧ ¬ M nb ∧ ¬ M bb ∧ ¬ M tb)
    (hF : ∀ w1, Below w.heap.size w w1 → Calls Tryz.prog 187 #[.pointer (some ⟨q, 0, none⟩), .int .i64 (at0 + n), .slice (some ⟨b, off + n, none⟩) (len - n) (cap - n), .func (.func g) #[] gc] w1 fun e w' => e = .returned (.tuple #[]) ∧ Q w' ∧ Keep M w1 w') :
    Calls Tryz.prog 196 #[.agg #[.int .u64 v, .bool d, .slice s0 sl sc], ptr cb, ptr ab, ptr nb, ptr bb, ptr tb] w fun e w' => e = .returned (.tuple #[]) ∧ Q w' ∧ Keep M w w' := by
  have HF := Lib.hid hF
  have l0 := h0.lt
  have l1 := h1.lt
  have l2 := h2.lt
  have l3 := h3.lt
  have l4 := h4.lt
  have c0 := h0.cell 0
  have c1 := h1.cell 0
  have c2 := h2.cell 0
  have c3 := h3.cell 0
  have c4 := h4.cell 0
  simp only [List.getElem?_cons_zero, ptr] at c0 c1 c2 c3 c4
  have W : IntKind.i64.wrap (at0 + (n : Int)) = at0 + (n : Int) := IntWalk.i64_in _ ⟨by omega, by omega⟩
  have b1 : (n : Int) ≤ (len : Int) := by omega
  have b2 : ¬ cap = n := by omega
  unfold ptr
  clear hF h0 h1 h2 h3 h4
  go_enter Tryz.func196, Tryz.ntmps196
  go_wp2_with fail
  go_region_held3 (fun w' => w'.cell? ⟨cb, 0, none⟩ = some (.pointer (some ⟨q, 0, none⟩)) ∧ w'.cell? ⟨ab, 0, none⟩ = some (.int .i64 at0) ∧ w'.cell? ⟨nb, 0, none⟩ = some (.int .i64 n) ∧ w'.cell? ⟨bb, 0, none⟩ = some (.slice (some ⟨b, off, none⟩) len cap) ∧ w'.cell? ⟨tb, 0, none⟩ = some (.func (.func g) #[] gc)) (first | go_keep | trivial)
    ((go_at_call 187; refine (HF.out _ (by go_grown)).mono ?_; rintro e w2 ⟨rfl, hQ, hk⟩; have d0 := fun o => hk.cell (b := cb) o (by simp; omega) hm.1; have d1 := fun o => hk.cell (b := ab) o (by simp; omega) hm.2.1; have d2 := fun o => hk.cell (b := nb) o (by simp; omega) hm.2.2.1; have d3 := fun o => hk.cell (b := bb) o (by simp; omega) hm.2.2.2.1; have d4 := fun o => hk.cell (b := tb) o (by simp; omega) hm.2.2.2.2))
  clear d0 d1 d2 d3 d4
  go_wp2
  go_end0
  exact ⟨rfl, hQ, (((Keep.refl _ w).alloc _).drew).trans hk⟩
set_option maxHeartbeats 2000000 in
theorem cInK_last (q : Nat) (at0 : Int) (n b off cap len : Nat) (g : Nat) (gc : Array Value) (v : Int) (d : Bool) (s0 : Option Addr) (sl sc : Nat) (cb ab nb bb tb : Nat) (w : World)
    (h0 : Blk w cb [ptr q]) (h1 : Blk w ab [.int .i64 at0]) (h2 : Blk w nb [.int .i64 n]) (h3 : Blk w bb [.slice (some ⟨b, off, none⟩) len cap]) (h4 : Blk w tb [.func (.func g) #[] gc])
    (ha : -2305843009213693952 ≤ at0) (ha' : at0 ≤ 2305843009213693952) (hn : n ≤ 8) (hlen : n = len) (hc : len ≤ cap) (hcm : len ≤ 131072) (Q : World → Prop) (M : Nat → Prop) (hm : ¬ M cb ∧ ¬ M ab ∧ ¬ M nb ∧ ¬ M bb ∧ ¬ M tb)
    (hF : ∀ w1 a1 c1', Below w.heap.size w w1 → Calls Tryz.prog 187 #[.pointer (some ⟨q, 0, none⟩), .int .i64 (at0 + n), .slice a1 0 c1', .func (.func g) #[] gc] w1 fun e w' => e = .returned (.tuple #[]) ∧ Q w' ∧ Keep M w1 w') :
    Calls Tryz.prog 196 #[.agg #[.int .u64 v, .bool d, .slice s0 sl sc], ptr cb, ptr ab, ptr nb, ptr bb, ptr tb] w fun e w' => e = .returned (.tuple #[]) ∧ Q w' ∧ Keep M w w' := by
  have HF := Lib.hid hF
  have l0 := h0.lt
  have l1 := h1.lt
  have l2 := h2.lt
  have l3 := h3.lt
  have l4 := h4.lt
  have c0 := h0.cell 0
  have c1 := h1.cell 0
  have c2 := h2.cell 0
  have c3 := h3.cell 0
  have c4 := h4.cell 0
  simp only [List.getElem?_cons_zero, ptr] at c0 c1 c2 c3 c4
  have W : IntKind.i64.wrap (at0 + (n : Int)) = at0 + (n : Int) := IntWalk.i64_in _ ⟨by omega, by omega⟩
  have b1 : (n : Int) ≤ (len : Int) := by omega
  subst hlen
  by_cases hcn : cap = n
  · subst hcn
    unfold ptr
    clear hF h0 h1 h2 h3 h4
    go_enter Tryz.func196, Tryz.ntmps196
    go_wp2_with fail
    go_region_held3 (fun w' => w'.cell? ⟨cb, 0, none⟩ = some (.pointer (some ⟨q, 0, none⟩)) ∧ w'.cell? ⟨ab, 0, none⟩ = some (.int .i64 at0) ∧ w'.cell? ⟨nb, 0, none⟩ = some (.int .i64 cap) ∧ w'.cell? ⟨bb, 0, none⟩ = some (.slice (some ⟨b, off, none⟩) cap cap) ∧ w'.cell? ⟨tb, 0, none⟩ = some (.func (.func g) #[] gc)) (first | go_keep | trivial)
      ((go_at_call 187; refine (HF.out _ _ _ (by go_grown)).mono ?_; rintro e w2 ⟨rfl, hQ, hk⟩; have d0 := fun o => hk.cell (b := cb) o (by simp; omega) hm.1; have d1 := fun o => hk.cell (b := ab) o (by simp; omega) hm.2.1; have d2 := fun o => hk.cell (b := nb) o (by simp; omega) hm.2.2.1; have d3 := fun o => hk.cell (b := bb) o (by simp; omega) hm.2.2.2.1; have d4 := fun o => hk.cell (b := tb) o (by simp; omega) hm.2.2.2.2))
    clear d0 d1 d2 d3 d4
    go_wp2
    go_end0
    exact ⟨rfl, hQ, (((Keep.refl _ w).alloc _).drew).trans hk⟩
  · have b2 : ¬ cap = n := hcn
    unfold ptr
    clear hF h0 h1 h2 h3 h4
    go_enter Tryz.func196, Tryz.ntmps196
    go_wp2_with fail
    go_region_held3 (fun w' => w'.cell? ⟨cb, 0, none⟩ = some (.pointer (some ⟨q, 0, none⟩)) ∧ w'.cell? ⟨ab, 0, none⟩ = some (.int .i64 at0) ∧ w'.cell? ⟨nb, 0, none⟩ = some (.int .i64 n) ∧ w'.cell? ⟨bb, 0, none⟩ = some (.slice (some ⟨b, off, none⟩) n cap) ∧ w'.cell? ⟨tb, 0, none⟩ = some (.func (.func g) #[] gc)) (first | go_keep | trivial)
      ((go_at_call 187; refine (HF.out _ _ _ (by go_grown)).mono ?_; rintro e w2 ⟨rfl, hQ, hk⟩; have d0 := fun o => hk.cell (b := cb) o (by simp; omega) hm.1; have d1 := fun o => hk.cell (b := ab) o (by simp; omega) hm.2.1; have d2 := fun o => hk.cell (b := nb) o (by simp; omega) hm.2.2.1; have d3 := fun o => hk.cell (b := bb) o (by simp; omega) hm.2.2.2.1; have d4 := fun o => hk.cell (b := tb) o (by simp; omega) hm.2.2.2.2))
    clear d0 d1 d2 d3 d4
    go_wp2
    go_end0
    exact ⟨rfl, hQ, (((Keep.refl _ w).alloc _).drew).trans hk⟩
end Go.Proofs.YtpicplkbblmbeaaGreat
