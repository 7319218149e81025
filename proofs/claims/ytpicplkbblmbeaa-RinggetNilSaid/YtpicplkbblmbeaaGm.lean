/- A get in memory: Take, Next, Result, New; gets as a family of machines. Conditions: as each says. -/
import Derived.Test.YtpicplkbblmbeaaGl
namespace Go.Proofs.Ytpicplkbblmbeaa
set_option maxRecDepth 100000
open Go.RowKit
set_option linter.unusedVariables false
set_option linter.unusedSimpArgs false
/-- What holds where a get stands. -/
def GetM.pcOk (m : GetM) : Prop := match m.pc with
  | .done => True
  | .hd0 => m.out = [] ∧ m.dn = 0
  | .rc => m.bas ∧ 0 < m.left
  | .rd sz typ p n hv => m.bas ∧ 8 ≤ sz ∧ m.first + m.dn + sz ≤ m.c.s ∧ 1 ≤ n ∧ n ≤ 8192 ∧ 0 ≤ p ∧ p + n ≤ 200000 ∧ (hv.length : Int) + 1000 * n ≤ 9000000
  | .zr p k => m.bas ∧ 1 ≤ k ∧ k ≤ 8192 ∧ 0 ≤ p ∧ p + k ≤ 200000
  | .st => m.bas
structure GetM.fine (m : GetM) : Prop where
  ok : m.live = true → m.c.ok = true
  pc : m.pcOk
  lo : m.out.length ≤ 1024
  ds : ∀ x ∈ m.out, x.2.length ≤ 9000000
theorem GetM.fine.stop {m : GetM} (h1 : m.out.length ≤ 1024) (h2 : ∀ x ∈ m.out, x.2.length ≤ 9000000) : m.stop.fine := ⟨nofun, trivial, h1, h2⟩
theorem GetM.fine.zero {m : GetM} (hok : m.c.ok = true) (hb : m.bas) (h1 : m.out.length ≤ 1024) (h2 : ∀ x ∈ m.out, x.2.length ≤ 9000000) : m.zero.fine := by
  obtain ⟨o1, o2⟩ : rgOk m.c.b m.c.s = true ∧ 1 ≤ m.c.most := by
    unfold GetC.ok at hok
    simpa using hok
  obtain ⟨a1, a2, a3, a4, a5, a6⟩ := rgOk_bd o1
  have hb' := hb
  obtain ⟨g1, g2, g3, g4, g5, g6⟩ := hb
  unfold GetM.zero
  split
  · exact GetM.fine.stop h1 h2
  · rename_i hd
    refine ⟨fun _ => hok, ⟨⟨g1, g2, g3, g4, g5, g6⟩, ?_, ?_, ?_, ?_⟩, h1, h2⟩ <;> omega
theorem GetM.bas.lo {m : GetM} (hb : m.bas) (hok : m.c.ok = true) : m.out.length ≤ 1024 := by
  obtain ⟨o1, o2⟩ : rgOk m.c.b m.c.s = true ∧ 1 ≤ m.c.most := by
    unfold GetC.ok at hok
    simpa using hok
  obtain ⟨a1, a2, a3, a4, a5, a6⟩ := rgOk_bd o1
  obtain ⟨g1, g2, g3, g4, g5, g6⟩ := hb
  omega
theorem GetM.fine.record {m : GetM} (hok : m.c.ok = true) (hb : m.bas) (h2 : ∀ x ∈ m.out, x.2.length ≤ 9000000) : m.record.fine := by
  unfold GetM.record
  split
  · exact GetM.fine.zero hok hb (hb.lo hok) h2
  · rename_i h
    exact ⟨fun _ => hok, ⟨⟨hb.hd, hb.f0, hb.f1, hb.d0, hb.d1, hb.l8⟩, by show 0 < m.left; omega⟩, hb.lo hok, h2⟩
theorem GetM.bas.kept {m : GetM} (hb : m.bas) {sz typ : Int} {d : List Int} (h8 : 8 ≤ sz) (h1 : m.first + m.dn + sz ≤ m.c.s) : (m.kept sz typ d).bas := by
  obtain ⟨g1, g2, g3, g4, g5, g6⟩ := hb
  refine ⟨g1, g2, g3, by show 0 ≤ m.dn + sz; omega, by show m.first + (m.dn + sz) ≤ m.c.s; omega, ?_⟩
  show 8 * ((m.out ++ [(typ, d)]).length : Int) ≤ m.dn + sz
  rw [List.length_append]
  simp
  omega
theorem GetM.fine.got {m : GetM} (hok : m.c.ok = true) (hb : m.bas) (h2 : ∀ x ∈ m.out, x.2.length ≤ 9000000) {sz typ : Int} {d : List Int} (h8 : 8 ≤ sz) (h1 : m.first + m.dn + sz ≤ m.c.s) (hd : d.length ≤ 9000000) : (m.got sz typ d).fine := by
  rw [GetM.got_eq]
  refine GetM.fine.record hok (hb.kept h8 h1) ?_
  intro x hx
  rcases List.mem_append.1 hx with hx | hx
  · exact h2 x hx
  · obtain rfl := List.mem_singleton.1 hx
    exact hd
theorem GetM.step_rc (m : GetM) (hpc : m.pc = .rc) (x : AN) : m.step x = m.seen x.v := by
  obtain ⟨c, pc, hd, first, dn, out, odd, e⟩ := m
  dsimp only at hpc
  subst hpc
  rfl
theorem GetM.fine.seen {m : GetM} (hok : m.c.ok = true) (hb : m.bas) (h2 : ∀ x ∈ m.out, x.2.length ≤ 9000000) (v : Int) : (m.seen v).fine := by
  obtain ⟨o1, o2⟩ : rgOk m.c.b m.c.s = true ∧ 1 ≤ m.c.most := by
    unfold GetC.ok at hok
    simpa using hok
  obtain ⟨a1, a2, a3, a4, a5, a6⟩ := rgOk_bd o1
  have hb' := hb
  obtain ⟨g1, g2, g3, g4, g5, g6⟩ := hb
  have hl : m.left = m.c.s - m.first - m.dn := rfl
  have hsz : 0 ≤ rsz (loS v) ∧ loS v ≤ rsz (loS v) ∧ rsz (loS v) % 8 = 0 := by unfold rsz; omega
  unfold GetM.seen
  split
  · exact GetM.fine.zero hok hb' (hb'.lo hok) h2
  split
  · exact GetM.fine.zero (m := { m with odd := true }) hok ⟨g1, g2, g3, g4, g5, g6⟩ (hb'.lo hok) h2
  split
  · exact GetM.fine.record (m := { m with dn := m.dn + rsz (loS v) }) hok ⟨g1, g2, g3, by show 0 ≤ m.dn + rsz (loS v); omega, by show m.first + (m.dn + rsz (loS v)) ≤ m.c.s; omega, by show 8 * (m.out.length : Int) ≤ m.dn + rsz (loS v); omega⟩ h2
  · unfold GetM.taken
    have ha : m.at = m.c.b + m.first + m.dn := rfl
    split
    · exact GetM.fine.got hok hb' h2 (by omega) (by omega) (by simp)
    · refine ⟨fun _ => hok, ⟨⟨g1, g2, g3, g4, g5, g6⟩, ?_, ?_, ?_, ?_, ?_, ?_, ?_⟩, hb'.lo hok, h2⟩
      · omega
      · show m.first + m.dn + rsz (loS v) ≤ m.c.s
        omega
      · omega
      · omega
      · omega
      · omega
      · simp
        omega
theorem GetM.fine.step {m : GetM} (h : m.fine) (hl : m.live = true) {x : AN} (hx : inU x.v) (hxb : x.b.length ≤ 1000) : (m.step x).fine := by
  have hok := h.ok hl
  have hp := h.pc
  have h2 := h.ds
  have h1 := h.lo
  obtain ⟨o1, o2⟩ : rgOk m.c.b m.c.s = true ∧ 1 ≤ m.c.most := by
    unfold GetC.ok at hok
    simpa using hok
  obtain ⟨a1, a2, a3, a4, a5, a6⟩ := rgOk_bd o1
  obtain ⟨c, pc, hd, first, dn, out, odd, e⟩ := m
  dsimp only at hok a1 a2 a3 a4 a5 a6 h1 h2
  cases pc with
  | done => cases hl
  | hd0 =>
    obtain ⟨p1, p2⟩ := hp
    dsimp only at p1 p2
    subst p1 p2
    have m1 := Int.emod_nonneg x.v (show c.s ≠ 0 by omega)
    have m2 := Int.emod_lt_of_pos x.v (show 0 < c.s by omega)
    exact GetM.fine.record (m := ⟨c, .hd0, x.v, x.v % c.s, 0, [], odd, e⟩) hok ⟨hx, m1, m2, Int.le_refl 0, by show x.v % c.s + 0 ≤ c.s; omega, by simp⟩ h2
  | rc => exact GetM.fine.seen (m := ⟨c, .rc, hd, first, dn, out, odd, e⟩) hok hp.1 h2 x.v
  | rd sz typ p n hv =>
    obtain ⟨hb, p1, p2, p3, p4, p5, p6, p7⟩ := hp
    simp only [GetM.step]
    split
    · exact GetM.fine.got (m := ⟨c, .rd sz typ p n hv, hd, first, dn, out, odd, e⟩) hok hb h2 p1 p2 (by rw [List.length_append]; omega)
    · refine ⟨fun _ => hok, ⟨⟨hb.hd, hb.f0, hb.f1, hb.d0, hb.d1, hb.l8⟩, p1, p2, by omega, by omega, by omega, by omega, ?_⟩, h1, h2⟩
      rw [List.length_append]
      omega
  | zr p k =>
    obtain ⟨hb, p1, p2, p3, p4⟩ := hp
    simp only [GetM.step]
    split
    · exact ⟨fun _ => hok, ⟨hb.hd, hb.f0, hb.f1, hb.d0, hb.d1, hb.l8⟩, h1, h2⟩
    · exact ⟨fun _ => hok, ⟨⟨hb.hd, hb.f0, hb.f1, hb.d0, hb.d1, hb.l8⟩, by omega, by omega, by omega, by omega⟩, h1, h2⟩
  | st => exact GetM.fine.stop (m := ⟨c, .st, hd, first, dn, out, odd, e⟩) h1 h2
theorem GetM.fine.wf {m : GetM} (h : m.fine) : m.want.wf := by
  have u0 : inU 0 := ⟨by omega, by omega⟩
  have hp := h.pc
  obtain ⟨c, pc, hd, first, dn, out, odd, e⟩ := m
  cases pc with
  | zr p k =>
    obtain ⟨hb, p1, p2, p3, p4⟩ := hp
    refine ⟨?_, ?_, u0.1, u0.2, u0.1, u0.2⟩
    · intro x hx
      have := List.eq_of_mem_replicate hx
      omega
    · show (List.replicate (min k 8).toNat (0 : Int)).length ≤ 1000000
      simp
      omega
  | st => exact ⟨IsB.nil, by simp [GetM.want], (u64_bdP _).1, (u64_bdP _).2, u0.1, u0.2⟩
  | _ => exact ⟨IsB.nil, by simp [GetM.want, aaZ], u0.1, u0.2, u0.1, u0.2⟩
theorem GetI.w {w w1 : World} {O R : Nat → Prop} {q : Nat} {m : GetM} {ov : Value} (h : GetI w O R q m ov) (hok : m.c.ok = true) (m1 : Mch w1 q accZ .nilFunc (m.rest ov)) (k1 : Keep (· = q) w w1) : GetW w1 O R q m ov :=
  ⟨m1, h.ms.keep k1 (fun i hi e => h.nqo (e ▸ hi)) (fun i hi e => h.nqr (e ▸ hi)), h.nqo, h.nqr, h.dj, fun i hi => Nat.lt_of_lt_of_le (h.lo i hi) k1.size, hok⟩
theorem GetI.lt {w : World} {O R : Nat → Prop} {q : Nat} {m : GetM} {ov : Value} (h : GetI w O R q m ov) : q < w.heap.size := by
  obtain ⟨c, t, hm⟩ := h.at_.mch
  exact Blk.lt hm
theorem GetI.keep {w w' : World} {O R M : Nat → Prop} {q : Nat} {m : GetM} {ov : Value} (h : GetI w O R q m ov) (k : Keep M w w') (hd : ∀ i, O i → ¬ M i) (hr : ∀ i, R i → ¬ M i) (hq : ¬ M q) : GetI w' O R q m ov :=
  ⟨h.at_.keep k hd hr hq, h.ms.keep k hd hr, h.nqo, h.nqr, h.dj, fun i hi => Nat.lt_of_lt_of_le (h.lo i hi) k.size⟩
theorem GetI.below {w w' : World} {O R : Nat → Prop} {q : Nat} {m : GetM} {ov : Value} (h : GetI w O R q m ov) (b : Below w.heap.size w w') : GetI w' O R q m ov := h.keep (M := fun _ => False) (Below.keeps b) (fun _ _ => id) (fun _ _ => id) id
theorem enGNew : En 83 := enters_of Try.func83 (by kernel_rfl) rfl
theorem enGRecord : En 129 := enters_of Try.func129 (by kernel_rfl) rfl
theorem enGZero : En 151 := enters_of Try.func151 (by kernel_rfl) rfl
theorem enGStop : En 150 := enters_of Try.func150 (by kernel_rfl) rfl
/-- A row of bytes and a row of messages lie apart. -/
theorem own_apart {w : World} {v u : Value} {n k : Nat} {xs ys : List Value} (h : w.ownsRow 0 5 1 v n xs) (g : w.ownsRow 0 158 2 u k ys) {i : Nat} (h1 : v.ownBlock = some i) : u.ownBlock ≠ some i := by
  intro h2
  rcases h.2 with ⟨rfl, _⟩ | ⟨a, _, c, rfl, _, e1, _⟩
  · cases h1
  rcases g.2 with ⟨rfl, _⟩ | ⟨b, _, d, rfl, _, e2, _⟩
  · cases h2
  obtain rfl : a = i := by simpa [Value.ownBlock] using h1
  obtain rfl : b = a := by simpa [Value.ownBlock] using h2
  rw [e1] at e2
  simp at e2
set_option maxHeartbeats 4000000 in
/-- Take, where bytes are read. -/
theorem gcTake_rd {O R : Nat → Prop} {q : Nat} {ov : Value} {c : GetC} {sz typ p n : Int} {hv : List Int} {hd first dn e : Int} {out : List (Int × List Int)} {odd : Bool} (x : AN) (s0 : Option Addr) (sl sc : Nat) (w : World) (h : GetI w O R q ⟨c, .rd sz typ p n hv, hd, first, dn, out, odd, e⟩ ov) (hf : (GetM.mk c (.rd sz typ p n hv) hd first dn out odd e).fine) (hxb : x.b.length ≤ 1000) (hr : RdB w (.slice s0 sl sc) x.b) :
    Calls Try.prog 73 #[.pointer (some ⟨q, 0, none⟩), .agg #[.int .u64 x.v, .bool x.d, .slice s0 sl sc]] w fun e' w' => e' = .returned (.tuple #[]) ∧ GetTo w O R q ((GetM.mk c (.rd sz typ p n hv) hd first dn out odd e).step x) w' := by
  have hok := hf.ok rfl
  obtain ⟨hb, f1, f2, f3, f4, f5, f6, f7⟩ := hf.pc
  dsimp only at f2
  obtain ⟨t, hvv, fv, hm, hk, hown, hvR, hc⟩ := h.at_
  have hlt := h.lt
  obtain ⟨cb, ab, kb, nb, hbk, fb, rfl, ⟨h1, h2, h3, h4, h5, h6⟩, o1, o2, o3, o4, o5, o6⟩ := hk
  obtain ⟨gb, tb, sb, rfl, ⟨hg, og⟩, ⟨ht, ot⟩, hs, os⟩ := hc.c3
  obtain ⟨N, rfl⟩ : ∃ N : Nat, n = N := ⟨n.toNat, by omega⟩
  obtain ⟨K, hK⟩ : ∃ K : Nat, min (N : Int) 8 = (K : Int) := ⟨(min (N : Int) 8).toNat, by omega⟩
  rw [hK] at h3
  refine cTake_any q _ _ _ _ x.v x.d s0 sl sc w hm (fun w1 => enOut1 _ w1) _ ?_
  intro w1 m1 k1
  have hW := h.w hok m1 k1
  have z1 := k1.size
  have nq : ∀ i, O i → ¬ i = q := fun i hi e => h.nqo (e ▸ hi)
  have hown1 : OwB 5 0 w1 hvv hv := ownsRow_keep hown k1 (fun i hi e => h.nqr (e ▸ hvR i hi))
  have hr1 : RdB w1 (.slice s0 sl sc) x.b := by
    by_cases hl : x.b.length = 0
    · obtain hl : x.b = [] := List.eq_nil_of_length_eq_zero hl
      rw [hl] at hr ⊢
      rcases hr with hr | hr | ⟨b, off, cap, e1, e2, e3, e4⟩
      · exact .inl hr
      · exact .inr (.inl hr)
      · exact .inr (.inr ⟨b, off, cap, e1, e2, e3, fun i hi => by simp at hi⟩)
    · refine hr.keep k1 (fun _ i hi e => ?_)
      have hap : ∀ i, (Value.slice s0 sl sc).ownBlock = some i → i ≠ q := by
        intro i hi e
        subst e
        rcases hr with ⟨e1, _⟩ | ⟨_, _, e1, e2, _⟩ | ⟨b, off, cap, e1, e2, e3, e4⟩
        · rw [e1] at hi; cases hi
        · exact hl (by rw [e2]; rfl)
        · rw [e1] at hi
          obtain rfl : b = i := by simpa [Value.ownBlock] using hi
          have hcl := e4 0 (by omega)
          obtain ⟨oa, oc, rfl⟩ := h.ms.sl
          have hcl2 := Blk.cell hm (off + 0)
          rw [hcl2] at hcl
          have hmem := List.mem_of_getElem? hcl
          simp [Acc.cs, AA.acc, GetM.want, GetM.rest] at hmem
      exact hap i hi e
  refine cOutK_any q p K N hvv _ _ hv x.b x.v x.d s0 sl sc cb ab kb nb hbk fb w1 (h1.keep k1 (nq _ o1)) (h2.keep k1 (nq _ o2)) (h3.keep k1 (nq _ o3)) (h4.keep k1 (nq _ o4)) (h5.keep k1 (nq _ o5)) (h6.keep k1 (nq _ o6)) hown1 hr1 (by omega) (by omega) (by omega) (by omega) (by omega) (by omega)
    (fun i hi => ⟨fun e => h.dj _ o1 (e ▸ hvR i hi), fun e => h.dj _ o2 (e ▸ hvR i hi), fun e => h.dj _ o3 (e ▸ hvR i hi), fun e => h.dj _ o4 (e ▸ hvR i hi), fun e => h.dj _ o5 (e ▸ hvR i hi), fun e => h.dj _ o6 (e ▸ hvR i hi)⟩)
    (fun w' => GetTo w O R q ((GetM.mk c (.rd sz typ p N hv) hd first dn out odd e).step x) w') (fun i => i = q ∨ R i) (by
      rintro i (rfl | hi)
      · omega
      · have := h.lo i (.inr hi)
        omega) ⟨fun hh => hh.elim (nq _ o1) (h.dj _ o1), fun hh => hh.elim (nq _ o2) (h.dj _ o2), fun hh => hh.elim (nq _ o3) (h.dj _ o3), fun hh => hh.elim (nq _ o4) (h.dj _ o4), fun hh => hh.elim (nq _ o5) (h.dj _ o5), fun hh => hh.elim (nq _ o6) (h.dj _ o6)⟩ ?_
  intro w2 ra rn rc hown2 hov2 k2
  have z2 := k2.size
  have k2' : Keep (fun i => i = q ∨ R i) w1 w2 := k2.mono (fun i _ e => .inr (hvR i e))
  have k02 : Keep (fun i => i = q ∨ R i) w w2 := (k1.mono (fun i _ e => .inl e)).trans k2'
  have hnew : ∀ i, (Value.slice ra rn rc).ownBlock = some i → R i ∨ (w.heap.size ≤ i ∧ i < w2.heap.size) := by
    intro i hi
    rcases hov2 with e | ⟨b, e, e2, e3⟩
    · exact .inl (hvR i (e ▸ hi))
    · rw [e] at hi
      cases hi
      exact .inr ⟨by omega, e3⟩
  have h2w : Mch w2 q accZ .nilFunc (GetM.rest ⟨c, .rd sz typ p N hv, hd, first, dn, out, odd, e⟩ ov) := Blk.keep m1 k2 (fun e => h.nqr (hvR _ e))
  have hms2 : MsIn w2 O R ov out := by
    have hA := hW.ms
    obtain ⟨⟨es, g1, g2, g3⟩, g4⟩ := hA
    refine ⟨⟨es, g1, ownsRow_keep g2 k2 (fun i hi e => own_apart hown1 g2 e hi), fun y hy => ⟨(g3 y hy).1.keepP k2 (fun i hi e => h.dj i ((g3 y hy).2 i hi) (hvR i e)), (g3 y hy).2⟩⟩, g4⟩
  have hstep : (GetM.mk c (.rd sz typ p N hv) hd first dn out odd e).step x = if (N : Int) ≤ 8 then (GetM.mk c (.rd sz typ p N hv) hd first dn out odd e).got sz typ (hv ++ x.b) else ⟨c, .rd sz typ (p + 8) (N - 8) (hv ++ x.b), hd, first, dn, out, odd, e⟩ := rfl
  rw [hstep]
  by_cases h8 : (N : Int) ≤ 8
  · rw [if_pos h8]
    have hKN : (N : Int) - K = 0 := by omega
    rw [hKN]
    refine (cOut_end q (p + K) 0 ra rn rc _ _ w2 (by omega) enTakeG (fun w' => GetTo w O R q ((GetM.mk c (.rd sz typ p N hv) hd first dn out odd e).got sz typ (hv ++ x.b)) w' ∧ Keep (fun i => i = q ∨ R i) w2 w') (fun w3 b3 => ?_))
    have z3 := b3.size
    have kO : ∀ i, O i → i < w2.heap.size := fun i hi => by have := h.lo i (.inl hi); omega
    obtain ⟨es, g1, g2, g3⟩ := hms2.ex
    have hW3 : GetW w3 (fun i => O i ∨ (Value.slice ra rn rc).ownBlock = some i) (fun i => R i ∧ (Value.slice ra rn rc).ownBlock ≠ some i) q ⟨c, .rd sz typ p N hv, hd, first, dn, out, odd, e⟩ ov := by
      refine GetW.below ⟨h2w, ⟨⟨es, g1, g2, fun y hy => ⟨(g3 y hy).1, fun i hi => .inl ((g3 y hy).2 i hi)⟩⟩, fun i hi => ⟨hms2.rb i hi, fun e => own_apart hown2 g2 e hi⟩⟩, ?_, fun hh => h.nqr hh.1, ?_, ?_, hok⟩ b3
      · rintro (hh | hh)
        · exact h.nqo hh
        · rcases hnew _ hh with h9 | h9
          · exact h.nqr h9
          · omega
      · rintro i (hh | hh) ⟨h9, h10⟩
        · exact h.dj i hh h9
        · exact h10 hh
      · rintro i ((hh | hh) | hh)
        · exact kO i hh
        · exact (World.ownsRow.lt hown2 _ hh).2
        · have := h.lo i (.inr hh.1)
          omega
    have nO : ∀ i, O i → ¬ (i = q ∨ R i) := fun i hi hh => hh.elim (nq i hi) (h.dj i hi)
    refine (gTakeK_any ra rn rc (hv ++ x.b) sz typ gb tb sb w3 hW3 ⟨hb.hd, hb.f0, hb.f1, hb.d0, hb.d1, hb.l8⟩ ((hg.keep k02 (nO _ og)).below b3 (kO _ og)) ((ht.keep k02 (nO _ ot)).below b3 (kO _ ot)) ((hs.keep k02 (nO _ os)).below b3 (kO _ os)) (.inl og) (.inl ot) (.inl os) (hown2.rd.below b3) (fun i hi => .inr hi) f1 f2).mono ?_
    rintro e' w4 ⟨rfl, hto⟩
    refine ⟨rfl, hto.from (k02.trans (Below.keeps b3)) (fun i hi => ?_) (fun i hi => .inl hi.1), ?_⟩
    · rcases hi with hi | hi
      · exact .inl hi
      · rcases hnew i hi with h9 | h9
        · exact .inr (.inl h9)
        · exact .inr (.inr h9.1)
    · obtain ⟨_, _, _, _, _, k4⟩ := hto
      exact (Below.keeps b3).trans (k4.mono (fun i _ hh => hh.imp id (fun h9 => h9.1)))
  · rw [if_neg h8]
    have hK8 : K = 8 := by omega
    have hN8 : (N : Int) - K = ((N - 8 : Nat) : Int) := by omega
    rw [hN8]
    refine (cOut_more q _ _ _ (p + K) (N - 8) ra rn rc _ _ w2 h2w (by omega)).mono ?_
    rintro e' w3 ⟨rfl, t3, m3, l3, k3⟩
    have z3 := k3.size
    have eK : p + K = p + 8 := by omega
    have eN : ((N - 8 : Nat) : Int) = (N : Int) - 8 := by omega
    rw [eK, eN] at m3 l3
    have nO : ∀ i, O i → ¬ (i = q ∨ R i) := fun i hi hh => hh.elim (nq i hi) (h.dj i hi)
    refine ⟨rfl, ⟨fun i => O i ∨ (w2.heap.size ≤ i ∧ i < w3.heap.size), fun i => R i ∨ (w.heap.size ≤ i ∧ i < w2.heap.size ∧ (Value.slice ra rn rc).ownBlock = some i), ov, ⟨⟨t3, _, _, m3, l3.mono (fun i hi => .inr hi), ?_, ?_, Clo.mk3 ?_ (.inl og) ?_ (.inl ot) ?_ (.inl os)⟩, ?_, ?_, ?_, ?_, ?_⟩, ?_, ?_⟩, k3.mono (fun i _ e => .inl e)⟩
    · exact ownsRow_keep hown2 k3 (fun i hi e => by
        rcases hnew i hi with h9 | h9
        · exact h.nqr ((show i = q from e) ▸ h9)
        · have : i = q := e
          omega)
    · intro i hi
      rcases hnew i hi with h9 | h9
      · exact .inl h9
      · exact .inr ⟨h9.1, h9.2, hi⟩
    · exact (hg.keep k02 (nO _ og)).keep k3 (nq _ og)
    · exact (ht.keep k02 (nO _ ot)).keep k3 (nq _ ot)
    · exact (hs.keep k02 (nO _ os)).keep k3 (nq _ os)
    · exact (hms2.keep k3 (fun i hi e => nq i hi e) (fun i hi e => h.nqr ((show i = q from e) ▸ hi))).mono (fun i hi => .inl hi) (fun i hi => .inl hi)
    · rintro (hh | hh)
      · exact h.nqo hh
      · omega
    · rintro (hh | hh)
      · exact h.nqr hh
      · omega
    · rintro i (hh | hh) (h9 | h9)
      · exact h.dj i hh h9
      · have := h.lo i (.inl hh)
        omega
      · have := h.lo i (.inr h9)
        omega
      · omega
    · rintro i ((hh | hh) | (hh | hh))
      · have := h.lo i (.inl hh)
        omega
      · exact hh.2
      · have := h.lo i (.inr hh)
        omega
      · omega
    · rintro i ((hh | hh) | (hh | hh))
      · exact .inl hh
      · exact .inr (.inr (by omega))
      · exact .inr (.inl hh)
      · exact .inr (.inr hh.1)
    · exact k02.trans (k3.mono (fun i _ e => .inl e))
set_option maxHeartbeats 2000000 in
/-- Take, where something is wanted. -/
theorem gcTake_any {O R : Nat → Prop} {q : Nat} {m : GetM} {ov : Value} (x : AN) (s0 : Option Addr) (sl sc : Nat) (w : World) (h : GetI w O R q m ov) (hf : m.fine) (hl : m.live = true) (hx : inU x.v) (hxb : x.b.length ≤ 1000) (hr : RdB w (.slice s0 sl sc) x.b) :
    Calls Try.prog 73 #[.pointer (some ⟨q, 0, none⟩), .agg #[.int .u64 x.v, .bool x.d, .slice s0 sl sc]] w fun e w' => e = .returned (.tuple #[]) ∧ GetTo w O R q (m.step x) w' := by
  have hok := hf.ok hl
  have hA := h.at_
  have hp := hf.pc
  have nqb : ∀ b, O b → b ≠ q := fun b hb e => h.nqo (e ▸ hb)
  obtain ⟨c, pc, hd, first, dn, out, odd, e⟩ := m
  cases pc with
  | done => cases hl
  | rd sz typ p n hv => exact gcTake_rd x s0 sl sc w h hf hxb hr
  | hd0 =>
    obtain ⟨t, hm, rb, pb, c1, hrb, hpb, orb, opb⟩ := hA
    refine takeLoad O q _ t _ _ _ x.v x.d s0 sl sc w hm c1 h.nqo enGNew _ (fun w1 m1 k1 => ?_)
    refine (gNewK_any x.v rb pb w1 (h.w hok m1 k1) (hrb.keep k1 (nqb _ orb)) (hpb.keep k1 (nqb _ opb)) orb opb hx hp.1 hp.2).mono ?_
    rintro e' w' ⟨rfl, hto⟩
    exact ⟨rfl, hto.after (k1.mono (fun i _ e => .inl e))⟩
  | rc =>
    obtain ⟨t, hm, v1, c1, c2⟩ := hA
    obtain ⟨pb, eb, rfl, ⟨hpb, opb⟩, he, oe⟩ := c2.c2
    refine takeLoad O q _ t _ _ _ x.v x.d s0 sl sc w hm c1 h.nqo enGRecord _ (fun w1 m1 k1 => ?_)
    refine (gRecordK_any x.v pb eb w1 (h.w hok m1 k1) ⟨hp.1.hd, hp.1.f0, hp.1.f1, hp.1.d0, hp.1.d1, hp.1.l8⟩ (hpb.keep k1 (nqb _ opb)) (he.keep k1 (nqb _ oe)) opb oe hx).mono ?_
    rintro e' w' ⟨rfl, hto⟩
    refine ⟨rfl, ?_⟩
    rw [GetM.step_rc _ rfl]
    exact hto.after (k1.mono (fun i _ e => .inl e))
  | st =>
    obtain ⟨t, hm, c1⟩ := hA
    refine takeStoreB O q _ t _ _ _ x.v x.d s0 sl sc w hm c1 h.nqo enGStop _ (fun w1 m1 k1 => ?_)
    refine (gStop_any w1 (h.w hok m1 k1)).mono ?_
    rintro e' w' ⟨rfl, hto⟩
    exact ⟨rfl, hto.after (k1.mono (fun i _ e => .inl e))⟩
  | zr p k =>
    obtain ⟨f0, hin, c2⟩ := hA
    obtain ⟨gb, rfl, hg, og⟩ := c2.c1
    obtain ⟨hb, p1, p2, p3, p4⟩ := hp
    have hkl : (List.replicate k.toNat (0 : Int)).length = k.toNat := List.length_replicate
    have hstep : (GetM.mk c (.zr p k) hd first dn out odd e).step x = if k ≤ 8 then ⟨c, .st, hd, first, dn, out, odd, e⟩ else ⟨c, .zr (p + 8) (k - 8), hd, first, dn, out, odd, e⟩ := rfl
    rw [hstep]
    by_cases h8 : k ≤ 8
    · rw [if_pos h8]
      refine (inTake_last O q p _ _ _ _ x.v x.d s0 sl sc w hin h.nqo (by rw [hkl]; omega) (by omega) (by omega) (enGZero _) (fun w' => GetTo w O R q ⟨c, .st, hd, first, dn, out, odd, e⟩ w') (fun i => i = q ∨ R i) (.inl rfl) (fun i hi hh => hh.elim (nqb i hi) (h.dj i hi)) (fun w1 m1 k1 => ?_)).mono ?_
      · refine (gZeroK_any gb w1 (h.w hok m1 k1) (hg.keep k1 (nqb gb og)) og).mono ?_
        rintro e2 w' ⟨rfl, hto⟩
        obtain ⟨_, _, _, _, _, kk⟩ := id hto
        exact ⟨rfl, hto.after (k1.mono (fun i _ e => .inl e)), kk⟩
      · rintro e2 w' ⟨rfl, hto, k'⟩
        exact ⟨rfl, hto⟩
    · rw [if_neg h8]
      refine (inTake_more O q p _ _ _ _ x.v x.d s0 sl sc w hin h.nqo (by rw [hkl]; omega) (by rw [hkl]; omega) (by omega) (by omega)).mono ?_
      rintro e2 w' ⟨rfl, hin', k'⟩
      have zk := k'.size
      have hdr : (List.replicate k.toNat (0 : Int)).drop 8 = List.replicate (k - 8).toNat 0 := by
        rw [List.drop_replicate]
        congr 1
        omega
      rw [hdr] at hin'
      have hlt := h.lt
      refine ⟨rfl, fun i => O i ∨ (w.heap.size ≤ i ∧ i < w'.heap.size), R, ov, ⟨⟨_, hin', Clo.mk1 (hg.keep k' (nqb gb og)) (.inl og)⟩, ?_, ?_, h.nqr, ?_, ?_⟩, ?_, k'.mono (fun i _ e => .inl e)⟩
      · exact (h.ms.keep k' (fun j hj e => nqb j hj e) (fun j hj e => h.nqr ((show j = q from e) ▸ hj))).mono (fun i hi => .inl hi) (fun _ => id)
      · rintro (hh | hh)
        · exact h.nqo hh
        · omega
      · rintro i (hh | hh) h9
        · exact h.dj i hh h9
        · have := h.lo i (.inr h9)
          omega
      · rintro i ((hh | hh) | hh)
        · have := h.lo i (.inl hh)
          omega
        · exact hh.2
        · have := h.lo i (.inr hh)
          omega
      · rintro i ((hh | hh) | hh)
        · exact .inl hh
        · exact .inr (.inr hh.1)
        · exact .inr (.inl hh)
/-- The next access of a get's machine. -/
theorem gcNext_any {O R : Nat → Prop} {q : Nat} {m : GetM} {ov : Value} (w : World) (h : GetAt w O R q m ov) (hf : m.fine) :
    Calls Try.prog 76 #[.pointer (some ⟨q, 0, none⟩)] w fun e w' => ∃ s0 sl sc, e = .returned (.tuple #[m.want.V (.slice s0 sl sc), .bool m.live]) ∧ RdB w' (.slice s0 sl sc) m.want.b ∧ Below w.heap.size w w' := by
  have hp := hf.pc
  obtain ⟨c, pc, hd, first, dn, out, odd, e⟩ := m
  have more : ∀ (a : AA) (f : Nat) (cap : Array Value) (r : List Value), a.b = [] → Mch w q a.acc (.func (.func f) #[] cap) r → Calls Try.prog 76 #[.pointer (some ⟨q, 0, none⟩)] w fun e w' => ∃ s0 sl sc, e = .returned (.tuple #[a.V (.slice s0 sl sc), .bool true]) ∧ RdB w' (.slice s0 sl sc) a.b ∧ Below w.heap.size w w' := by
    intro a f cap r hb hm
    refine (cNext_more q a.k a.a a.n a.v a.x none 0 0 f _ r w hm).mono ?_
    rintro e w' ⟨rfl, b⟩
    exact ⟨none, 0, 0, rfl, by rw [hb]; exact .inl ⟨rfl, rfl⟩, b⟩
  cases pc with
  | done =>
    obtain ⟨t, hm, rfl⟩ := h
    refine (cNext_end q _ _ w hm).mono ?_
    rintro e w' ⟨rfl, b⟩
    exact ⟨none, 0, 0, rfl, .inl ⟨rfl, rfl⟩, b⟩
  | hd0 => obtain ⟨t, hm, rb, pb, c1, _⟩ := h; obtain ⟨bs, rfl, _⟩ := c1; exact more _ _ _ _ rfl hm
  | rc => obtain ⟨t, hm, v1, c1, _⟩ := h; obtain ⟨bs, rfl, _⟩ := c1; exact more _ _ _ _ rfl hm
  | st => obtain ⟨t, hm, c1⟩ := h; obtain ⟨bs, rfl, _⟩ := c1; exact more _ _ _ _ rfl hm
  | rd sz typ p n hv => obtain ⟨t, hvv, fv, hm, ⟨cb, ab, kb, nb, hb, fb, rfl, _⟩, _⟩ := h; exact more _ _ _ _ rfl hm
  | zr p k =>
    obtain ⟨hb, p1, p2, p3, p4⟩ := hp
    obtain ⟨f0, ⟨b, off, cap, n, t, hm, hn, hl0, hc, hcm, ⟨cb, ab, nb, bb, tb, rfl, _⟩, ob, hcell⟩, _⟩ := h
    refine (cNext_more q 6 p n 0 0 (some ⟨b, off, none⟩) n n _ _ _ w hm).mono ?_
    rintro e2 w' ⟨rfl, b2⟩
    have hkl : (List.replicate k.toNat (0 : Int)).length = k.toNat := List.length_replicate
    rw [hkl] at hn hc
    have hn' : (n : Int) = min k 8 := by omega
    refine ⟨some ⟨b, off, none⟩, n, n, ?_, ?_, b2⟩
    · simp only [AA.V, GetM.want, GetM.live]
      rw [← hn']
      rfl
    · have e0 : (GetM.mk c (.zr p k) hd first dn out odd e).want.b = List.replicate n 0 := by
        show List.replicate (min k 8).toNat (0 : Int) = _
        rw [← hn', Int.toNat_natCast]
      rw [e0]
      refine .inr <| .inr ⟨b, off, n, by rw [List.length_replicate], by rw [List.length_replicate]; exact Nat.le_refl _, by omega, fun i hi => ?_⟩
      rw [List.length_replicate] at hi
      have hci := hcell i (by rw [hkl]; omega)
      rw [b2.cell (p := ⟨b, off + i, none⟩) (World.block_lt_of_cell? w _ hci), hci]
      simp [gB, hi, show i < k.toNat by omega]
set_option maxHeartbeats 1000000 in
/-- Next, from what the Cont's Next does. -/
theorem gNext_of {q : Nat} {W : AA} {L : Bool} (w : World) (hlt : q < w.heap.size)
    (hc : ∀ w1, Below w.heap.size w w1 → Calls Try.prog 76 #[.pointer (some ⟨q, 0, none⟩)] w1 fun e w' => ∃ s0 sl sc, e = .returned (.tuple #[W.V (.slice s0 sl sc), .bool L]) ∧ RdB w' (.slice s0 sl sc) W.b ∧ Below w1.heap.size w1 w') :
    Calls Try.prog 43 #[.pointer (some ⟨q, 0, none⟩)] w fun e w' => ∃ s0 sl sc, e = .returned (.tuple #[W.V (.slice s0 sl sc), .bool L]) ∧ RdB w' (.slice s0 sl sc) W.b ∧ Below w.heap.size w w' := by
  have HC := Lib.hid hc
  clear hc
  go_enter Try.func43, Try.ntmps43
  go_wp2_with fail
  refine (HC.out (w.alloc (.cells #[.int .i64 0, .int .i64 0, .int .i64 0, .int .u64 0, .int .u64 0, .slice none 0 0] 47)) ((Below.refl w.heap.size w).alloc (Nat.le_refl _) _)).mono ?_
  rintro e w1 ⟨s0, sl, sc, rfl, hr, b1⟩
  unfold AA.V
  dsimp only
  have z1 := b1.size
  simp at z1
  have A1 := Lib.hid (Blk.below (Blk.made w #[.int .i64 0, .int .i64 0, .int .i64 0, .int .u64 0, .int .u64 0, .slice none 0 0] 47) b1 (by simp))
  have B1 : Below w.heap.size w w1 := ((Below.refl w.heap.size w).alloc (Nat.le_refl _) _).trans (b1.mono (by simp))
  have y1 : w.heap.size < w1.heap.size := by omega
  have HR := Lib.hid hr
  clear b1 hr
  have a0 := A1.out.cell 0
  have a1 := A1.out.cell 1
  have a2 := A1.out.cell 2
  have a3 := A1.out.cell 3
  have a4 := A1.out.cell 4
  have a5 := A1.out.cell 5
  have e0 := A1.out.frozen 0
  have e1 := A1.out.frozen 1
  have e2 := A1.out.frozen 2
  have e3 := A1.out.frozen 3
  have e4 := A1.out.frozen 4
  have e5 := A1.out.frozen 5
  simp only [List.getElem?_toArray, List.getElem?_cons_zero, List.getElem?_cons_succ] at a0 a1 a2 a3 a4 a5
  go_wp2
  refine bodyPost_ret (v := .tuple #[W.V (.slice s0 sl sc), .bool L]) (res_aa (c := W) rfl rfl rfl (((((((A1.out.set 0 _).set 1 _).set 2 _).set 3 _).set 4 _).set 5 _))) rfl ⟨s0, sl, sc, rfl, ?_, ?_⟩
  · refine HR.out.keep (K := (· = w.heap.size)) ?_ (fun h => HR.out.apart h A1.out rfl)
    repeat' (refine Keep.setCell (M := (· = w.heap.size)) ?_ (Or.inl (by simp)) _)
    exact Keep.refl _ _
  · repeat' (refine Below.setCell ?_ (by simp; try omega) _)
    exact B1
set_option maxHeartbeats 2000000 in
/-- Take, from what the Cont's Take does. -/
theorem gTake_of {q : Nat} (v : Int) (d : Bool) (s0 : Option Addr) (sl sc : Nat) (Q : World → Prop) (w : World) (hlt : q < w.heap.size)
    (hc : ∀ w1, Below w.heap.size w w1 → Calls Try.prog 73 #[.pointer (some ⟨q, 0, none⟩), .agg #[.int .u64 v, .bool d, .slice s0 sl sc]] w1 fun e w' => e = .returned (.tuple #[]) ∧ Q w' ∧ Keep (fun k => k < w.heap.size) w1 w') :
    Calls Try.prog 42 #[.pointer (some ⟨q, 0, none⟩), .agg #[.int .u64 v, .bool d, .slice s0 sl sc]] w fun e w' => e = .returned (.tuple #[]) ∧ Q w' := by
  have HC := Lib.hid hc
  clear hc
  go_enter Try.func42, Try.ntmps42
  go_wp2_with fail
  go_region_held3 (fun w' => w'.cell? ⟨w.heap.size, 0, none⟩ = some (.int .u64 v) ∧ w'.cell? ⟨w.heap.size, 1, none⟩ = some (.bool d) ∧ w'.cell? ⟨w.heap.size, 2, none⟩ = some (.slice s0 sl sc)) (first | go_keep | trivial)
    (first
      | (go_at_call 73; refine (HC.out _ (by go_grown)).mono ?_; rintro e w2 ⟨rfl, hQ, hk⟩; have hc := fun o => hk.cell (b := w.heap.size) o (by simp) (by simp)))
  all_goals
    clear hc
    go_wp2
    go_end0
    exact ⟨rfl, hQ⟩
set_option maxHeartbeats 1000000 in
theorem gNext_nil (w : World) : Calls Try.prog 43 #[.pointer none] w fun e w' => e = .returned (.tuple #[aaZ.V (.slice none 0 0), .bool false]) ∧ Below w.heap.size w w' := by
  go_enter Try.func43, Try.ntmps43
  go_wp2
  refine bodyPost_ret (v := .tuple #[aaZ.V (.slice none 0 0), .bool false]) (res_aa (c := aaZ) rfl rfl rfl (Blk.made _ _ _)) rfl ⟨rfl, by go_grown⟩
set_option maxHeartbeats 1000000 in
theorem gTake_nil (v : Int) (d : Bool) (s0 : Option Addr) (sl sc : Nat) (w : World) : Calls Try.prog 42 #[.pointer none, .agg #[.int .u64 v, .bool d, .slice s0 sl sc]] w fun e w' => e = .returned (.tuple #[]) ∧ Below w.heap.size w w' := by
  go_enter Try.func42, Try.ntmps42
  go_wp2
  go_end0
  exact ⟨rfl, by go_grown⟩
theorem gNext_any {O R : Nat → Prop} {q : Nat} {m : GetM} {ov : Value} (w : World) (h : GetI w O R q m ov) (hf : m.fine) :
    Calls Try.prog 43 #[.pointer (some ⟨q, 0, none⟩)] w fun e w' => ∃ s0 sl sc, e = .returned (.tuple #[m.want.V (.slice s0 sl sc), .bool m.live]) ∧ RdB w' (.slice s0 sl sc) m.want.b ∧ Below w.heap.size w w' :=
  gNext_of w h.lt (fun w1 b1 => gcNext_any w1 (h.below b1).at_ hf)
/-- Take. -/
theorem gTake_any {O R : Nat → Prop} {q : Nat} {m : GetM} {ov : Value} (x : AN) (s0 : Option Addr) (sl sc : Nat) (w : World) (h : GetI w O R q m ov) (hf : m.fine) (hl : m.live = true) (hx : inU x.v) (hxb : x.b.length ≤ 1000) (hr : RdB w (.slice s0 sl sc) x.b) :
    Calls Try.prog 42 #[.pointer (some ⟨q, 0, none⟩), .agg #[.int .u64 x.v, .bool x.d, .slice s0 sl sc]] w fun e w' => e = .returned (.tuple #[]) ∧ GetTo w O R q (m.step x) w' := by
  refine gTake_of x.v x.d s0 sl sc (fun w' => GetTo w O R q (m.step x) w') w h.lt (fun w1 b1 => ?_)
  refine (gcTake_any x s0 sl sc w1 (h.below b1) hf hl hx hxb (hr.below b1)).mono ?_
  rintro e w2 ⟨rfl, hto⟩
  have hlt := h.lt
  obtain ⟨_, _, _, _, _, kk⟩ := id hto
  refine ⟨rfl, hto.from (Below.keeps b1) (fun i hi => .inl hi) (fun i hi => .inl hi), kk.mono (fun i _ hh => ?_)⟩
  rcases hh with hh | hh
  · show i < w.heap.size
    omega
  · exact h.lo i (.inr hh)
set_option maxHeartbeats 1000000 in
theorem gResult_any {O R : Nat → Prop} {q : Nat} {m : GetM} {ov : Value} (w : World) (h : GetAt w O R q m ov) :
    Calls Try.prog 44 #[.pointer (some ⟨q, 0, none⟩)] w fun e w' => e = .returned (.tuple #[.int .i64 m.res.1, .int .i64 m.res.2]) ∧ Below w.heap.size w w' := by
  obtain ⟨c, t, hm⟩ := h.mch
  obtain ⟨_, _, _, _, _, c12, _, _, c15⟩ := get_cells hm
  have hlt : q < w.heap.size := Blk.lt hm
  clear h hm
  by_cases he : m.e = 0
  · have hv : m.res = (m.dn, 0) := if_neg (by omega)
    rw [hv]
    rw [he] at c15
    clear hv he
    go_enter Try.func44, Try.ntmps44
    go_wp2_with fail
    first | (go_ret2; exact ⟨rfl, Below.refl _ _⟩) | (go_quiet (fail); go_wp2; go_ret2; exact ⟨rfl, bel_drewN _ (Below.refl _ _)⟩)
  · have hv : m.res = (0, m.e) := if_pos he
    rw [hv]
    have he' : (m.e != 0) = true := by simpa using he
    clear hv
    go_enter Try.func44, Try.ntmps44
    go_wp2_with fail
    first | (go_ret2; exact ⟨rfl, Below.refl _ _⟩) | (go_quiet (fail); go_wp2; go_ret2; exact ⟨rfl, bel_drewN _ (Below.refl _ _)⟩)
theorem gResult_nil (w : World) : Calls Try.prog 44 #[.pointer none] w fun e w' => e = .returned (.tuple #[.int .i64 0, .int .i64 1]) ∧ w = w' := by
  go_enter Try.func44, Try.ntmps44
  go_wp2
  go_ret2
  exact ⟨rfl, rfl⟩
end Go.Proofs.Ytpicplkbblmbeaa
