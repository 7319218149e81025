/- A get in memory: New; gets as a family of machines. Conditions: as each says. -/
import Derived.Test.YtpicplkbblmbeaaGm
namespace Go.Proofs.Ytpicplkbblmbeaa
set_option maxRecDepth 100000
open Go.RowKit
set_option linter.unusedVariables false
set_option linter.unusedSimpArgs false
theorem pboxH3 (w : World) (x0 x1 x2 : Array Value) (t0 t1 t2 : TypeId) : ∃ w3, w3 = ((w.alloc (.cells x0 t0)).alloc (.cells x1 t1)).alloc (.cells x2 t2) ∧ Blk w3 w.heap.size x0.toList ∧ Blk w3 (w.heap.size + 1) x1.toList ∧ Blk w3 (w.heap.size + 1 + 1) x2.toList ∧ w3.heap.size = w.heap.size + 1 + 1 + 1 ∧ Below w.heap.size w w3 := by
  refine ⟨_, rfl, ?_, ?_, ?_, by simp, by go_grown⟩
  · exact ((Blk.made w x0 t0).alloc _).alloc _
  · have := (Blk.made (w.alloc (.cells x0 t0)) x1 t1).alloc (.cells x2 t2)
    simpa using this
  · have := Blk.made ((w.alloc (.cells x0 t0)).alloc (.cells x1 t1)) x2 t2
    simpa using this
set_option maxHeartbeats 4000000 in
/-- New. -/
theorem gNew_any (b s most : Int) (w : World) (hb0 : -9223372036854775808 ≤ b) (hb1 : b ≤ 9223372036854775807) (hs0 : -9223372036854775808 ≤ s) (hs1 : s ≤ 9223372036854775807) :
    Calls Try.prog 45 #[.agg #[.int .i64 b, .int .i64 s], .int .i64 most] w fun e w' => ∃ q, e = .returned (.pointer (some ⟨q, 0, none⟩)) ∧ w.heap.size ≤ q ∧ q < w'.heap.size ∧ (∃ O R ov, GetI w' O R q (GetC.init ⟨b, s, most⟩) ov ∧ ∀ i, O i ∨ R i → w.heap.size ≤ i) ∧ (GetC.init ⟨b, s, most⟩).fine ∧ Below w.heap.size w w' := by
  go_enter Try.func45, Try.ntmps45
  go_upto_region 2 with fail
  obtain ⟨w3, hw3, x0, x1, x2, hs3, bb3⟩ := pboxH3 w #[.int .i64 b, .int .i64 s] #[.int .i64 0, .int .i64 0, .int .i64 0, .int .u64 0, .int .u64 0, .slice none 0 0, .nilFunc, .int .i64 b, .int .i64 s, .int .i64 most, .int .u64 0, .int .i64 0, .int .i64 0, .slice none 0 0, .bool false, .int .i64 10] #[.pointer (some ⟨w.heap.size + 1, 0, none⟩)] 67 160 89
  rw [← hw3]
  have B3 := Lib.hid bb3
  have X0 := Lib.hid x0
  have X1 := Lib.hid x1
  have X2 := Lib.hid x2
  have c0 := x0.cell 0
  have c1 := x0.cell 1
  have c2 := x2.cell 0
  simp only [List.getElem?_cons_zero, List.getElem?_cons_succ] at c0 c1 c2
  have l0 : w.heap.size < w3.heap.size := by omega
  have l1 : w.heap.size + 1 < w3.heap.size := by omega
  have l2 : w.heap.size + 1 + 1 < w3.heap.size := by omega
  clear hw3 x0 x1 x2 bb3
  go_wp2_with fail
  refine (rCheck_any b s _ hb0 hb1 hs0 hs1).mono ?_
  rintro e w4 ⟨rfl, b4⟩
  have z4 := b4.size
  have B4 := Lib.hid (B3.out.trans (b4.mono (by omega)))
  have Y0 := Lib.hid (X0.out.below b4 l0)
  have Y1 := Lib.hid (X1.out.below b4 l1)
  have Y2 := Lib.hid (X2.out.below b4 l2)
  have c0 := Y0.out.cell 0
  have c1 := Y0.out.cell 1
  have c2 := Y2.out.cell 0
  have f15 := Y1.out.frozen 15
  have c15 := Y1.out.cell 15
  simp only [List.getElem?_cons_zero, List.getElem?_cons_succ] at c0 c1 c2 c15
  have l0 : w.heap.size < w4.heap.size := by omega
  have l1 : w.heap.size + 1 < w4.heap.size := by omega
  have l2 : w.heap.size + 1 + 1 < w4.heap.size := by omega
  clear b4 X0 X1 X2 B3
  have bad : (GetC.mk b s most).ok = false → (∃ O R ov, GetI (w4.setCell ⟨w.heap.size + 1, 15, none⟩ (.int .i64 1)) O R (w.heap.size + 1) (GetC.init ⟨b, s, most⟩) ov ∧ ∀ i, O i ∨ R i → w.heap.size ≤ i) ∧ (GetC.init ⟨b, s, most⟩).fine ∧ Below w.heap.size w (w4.setCell ⟨w.heap.size + 1, 15, none⟩ (.int .i64 1)) := by
    intro hk
    have hi : GetC.init ⟨b, s, most⟩ = ⟨⟨b, s, most⟩, .done, 0, 0, 0, [], false, 1⟩ := by unfold GetC.init; rw [hk]; rfl
    rw [hi]
    refine ⟨⟨fun _ => False, fun _ => False, .slice none 0 0, ⟨⟨.nilFunc, Y1.out.set 15 (.int .i64 1), rfl⟩, ⟨⟨[], rfl, ⟨rfl, .inl ⟨rfl, rfl⟩⟩, fun e he => by cases he⟩, fun i hi => by cases hi⟩, id, id, fun _ _ => id, fun i hi => hi.elim False.elim False.elim⟩, fun i hi => hi.elim False.elim False.elim⟩, ⟨nofun, trivial, by simp, fun x hx => by cases hx⟩, B4.out.setCell (by simp) _⟩
  have BAD := Lib.hid bad
  clear bad
  by_cases hg : rgOk b s = true
  · have hE : rgE b s = 0 := if_pos hg
    have HG := Lib.hid hg
    obtain ⟨g1, g2, g3, g4, g5, g6⟩ := rgOk_bd hg
    have W1 : IntKind.i64.wrap (b + s) = b + s := IntWalk.i64_in _ ⟨by omega, by omega⟩
    have W2 : IntKind.i64.wrap (b + s + 16) = b + s + 16 := IntWalk.i64_in _ ⟨by omega, by omega⟩
    rw [hE]
    clear hg g1
    by_cases hm : most < 1
    · have hk : (GetC.mk b s most).ok = false := by
        unfold GetC.ok
        rw [HG.out]
        simp
        omega
      have HK := Lib.hid hk
      clear hk
      go_wp2
      go_ret
      exact ⟨_, rfl, by omega, by simp; omega, BAD.out HK.out⟩
    · have hk : (GetC.mk b s most).ok = true := by
        unfold GetC.ok
        rw [HG.out]
        simp
        omega
      have HK := Lib.hid hk
      clear hk
      have hm' : 1 ≤ most := by omega
      have M4 := Lib.hid (show Mch w4 (w.heap.size + 1) accZ .nilFunc (GetM.rest ⟨⟨b, s, most⟩, .hd0, 0, 0, 0, [], false, 10⟩ (.slice none 0 0)) from Y1.out)
      go_upto_region 5 with fail
      go_region_held3 (fun w' => w'.cell? ⟨w.heap.size + 1 + 1, 0, none⟩ = some (.pointer (some ⟨w.heap.size + 1, 0, none⟩)) ∧ w'.cell? ⟨w.heap.size, 0, none⟩ = some (.int .i64 b) ∧ w'.cell? ⟨w.heap.size, 1, none⟩ = some (.int .i64 s)) (first | go_keep | trivial)
        (first
          | (go_at_call 68; refine (cLoad_any (w.heap.size + 1) _ _ _ (b + s + 16) 8 _ _ _ (Blk.drew M4.out)).mono ?_; rintro e w6 ⟨rfl, t6, m6, l6, k6⟩; have hd0 := fun o => k6.cell (b := w.heap.size + 1 + 1) o (by simp; omega) (by show ¬ w.heap.size + 1 + 1 = w.heap.size + 1; omega); have hd1 := fun o => k6.cell (b := w.heap.size) o (by simp; omega) (by show ¬ w.heap.size = w.heap.size + 1; omega)))
      all_goals
        have e2 := (hd0 0).trans c2
        have z6 := k6.size
        simp at z6
        have y2 : w.heap.size + 1 + 1 < w6.heap.size := by omega
        clear hd0 hd1
        go_wp2
        go_ret
        have hi : GetC.init ⟨b, s, most⟩ = ⟨⟨b, s, most⟩, .hd0, 0, 0, 0, [], false, 10⟩ := by unfold GetC.init; rw [HK.out]; rfl
        rw [hi]
        refine ⟨_, rfl, by omega, by omega, ⟨fun i => w.heap.size ≤ i ∧ i < w6.heap.size ∧ i ≠ w.heap.size + 1, fun _ => False, .slice none 0 0, ⟨⟨t6, m6, w.heap.size, w.heap.size + 1 + 1, l6.mono (fun i hi => ?_), ?_, ?_, ?_, ?_⟩, ⟨⟨[], rfl, ⟨rfl, .inl ⟨rfl, rfl⟩⟩, fun e he => by cases he⟩, fun i hi => by cases hi⟩, fun h => h.2.2 rfl, id, fun _ _ => id, fun i hi => hi.elim (fun h => h.2.1) False.elim⟩, fun i hi => hi.elim (fun h => h.1) False.elim⟩, ⟨fun _ => HK.out, ⟨rfl, rfl⟩, by simp, fun x hx => by cases hx⟩, (bel_drewN 1 B4.out).trans (k6.below (B := w.heap.size) (by simp; omega) (fun k h1 h2 => by have h2 : k = w.heap.size + 1 := h2; omega))⟩
        · have h1 := hi.1
          simp at h1
          exact ⟨by omega, hi.2, by omega⟩
        · exact (Blk.drew Y0.out).keep k6 (by show ¬ w.heap.size = w.heap.size + 1; omega)
        · exact (Blk.drew Y2.out).keep k6 (by show ¬ w.heap.size + 1 + 1 = w.heap.size + 1; omega)
        · exact ⟨by omega, by omega, by omega⟩
        · exact ⟨by omega, by omega, by omega⟩
  · have hE : rgE b s = 1 := if_neg hg
    have hk : (GetC.mk b s most).ok = false := by
      have hg' : rgOk b s = false := by simpa using hg
      unfold GetC.ok
      rw [hg']
      rfl
    have HK := Lib.hid hk
    rw [hE]
    clear hg hk
    go_wp2
    go_ret
    exact ⟨_, rfl, by omega, by simp; omega, BAD.out HK.out⟩
/-- A get among the blocks F. -/
def GetF (w : World) (F : Nat → Prop) (q : Nat) (m : GetM) : Prop := F q ∧ (∀ i, F i → i < w.heap.size) ∧ m.fine ∧ ∃ O R ov, (∀ i, O i ∨ R i → F i) ∧ GetI w O R q m ov
theorem GetF.mono {w : World} {F F' : Nat → Prop} {q : Nat} {m : GetM} (h : GetF w F q m) (h1 : ∀ i, F i → F' i) (h2 : ∀ i, F' i → i < w.heap.size) : GetF w F' q m := by
  obtain ⟨a1, a2, a3, O, R, ov, hO, hI⟩ := h
  exact ⟨h1 q a1, h2, a3, O, R, ov, fun i hi => h1 i (hO i hi), hI⟩
theorem GetF.keep {w w' : World} {F K : Nat → Prop} {q : Nat} {m : GetM} (h : GetF w F q m) (k : Keep K w w') (hd : ∀ i, F i → ¬ K i) : GetF w' F q m := by
  obtain ⟨a1, a2, a3, O, R, ov, hO, hI⟩ := h
  exact ⟨a1, fun i hi => Nat.lt_of_lt_of_le (a2 i hi) k.size, a3, O, R, ov, hO, hI.keep k (fun i hi => hd i (hO i (.inl hi))) (fun i hi => hd i (hO i (.inr hi))) (hd q a1)⟩
theorem GetF.below {w w' : World} {F : Nat → Prop} {q : Nat} {m : GetM} (h : GetF w F q m) (b : Below w.heap.size w w') : GetF w' F q m := h.keep (K := fun _ => False) (Below.keeps b) (fun _ _ => id)
theorem gNew_f (b s most : Int) (w : World) (hb0 : -9223372036854775808 ≤ b) (hb1 : b ≤ 9223372036854775807) (hs0 : -9223372036854775808 ≤ s) (hs1 : s ≤ 9223372036854775807) :
    Calls Try.prog 45 #[.agg #[.int .i64 b, .int .i64 s], .int .i64 most] w fun e w' => ∃ q, e = .returned (.pointer (some ⟨q, 0, none⟩)) ∧ w.heap.size ≤ q ∧ GetF w' (fun k => w.heap.size ≤ k ∧ k < w'.heap.size) q (GetC.init ⟨b, s, most⟩) ∧ Below w.heap.size w w' := by
  refine (gNew_any b s most w hb0 hb1 hs0 hs1).mono ?_
  rintro e w' ⟨q, rfl, h1, h2, ⟨O, R, ov, h3, h4⟩, h5, h6⟩
  exact ⟨q, rfl, h1, ⟨⟨h1, h2⟩, fun i hi => hi.2, h5, O, R, ov, fun i hi => ⟨h4 i hi, h3.lo i hi⟩, h3⟩, h6⟩
theorem gTake_f {F : Nat → Prop} {q : Nat} {m : GetM} (x : AN) (s0 : Option Addr) (sl sc : Nat) (w : World) (h : GetF w F q m) (hl : m.live = true) (hx : inU x.v) (hxb : x.b.length ≤ 1000) (hr : RdB w (.slice s0 sl sc) x.b) :
    Calls Try.prog 42 #[.pointer (some ⟨q, 0, none⟩), .agg #[.int .u64 x.v, .bool x.d, .slice s0 sl sc]] w fun e w' => e = .returned (.tuple #[]) ∧ ∃ F', GetF w' F' q (m.step x) ∧ (∀ i, F' i → F i ∨ w.heap.size ≤ i) ∧ Keep F w w' := by
  obtain ⟨a1, a2, a3, O, R, ov, hO, hI⟩ := h
  refine (gTake_any x s0 sl sc w hI a3 hl hx hxb hr).mono ?_
  rintro e w' ⟨rfl, O', R', ov', hI', hs, k⟩
  have z := k.size
  have hq := a2 q a1
  refine ⟨rfl, fun i => F i ∨ (w.heap.size ≤ i ∧ i < w'.heap.size), ⟨.inl a1, fun i hi => ?_, a3.step hl hx hxb, O', R', ov', fun i hi => ?_, hI'⟩, fun i hi => hi.imp id (fun h => h.1), k.mono (fun i _ e => ?_)⟩
  · rcases hi with hi | hi
    · have := a2 i hi
      omega
    · exact hi.2
  · rcases hs i hi with h1 | h1 | h1
    · exact .inl (hO i (.inl h1))
    · exact .inl (hO i (.inr h1))
    · exact .inr ⟨h1, hI'.lo i hi⟩
  · rcases e with e | e
    · exact e ▸ a1
    · exact hO i (.inr e)
theorem GetM.want_small {m : GetM} (h : m.want.k = 5) : m.want.n ≤ 8 := by
  obtain ⟨c, pc, hd, first, dn, out, odd, e⟩ := m
  cases pc with
  | rd sz typ p n hv => show min n 8 ≤ 8; omega
  | _ => revert h; simp [GetM.want, aaZ]
theorem gM_next (b : Nat) (w : World) : (method (Try.prog.types.size + Made.depth) 89 (.pointer (some ⟨b, 0, none⟩)) "Next").run Try.prog w = .ok (43, .pointer (some ⟨b, 0, none⟩)) w := by kernel_rfl
theorem gM_take (b : Nat) (w : World) : (method (Try.prog.types.size + Made.depth) 89 (.pointer (some ⟨b, 0, none⟩)) "Take").run Try.prog w = .ok (42, .pointer (some ⟨b, 0, none⟩)) w := by kernel_rfl
theorem engN (args : Array Value) (w : World) : (callFunc 43 args).run Try.prog w = .ok (.enter 43 args) w :=
  enters_of Try.func43 (by kernel_rfl) rfl args w
theorem engT (args : Array Value) (w : World) : (callFunc 42 args).run Try.prog w = .ok (.enter 42 args) w :=
  enters_of Try.func42 (by kernel_rfl) rfl args w
theorem gNoTick (b : Nat) (w : World) : ((Instr.typeAssert (.iface 89 (.pointer (some ⟨b, 0, none⟩))) 116 179 true).run Try.prog w) = .ok (.tuple #[.nilIface, .bool false]) w := by
  obtain ⟨m, hm⟩ := missing_oneP "Tick" 181 Try.t89.methods (by decide +kernel)
  have hz : ∀ w, (zeroValue 179).run Try.prog w = .ok .nilIface w := fun w => by kernel_rfl
  unfold Instr.typeAssert
  go_simp
def getMac : Mac := ⟨GetM, GetM.live, GetM.want, GetM.step⟩
def getMacQ : Mac := ⟨Nat × GetM, fun s => s.2.live, fun s => s.2.want, fun s x => (s.1, s.2.step x)⟩
def getFam : Fam where
  M := getMacQ
  inv := fun w F q s => q = s.1 ∧ GetF w F q s.2
  ty := fun _ => 89
  fn := fun _ => 43
  ft := fun _ => 42
  mn := fun _ b w => gM_next b w
  mt := fun _ b w => gM_take b w
  en := fun _ args w => engN args w
  et := fun _ args w => engT args w
  ts := fun _ _ => rfl
  dom := fun h => ⟨h.2.1, h.2.2.1⟩
  mono := fun h h1 h2 => ⟨h.1, h.2.mono h1 h2⟩
  keep := fun h k hd => ⟨h.1, h.2.keep k hd⟩
  wf := fun {w F q s} h => h.2.2.2.1.wf
  next := fun {w F q s} h => by
    obtain ⟨_, _, _, hf, O, R, ov, hO, hI⟩ := h
    exact gNext_any w hI hf
  take := fun {w F q s x s0 sl sc} h hl hx hr => by
    have hxb : x.b.length ≤ 1000 := by
      by_cases hk : (getMacQ.want s).k = 5
      · have h1 := hx.rd hk
        have h2 : (getMacQ.want s).n ≤ 8 := GetM.want_small hk
        omega
      · rw [hx.no hk]
        simp
    refine (gTake_f x s0 sl sc w h.2 hl ⟨hx.v0, hx.v1⟩ hxb hr).mono ?_
    rintro e w' ⟨rfl, F', h1, h2, h3⟩
    exact ⟨rfl, F', ⟨h.1, h1⟩, h2, h3⟩
theorem getUntimed : Untimed getFam := fun s b w => gNoTick b w
theorem Runs.gq {s s' : GetM} {bs bs' : List Int} {n : Nat} (q : Nat) (h : Runs getMac s bs n s' bs') : Runs getMacQ (q, s) bs n (q, s') bs' :=
  Runs.lift (M := getMac) (M' := getMacQ) (fun s => (q, s)) (fun _ => rfl) (fun _ => rfl) (fun _ _ => rfl) h
end Go.Proofs.Ytpicplkbblmbeaa
