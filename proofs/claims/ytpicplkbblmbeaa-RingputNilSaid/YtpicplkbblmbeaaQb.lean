/- The fixed facts of layer 7's law; the law RingputNil. Conditions: none. -/
import Derived.Test.YtpicplkbblmbeaaPj
import Derived.Test.YtpicplkbblmbeaaQa
namespace Go.Proofs.Ytpicplkbblmbeaa
set_option maxRecDepth 100000
open Go.RowKit
set_option linter.unusedVariables false
set_option linter.unusedSimpArgs false
theorem mNew_at (size : Int) (k : Nat) (w : World) (hs : size = 8 * (k : Int)) (h1 : 1 ≤ k) (h2 : k ≤ 16384) :
    Calls Try.prog 11 #[.int .i64 size] w fun e w' => ∃ p c, e = .returned (.tuple #[.pointer (some ⟨p, 0, none⟩), .int .i64 0]) ∧ Buf w' p c 0 (List.replicate (8 * k) 0) ∧ w.heap.size ≤ p ∧ w.heap.size ≤ c ∧ Below w.heap.size w w' := by
  subst hs
  exact mNew_any k w h1 h2
/-- So many steps, reckoned. -/
def Mac.runN (M : Mac) : Nat → M.σ → List Int → M.σ × List Int × Bool
  | 0, s, bs => (s, bs, true)
  | n + 1, s, bs => if M.live s = true ∧ (M.want s).err bs.length = 0 then Mac.runN M n (M.step s ((M.want s).ans bs)) ((M.want s).out bs) else (s, bs, false)
theorem runN_runs {M : Mac} : ∀ (n : Nat) (s : M.σ) (bs : List Int), (M.runN n s bs).2.2 = true → Runs M s bs n (M.runN n s bs).1 (M.runN n s bs).2.1 := by
  intro n
  induction n with
  | zero => intro s bs _; exact .refl _ _
  | succ n ih =>
    intro s bs h
    unfold Mac.runN at h ⊢
    split at h
    · rename_i h1
      rw [if_pos h1]
      exact .step h1.1 h1.2 (ih _ _ h)
    · cases h
theorem Runs.lift {M M' : Mac} (f : M.σ → M'.σ) (hl : ∀ s, M'.live (f s) = M.live s) (hw : ∀ s, M'.want (f s) = M.want s) (hs : ∀ s x, M'.step (f s) x = f (M.step s x)) {s s' : M.σ} {bs bs' : List Int} {n : Nat} (h : Runs M s bs n s' bs') : Runs M' (f s) bs n (f s') bs' := by
  induction h with
  | refl => exact .refl _ _
  | step h1 he _ ih =>
    refine .step (by rw [hl]; exact h1) (by rw [hw]; exact he) ?_
    rw [hw, hs]
    exact ih
theorem Runs.q {s s' : PutM} {bs bs' : List Int} {n : Nat} (q : Nat) (h : Runs putMac s bs n s' bs') : Runs putMacQ (q, s) bs n (q, s') bs' :=
  Runs.lift (M := putMac) (M' := putMacQ) (fun s => (q, s)) (fun _ => rfl) (fun _ => rfl) (fun _ _ => rfl) h
/-- What a put is, where its world went on to its end. -/
theorem SoloPost.put {w0 w' : World} {p c : Nat} {F : Nat → Prop} {R : SW (Nat × PutM)} {q : Nat} {m' : PutM} (h : SoloPost putFam w0 w' p c F R) (ha : R.acts = [⟨some (q, m'), false⟩]) :
    ∃ F', PutF w' F' q m' ∧ ¬ F' p ∧ ¬ F' c ∧ ∀ i, F' i → F i ∨ w0.heap.size ≤ i := by
  obtain ⟨s', d, F', q', e, hi, h1, h2, h3⟩ := h.ex
  rw [ha] at e
  injection e with e _
  injection e with e _
  injection e with e
  subst e
  obtain ⟨rfl, hi⟩ := hi
  exact ⟨F', hi, h1, h2, h3⟩
theorem rd_rep {w : World} {g n : Nat} (h : Blk w g ((List.replicate n (0 : Int)).map (Value.int .u8))) (hn : n ≤ maxLen) : RdB w (.slice (some ⟨g, 0, none⟩) n n) (List.replicate n 0) := by
  refine .inr <| .inr ⟨g, 0, n, by simp, by simp, hn, fun i hi => ?_⟩
  simp at hi
  have e := Blk.cell h (0 + i)
  rw [e]
  simp [gB, hi]
def f7c : PutC := ⟨0, 64, 1, List.replicate 8 0⟩
def f7R : PutM × List Int × Bool := putMac.runN 6 f7c.init (List.replicate 96 0)
theorem f7_facts : f7R.2.2 = true ∧ f7R.1.live = false ∧ f7R.1.e = 0 ∧ f7R.1.rv = 0 ∧ doV f7R.2.1 1 64 8 = 16 ∧ f7R.2.1.length = 96 ∧ f7c.init.e = 10 := by decide +kernel
set_option maxHeartbeats 2000000 in
theorem fixed07_any (w : World) : Calls Try.prog 25 #[] w fun e w' => e = .returned (.bool true) ∧ Below w.heap.size w w' := by
  obtain ⟨i0, hi, hz0, hz1, hz2⟩ := info_parts u8info
  have FX := Lib.hid f7_facts
  go_enter Try.func25, Try.ntmps25
  go_wp2_with fail
  refine (mNew_at 96 12 _ (by decide) (by decide) (by decide)).mono ?_
  rintro e w1 ⟨p, c, rfl, hb1, hp, hc, b1⟩
  have HB1 := Lib.hid hb1
  have B1 := Lib.hid b1
  have z1 := b1.size
  clear hb1 b1
  go_wp2_with (refine wpList_make_full _ rfl _ _ 26 rfl w1.heap.size 5 i0 (.int .u8 0) 1 Try.underlying26 hi hz0 hz1 _ _ _ _ 8 rfl rfl rfl rfl (by rw [hz2]; omega) (by unfold maxLen; omega) (Nat.le_refl _) ?_)
  intro w2 own2 hg2
  obtain ⟨hblk, _⟩ := own_blkK own2
  have b2 : Below w1.heap.size w1 w2 := (Below.refl _ _).grown hg2 (Nat.le_refl _) (fun k hk => by cases hk)
  rw [← rep_cells 8] at hblk
  have hr2 : RdB w2 (.slice (some ⟨w1.heap.size, 0, none⟩) 8 8) (List.replicate 8 0) := by
    exact rd_rep hblk (by unfold maxLen; omega)
  have z2 := b2.size
  have B2 := Lib.hid (B1.out.trans (b2.mono z1))
  have HB2 := Lib.hid (HB1.out.belows b2)
  have HR2 := Lib.hid hr2
  have lp := HB2.out.hd.lt
  have lc := Blk.lt HB2.out.wd
  clear own2 hg2 hblk hr2 b2 HB1 B1
  go_wp2_with fail
  refine (pNew_f 0 64 1 _ 8 8 (List.replicate 8 0) _ HR2.out (by simp) (by intro x hx; simp at hx; omega) (by decide) (by decide) (by decide) (by decide)).mono ?_
  rintro e w3 ⟨q, rfl, hq, hF, b3⟩
  have z3 := b3.size
  have B3 := Lib.hid (B2.out.trans (b3.mono (by omega)))
  have HB3 := Lib.hid (HB2.out.belows b3)
  have HF3 := Lib.hid (show PutF w3 (fun k => w2.heap.size ≤ k ∧ k < w3.heap.size) q f7c.init from hF)
  clear hF b3 HB2 B2 HR2
  go_wp2_with fail
  obtain ⟨_, _, O3, bv3, _, hI3⟩ := HF3.out
  refine (pResult_any w3 hI3.at_).mono ?_
  rintro e w4 ⟨rfl, b4⟩
  have e10 : f7c.init.e = 10 := FX.out.2.2.2.2.2.2
  rw [e10]
  have z4 := b4.size
  have B4 := Lib.hid (B3.out.trans (b4.mono (by omega)))
  have HB4 := Lib.hid (HB3.out.belows b4)
  have HF4 := Lib.hid (HF3.out.below b4)
  clear hI3 b4 HB3 HF3 B3 e10
  go_wp2_with fail
  obtain ⟨w5, hw5⟩ : ∃ w5, w5 = w4.alloc (Obj.cells #[.iface 68 (.pointer (some ⟨q, 0, none⟩))] 116) := ⟨_, rfl⟩
  have b5 : Below w4.heap.size w4 w5 := by rw [hw5]; exact (Below.refl _ _).alloc (Nat.le_refl _) _
  have hg5 : Blk w5 w4.heap.size [.iface 68 (.pointer (some ⟨q, 0, none⟩))] := by rw [hw5]; exact Blk.made w4 _ _
  have z5 : w4.heap.size < w5.heap.size := by rw [hw5]; simp
  have HB5 := Lib.hid (HB4.out.belows b5)
  have HF5 := Lib.hid (HF4.out.below b5)
  have B5 := Lib.hid (B4.out.trans (b5.mono (by omega)))
  have HG5 := Lib.hid hg5
  rw [← hw5]
  clear hw5 b5 hg5 HB4 HF4 B4
  refine (soloNew putFam (F := fun k => w2.heap.size ≤ k ∧ k < w3.heap.size) (s := (q, f7c.init)) HB5.out ⟨rfl, HF5.out⟩ (by omega) (by omega) HG5.out).mono ?_
  rintro e w6 ⟨W, κ, av, ab, rfl, hW, hκ, hWs, b6⟩
  have HW := Lib.hid hW
  have HK := Lib.hid hκ
  have B6 := Lib.hid b6
  have z6 := b6.size
  clear hW hκ b6
  go_wp2_with fail
  refine (soloRobin putFam (w0 := w5) HW.out HK.out B6.out (by omega) (by omega) 99 (by decide) (by decide) (by decide)).mono ?_
  rintro e w7 ⟨rfl, hS⟩
  have hR := robin_runs (M := putMacQ) 99 (Runs.q q (runN_runs (M := putMac) 6 f7c.init (List.replicate 96 0) FX.out.1)) FX.out.2.1 (by decide) 0
  have e6 : (putFam.M.robin 99 ⟨List.replicate (8 * 12) 0, 0, [⟨some (q, f7c.init), false⟩], 0, []⟩).2 = 6 := hR.1
  have HS := Lib.hid hS
  have HR := Lib.hid hR
  rw [e6]
  obtain ⟨F', hF', hp', hc', hs'⟩ := hS.put hR.2.1
  have HF7 := Lib.hid hF'
  have hbuf := hS.buf
  have hb7 : Buf w7 p c 6 f7R.2.1 := by
    have e1 : (putFam.M.robin 99 ⟨List.replicate (8 * 12) 0, 0, [⟨some (q, f7c.init), false⟩], 0, []⟩).1.bs = f7R.2.1 := hR.2.2.1
    have e2 : (putFam.M.robin 99 ⟨List.replicate (8 * 12) 0, 0, [⟨some (q, f7c.init), false⟩], 0, []⟩).1.cnt = 6 := hR.2.2.2
    rw [e1, e2] at hbuf
    exact hbuf
  have B7 := Lib.hid (B5.out.trans (hS.keep.below (by omega) (fun k h1 h2 => by omega)))
  have HB7 := Lib.hid hb7
  have z7 := hS.keep.size
  clear hS hR hF' hbuf hb7 e6 HS HR HW HK B6 B5 HF5 HB5 HG5 hp' hc' hs'
  go_wp2_with fail
  obtain ⟨_, _, O7, bv7, _, hI7⟩ := HF7.out
  refine (pResult_any w7 hI7.at_).mono ?_
  rintro e w8 ⟨rfl, b8⟩
  rw [show (Mac.runN putMac 6 f7c.init (List.replicate 96 0)).1.rv = 0 from FX.out.2.2.2.1, show (Mac.runN putMac 6 f7c.init (List.replicate 96 0)).1.e = 0 from FX.out.2.2.1]
  have z8 := b8.size
  have B8 := Lib.hid (B7.out.trans (b8.mono (by omega)))
  have HB8 := Lib.hid (HB7.out.belows b8)
  clear hI7 b8 HB7 HF7 B7
  go_wp2_with fail
  refine (mDo_ok p c 6 f7R.2.1 1 64 8 0 0 none 0 0 [] _ HB8.out (by decide) (by decide) (by decide) (by decide) (by decide) (by decide) (.inl ⟨rfl, rfl⟩) IsB.nil (by rw [FX.out.2.2.2.2.2.1]; decide)).mono ?_
  rintro e w9 ⟨s9, rfl, o9, hb9, k9⟩
  have e16 : doV f7R.2.1 1 64 8 = 16 := FX.out.2.2.2.2.1
  rw [e16]
  obtain ⟨a9, n9, c9, rfl⟩ := o9.isSliceC
  have z9 := k9.size
  have B9 := Lib.hid (B8.out.trans (k9.below (by omega) (fun k h1 h2 => by omega)))
  unfold anV
  clear o9 hb9 k9 HB8 B8 e16
  go_wp2_with (go_at_call 29; refine (rCheck_any 0 0 _ (by decide) (by decide) (by decide) (by decide)).mono ?_; rintro e w10 ⟨rfl, b10⟩; rw [show rgE 0 0 = 1 by decide])
  go_ret
  exact ⟨rfl, (B9.out.alloc (by omega) _).trans (b10.mono (by simp; omega))⟩
set_option maxHeartbeats 2000000 in
theorem nil07_said (v : Int) (d : Bool) (s0 : Option Addr) (sl sc : Nat) (w : World) :
    Calls Try.prog 5 #[.agg #[.int .u64 v, .bool d, .slice s0 sl sc]] w fun e w' => e = .returned (.bool true) ∧ Below w.heap.size w w' := by
  go_enter Try.func5, Try.ntmps5
  go_wp2_with fail
  have bA : Below w.heap.size w (w.alloc (Obj.cells #[Value.int IntKind.u64 v, Value.bool d, Value.slice s0 sl sc] 49)) := by go_grown
  have A1 := Lib.hid (Blk.made w #[Value.int IntKind.u64 v, Value.bool d, Value.slice s0 sl sc] 49)
  obtain ⟨w0, hw0⟩ : ∃ w0, w0 = w.alloc (Obj.cells #[Value.int IntKind.u64 v, Value.bool d, Value.slice s0 sl sc] 49) := ⟨_, rfl⟩
  rw [← hw0] at bA A1 ⊢
  have z0 := bA.size
  have y0 := A1.out.lt
  have B0 := Lib.hid bA
  clear hw0 bA
  refine (fixed07_any w0).mono ?_
  rintro e w1 ⟨rfl, b1⟩
  have z1 := b1.size
  have A2 := Lib.hid (A1.out.below b1 y0)
  have a0 := A2.out.cell 0
  have a1 := A2.out.cell 1
  have a2 := A2.out.cell 2
  simp only [List.getElem?_toArray, List.getElem?_cons_zero, List.getElem?_cons_succ] at a0 a1 a2
  have B1 := Lib.hid (B0.out.trans (b1.mono z0))
  have y1 : w.heap.size < w1.heap.size := by omega
  clear b1 A1 B0
  by_cases hl : (100 : Int) < (sl : Int)
  · go_wp2
    go_ret
    exact ⟨rfl, B1.out⟩
  go_wp2_with fail
  refine (pTake_nil v d s0 sl sc _).mono ?_
  rintro e w2 ⟨rfl, b2⟩
  have z2 := b2.size
  have B2 := Lib.hid (B1.out.trans (b2.mono (by omega)))
  clear b2 B1 a0 a1 a2 A2
  go_wp2_with fail
  refine (pNext_nil _).mono ?_
  rintro e w3 ⟨rfl, b3⟩
  unfold AA.V
  dsimp only
  have z3 := b3.size
  have B3 := Lib.hid (B2.out.trans (b3.mono (by omega)))
  clear b3 B2
  go_wp2_with fail
  refine (pAt_nil _).mono ?_
  rintro e w4 ⟨rfl, rfl⟩
  go_wp2_with fail
  refine (pResult_nil _).mono ?_
  rintro e w5 ⟨rfl, rfl⟩
  go_wp2
  go_ret
  exact ⟨rfl, B3.out.alloc (by omega) _⟩
theorem ringputNil_said (v : Int) (d : Bool) (s0 : Option Addr) (sl sc : Nat) (l : List Int) (wx : (Lit.int .u64 v).wf = true) (w : World) (rd : RdB w (.slice s0 sl sc) l) (b : IsB l) :
    Calls Try.prog 5 #[.agg #[.int .u64 v, .bool d, .slice s0 sl sc]] w fun e w' => e = .returned (.bool true) ∧ Below w.heap.size w w' := nil07_said v d s0 sl sc w
end Go.Proofs.Ytpicplkbblmbeaa
