/- All that comes out of a ring on which nobody puts any more. Conditions: none. -/
import Derived.Test.YtknahaaefmlcpaaGreatVq
import Derived.Test.YtknahaaefmlcpaaGreatDm
import Derived.Test.YtknahaaefmlcpaaGreatFk
namespace Go.Proofs.YtknahaaefmlcpaaGreat
set_option maxRecDepth 100000
open Go.RowKit
set_option linter.unusedVariables false
set_option linter.unusedSimpArgs false
/-- A machine alone in a new world runs to its end. -/
theorem soloRun (C : Fam) {w : World} {p c : Nat} {cnt : Int} {bs bs' : List Int} {F : Nat → Prop} {q g n : Nat} {s s' : C.M.σ} (hB : Buf w p c cnt bs) (hi : C.inv w F q s) (hp : ¬ F p) (hc : ¬ F c) (hg : Blk w g [.iface (C.ty s) (.pointer (some ⟨q, 0, none⟩))]) (most : Int) (hr : Runs C.M s bs n s' bs') (hend : C.M.live s' = false) (hn : (n : Int) ≤ most) (hm : most ≤ 900000) (hc0 : 0 ≤ cnt) (hc1 : cnt ≤ 1000000000000) :
    Calls Tryz.prog 20 #[.pointer (some ⟨p, 0, none⟩), .slice (some ⟨g, 0, none⟩) 1 1] w fun e w1 => ∃ W, e = .returned (.pointer (some ⟨W, 0, none⟩)) ∧ Calls Tryz.prog 22 #[.pointer (some ⟨W, 0, none⟩), .int .i64 most] w1 fun e w2 => (∃ k, e = .returned (.int .i64 k)) ∧ Buf w2 p c (cnt + n) bs' ∧ (∃ F' q', C.inv w2 F' q' s' ∧ ¬ F' p ∧ ¬ F' c ∧ ∀ i, F' i → F i ∨ w.heap.size ≤ i) ∧ Keep (fun i => F i ∨ i = p ∨ i = c) w w2 := by
  refine (soloNew C hB hi hp hc hg).mono ?_
  rintro e w1 ⟨W, κ, av, ab, rfl, hW, hκ, hWs, b1⟩
  refine ⟨W, rfl, (soloRobin C (w0 := w) hW hκ b1 hB.hd.lt (Blk.lt hB.wd) most hm hc0 hc1).mono ?_⟩
  rintro e w2 ⟨rfl, hS⟩
  have hR := robin_runs (M := C.M) most hr hend hn cnt
  refine ⟨⟨_, rfl⟩, ?_, hS.of hR.2.1, hS.keep⟩
  have h1 := hS.buf
  rw [hR.2.2.1, hR.2.2.2] at h1
  exact h1
theorem Fixing.imp {b s : Nat} {A0 : List (Slot × Nat)} {st st' : Prop} {bs : List Int} {out : List (Int × List Int)} {r : Nat} (h : Fixing b s A0 st bs out r) (hi : st' → st) : Fixing b s A0 st' bs out r := by
  obtain ⟨A, k, H, h1, h2, h3, h4, h5, h6, h7, h8⟩ := h.ex
  exact ⟨A, k, H, h1, h2, h3, h4, h5, h6, h7, fun hh => h8 (hi hh)⟩
theorem Fixing.few {b s : Nat} {A0 : List (Slot × Nat)} {st : Prop} {bs : List Int} {out : List (Int × List Int)} {r : Nat} (h : Fixing b s A0 st bs out r) : out.length ≤ (msgs A0).length := by
  obtain ⟨A, k, H, h1, h2, h3, h4, h5, h6, h7, h8⟩ := h.ex
  rw [h6, ← h3]
  conv => rhs; rw [← List.take_append_drop k A, msgs_app, List.length_append]
  omega
theorem msIn_none (w : World) (O R : Nat → Prop) : MsIn w O R (.slice none 0 0) [] := ⟨⟨[], rfl, World.ownsRow_nil _ _ _ _, fun e he => (List.not_mem_nil he).elim⟩, fun i hi => by cases hi⟩
/-- What a row of gets leaves, so far. -/
structure GotAt (w wr : World) (p c : Nat) (cnt0 cnt : Int) (b s : Nat) (A0 : List (Slot × Nat)) (out0 : List (Int × List Int)) (r n : Nat) (bs : List Int) (ov : Value) (outs : List (Int × List Int)) (O R : Nat → Prop) : Prop where
  buf : Buf wr p c cnt bs
  c0 : cnt0 ≤ cnt
  c1 : cnt ≤ cnt0 + n * 20000
  fx : Fixing b s A0 (0 < n) bs (out0 ++ outs) r
  ms : MsIn wr O R ov outs
  or : ∀ i, O i ∨ R i → w.heap.size < i ∧ i < wr.heap.size
  dj : ∀ i, O i → ¬ R i
  kp : Keep (fun i => i = p ∨ i = c) w wr
  bx : Blk wr w.heap.size [.int .i64 b, .int .i64 s]
set_option maxHeartbeats 4000000 in
theorem get09_any {w : World} {p c : Nat} {cnt : Int} {bs : List Int} {b s : Nat} {A0 : List (Slot × Nat)} {st : Prop} {out0 : List (Int × List Int)} {r : Nat} (hB : Buf w p c cnt bs) (hx : Fixing b s A0 st bs out0 r) (hs : ln A0 ≤ s) (hs2 : s ≤ 8192) (hb2 : b ≤ 100000) (hok : rgOk b s = true) (hm : (msgs A0).length < 99) (hc0 : 0 ≤ cnt) (hc1 : cnt ≤ 900000000000) :
    Calls Tryz.prog 24 #[.pointer (some ⟨p, 0, none⟩), .agg #[.int .i64 b, .int .i64 s]] w fun e w' => ∃ gv bs' cnt' outs O R, e = .returned (.tuple #[gv, .bool true]) ∧ Buf w' p c cnt' bs' ∧ cnt ≤ cnt' ∧ cnt' ≤ cnt + 12 * 20000 ∧ Fixing b s A0 True bs' (out0 ++ outs) r ∧ MsIn w' O R gv outs ∧ (∀ i, O i ∨ R i → w.heap.size ≤ i ∧ i < w'.heap.size) ∧ (∀ i, O i → ¬ R i) ∧ Keep (fun i => i = p ∨ i = c) w w' := by
  have HB := Lib.hid hB
  have HX := Lib.hid hx
  have HOK := Lib.hid hok
  have lp := hB.hd.lt
  have lc := Blk.lt hB.wd
  clear hB hx hok
  go_enter Tryz.func24, Tryz.ntmps24
  go_upto_region 2 with fail
  obtain ⟨w1, hw1⟩ : ∃ w1, w1 = w.alloc (.cells #[.int .i64 b, .int .i64 s] 26) := ⟨_, rfl⟩
  have b1 : Below w.heap.size w w1 := by rw [hw1]; go_grown
  have z1 : w1.heap.size = w.heap.size + 1 := by rw [hw1]; simp
  have HG : Hid (GotAt w w1 p c cnt cnt b s A0 out0 r 0 bs (.slice none 0 0) [] (fun _ => False) (fun _ => False)) := Lib.hid ⟨HB.out.belows b1, Int.le_refl _, by omega, by rw [List.append_nil]; exact HX.out.imp (fun h => absurd h (Nat.lt_irrefl 0)), msIn_none _ _ _, fun i h => by rcases h with h | h <;> exact h.elim, fun i h => h.elim, Below.keeps b1, by rw [hw1]; exact Blk.made w _ _⟩
  rw [← hw1]
  clear hw1 b1
  go_wp2_with fail
  go_loopg [6, 10] 13 (fun gk gv iv wr => ∃ (n : Nat) (cnt' : Int) (bs' : List Int) (outs : List (Int × List Int)) (O R : Nat → Prop), gk + n = 13 ∧ n ≤ 12 ∧ iv = .int .i64 n ∧ GotAt w wr p c cnt cnt' b s A0 out0 r n bs' gv outs O R)
  case atStart => exact ⟨0, _, _, _, _, _, by omega, by omega, rfl, HG.out⟩
  case round =>
    clear HG
    obtain ⟨n, cnt', bs', outs, O, R, hgk, hn, rfl, hG⟩ := hrel
    have HGK := Lib.hid hgk
    have HG := Lib.hid hG
    have hz := hG.kp.size
    obtain ⟨ga, gc, rfl⟩ := hG.ms.sl
    clear hgk hG
    have W1 : IntKind.i64.wrap ((n : Int) + 1) = (n : Int) + 1 := IntWalk.i64_in _ ⟨by omega, by omega⟩
    by_cases hni : n < 12
    · have hni' : (n : Int) < 12 := by omega
      have r0 := HG.out.bx.cell 0
      have r1 := HG.out.bx.cell 1
      have lr := HG.out.bx.lt
      simp only [List.getElem?_cons_zero, List.getElem?_cons_succ] at r0 r1
      go_wp2_with fail
      refine (gNew_f b s 99 wr (by omega) (by omega) (by omega) (by omega)).mono ?_
      rintro e w2 ⟨q, rfl, hq, hF, b2⟩
      have HF := Lib.hid hF
      have B2 := Lib.hid b2
      have z2 := b2.size
      clear hF b2 r0 r1
      go_wp2_with fail
      obtain ⟨w3, hw3⟩ : ∃ w3, w3 = w2.alloc (Obj.cells #[.iface 162 (.pointer (some ⟨q, 0, none⟩))] 154) := ⟨_, rfl⟩
      have b3 : Below w2.heap.size w2 w3 := by rw [hw3]; exact (Below.refl _ _).alloc (Nat.le_refl _) _
      have G3 := Lib.hid (show Blk w3 w2.heap.size [.iface 162 (.pointer (some ⟨q, 0, none⟩))] by rw [hw3]; exact Blk.made w2 _ _)
      have z3 : w3.heap.size = w2.heap.size + 1 := by rw [hw3]; simp
      have B3 := Lib.hid (B2.out.trans (b3.mono z2))
      have HI3 := Lib.hid (show getFam.inv w3 (fun k => wr.heap.size ≤ k ∧ k < w2.heap.size) q (q, GetC.init ⟨b, s, 99⟩) from ⟨rfl, HF.out.below b3⟩)
      rw [← hw3]
      clear hw3 b3 HF
      have hgo : (⟨b, s, 99⟩ : GetC).ok = true := by
        unfold GetC.ok
        dsimp only
        rw [HOK.out]
        rfl
      obtain ⟨m, bs2, g', hrun, hfin, he0, hmm, hfx⟩ := HG.out.fx.get hs ⟨b, s, 99⟩ rfl rfl hgo (by show ((msgs A0).length : Int) < 99; omega)
      have HFX := Lib.hid hfx
      have c0 := HG.out.c0
      have c1 := HG.out.c1
      refine (soloRun getFam (s := (q, GetC.init ⟨b, s, 99⟩)) (s' := (q, g')) (HG.out.buf.belows B3.out) HI3.out (by omega) (by omega) G3.out 100000 (Runs.gq q (show Runs getMac _ _ _ _ _ from hrun)) hfin (by omega) (by decide) (by omega) (by omega)).mono ?_
      rintro e w4 ⟨W, rfl, hR⟩
      go_wp2_with fail
      refine hR.mono ?_
      rintro e w5 ⟨⟨k, rfl⟩, hb5, ⟨F', q', hI5, np5, nc5, hF5⟩, k5⟩
      obtain ⟨rfl, gq1, gq2, gfine, gO3, gR3, gov3, gsub3, gI3⟩ := hI5
      have HB5 := Lib.hid hb5
      have GI5 := Lib.hid gI3
      have GF := Lib.hid gfine
      have HF5 := Lib.hid hF5
      have GS5 := Lib.hid gsub3
      have K5 := Lib.hid ((Below.keeps (M := fun i => (wr.heap.size ≤ i ∧ i < w2.heap.size) ∨ i = p ∨ i = c) B3.out).trans k5)
      have z5 := k5.size
      clear hR hb5 gI3 gfine hF5 gsub3 k5 hfx hrun
      go_wp2_with fail
      refine (gResult_any w5 GI5.out.at_).mono ?_
      rintro e w6 ⟨rfl, b6⟩
      rw [show g'.res.2 = 0 by unfold GetM.res; rw [if_neg (by simpa using he0)]]
      have B6 := Lib.hid b6
      have z6 := b6.size
      clear b6
      go_wp2_with fail
      refine (gMessages_at w6 (GI5.out.below B6.out) (by have := GF.out.lo; omega) (fun x hx => by have := GF.out.ds x hx; omega)).mono ?_
      rintro e w7 ⟨mv, rfl, hms, b7⟩
      obtain ⟨mva, mvc, rfl⟩ := hms.sl
      have HM := Lib.hid hms
      have B7 := Lib.hid b7
      have z7 := b7.size
      have B57 := Lib.hid (B6.out.trans (b7.mono z6))
      have hor := HG.out.or
      have HM0 := Lib.hid ((HG.out.ms.keep K5.out (fun i hi hh => by have := hor i (.inl hi); omega) (fun i hi hh => by have := hor i (.inr hi); omega)).keep (M := fun _ => False) (Below.keeps B57.out) (fun _ _ => id) (fun _ _ => id))
      have HN := Lib.hid (show outs.length + g'.out.length ≤ 100000 by
        have h1 := HFX.out.few
        rw [List.length_append, List.length_append] at h1
        omega)
      have HD := Lib.hid (show ∀ i, O i ∨ (w6.heap.size ≤ i ∧ i < w7.heap.size) → ¬ R i from fun i hi hr => by
        rcases hi with hi | hi
        · exact HG.out.dj i hi hr
        · have := (hor i (.inr hr)).2
          omega)
      clear hms b7
      go_wp2_with (refine list_appMs2 rfl (.tmp 27) (.tmp 29) rfl rfl rfl HM0.out HM.out HN.out HD.out ?_)
      intro v8 w8 hm8 k8
      obtain ⟨va, vc, rfl⟩ := hm8.sl
      have HM8 := Lib.hid hm8
      have K8 := Lib.hid k8
      have z8 := k8.size
      clear hm8 k8
      go_wp2_with fail
      go_roundg (12 - n)
      case measure => have := HGK.out; omega
      case rel =>
        have KW : Hid (Keep (fun i => i = p ∨ i = c) w w8) := Lib.hid ((HG.out.kp.then K5.out (fun i hi hh => hh.elim (fun h9 => by omega) id)).then ((Below.keeps (M := fun i => R i) B57.out).trans K8.out) (fun i hi hh => by have := hor i (.inr hh); omega))
        refine ⟨n + 1, cnt' + m, bs2, outs ++ g'.out, _, _, by omega, by omega, by go_num, ⟨?_, by omega, by omega, ?_, HM8.out, ?_, ?_, KW.out, ?_⟩⟩
        · exact (HB5.out.belows B57.out).keep K8.out (fun h => by have := hor _ (.inr h); omega) (fun h => by have := hor _ (.inr h); omega)
        · rw [← List.append_assoc]
          exact HFX.out.imp (fun _ => trivial)
        · rintro i ((hi | hi) | (hi | hi))
          · have := hor i (.inl hi)
            exact ⟨this.1, by omega⟩
          · exact ⟨by omega, by omega⟩
          · have := hor i (.inr hi)
            exact ⟨this.1, by omega⟩
          · exact ⟨by omega, by omega⟩
        · rintro i (hi | hi) (hr | hr)
          · exact HG.out.dj i hi hr
          · have := hor i (.inl hi)
            omega
          · have := hor i (.inr hr)
            omega
          · omega
        · exact ((HG.out.bx.keep K5.out (by omega)).below B57.out (by omega)).keep K8.out (fun h => by have := hor _ (.inr h); omega)
    · obtain rfl : n = 12 := by omega
      have hni' : ¬ (12 : Int) < 12 := by decide
      go_wp2
      go_ret2
      have c0 := HG.out.c0
      have c1 := HG.out.c1
      exact ⟨_, rfl, bs', cnt', HG.out.buf, c0, by omega, outs, HG.out.fx.imp (fun _ => by decide), O, R, HG.out.ms, fun i hi => ⟨Nat.le_of_lt (HG.out.or i hi).1, (HG.out.or i hi).2⟩, HG.out.dj, HG.out.kp⟩
end Go.Proofs.YtknahaaefmlcpaaGreat
