/- RingChains, as the frame asks for it. Conditions: none. For every input RingChains returns true, and every argument reads behind the call as it read before. Conditions: none. -/
import Derived.Test.YtknahaaefmlcpaaGreatEl
import Derived.Test.YtknahaaefmlcpaaGreatRows
import Derived.Test.YtknahaaefmlcpaaGreatOm
import Derived.Test.YtknahaaefmlcpaaGreatOy
import Derived.Test.YtknahaaefmlcpaaGreatOp
import Derived.ProofKit
import Derived.OpenShut
section
namespace Go.Proofs.YtknahaaefmlcpaaGreat
set_option maxRecDepth 100000
open Go.RowKit
set_option linter.unusedVariables false
theorem i64_bdE {a : Int} (h : (Lit.int .i64 a).wf = true) : -9223372036854775808 ≤ a ∧ a ≤ 9223372036854775807 := by
 simpa [Lit.wf, IntKind.min, IntKind.max, IntKind.signed, IntKind.bits] using h
theorem u64_bdE {a : Int} (h : (Lit.int .u64 a).wf = true) : inU a := by
 unfold inU
 simpa [Lit.wf, IntKind.min, IntKind.max, IntKind.signed, IntKind.bits] using h
theorem chains_said (b s : Int) (wb : (Lit.int .i64 b).wf = true) (ws : (Lit.int .i64 s).wf = true) (v : Value) (l : List (Int × List Int)) (tr : Int) (wtr : (Lit.int .i64 tr).wf = true) (tm : Int) (wtm : (Lit.int .i64 tm).wf = true) (mo : Int) (wmo : (Lit.int .i64 mo).wf = true) (t0 : Option Addr) (tn tc : Nat) (T : List AnsV) (w : World)
  (hr : RdMs w (fun i => i < w.heap.size) v l) (hl : ∀ x ∈ l, (-2147483648 ≤ x.1 ∧ x.1 ≤ 2147483647) ∧ IsB x.2) (hT : RdA w (.slice t0 tn tc) T) (hA : AnsIs w T) :
  Calls Tryz.prog 8 #[.agg #[.int .i64 b, .int .i64 s], v, .int .i64 tr, .int .i64 tm, .int .i64 mo, .slice t0 tn tc] w fun e w' => e = .returned (.bool true) ∧ Below w.heap.size w w' := by
 have bb := i64_bdE wb
 have bs := i64_bdE ws
 have e : tn = T.length := by
  obtain ⟨a, c, e⟩ := rdA_slice hT
  cases e
  rfl
 subst e
 exact chains_any b s tr tm mo hr (fun x hx => ⟨(hl x hx).1.2, (hl x hx).2⟩) hT (fun i hi => (hA i hi).1) (fun i hi => (hA i hi).2.1) (fun i hi => u64_bdE (hA i hi).2.2.2) bb.1 bb.2 bs.1 bs.2 (i64_bdE wtr).2 (i64_bdE wmo).2
end Go.Proofs.YtknahaaefmlcpaaGreat
end
section
namespace Go.Proofs.YtknahaaefmlcpaaGreat.ringChains
open Go.ChangeShapes Go.WideShapes Go.ChangeAt Go.RowKit
set_option linter.unusedVariables false
set_option maxRecDepth 100000
theorem own : ownKnob Tryz.prog.godebug = none := by kernel_rfl
theorem laidOut : laidOutB Tryz.prog = true := by kernel_rfl
theorem contract (H : Type) (enc : TypeId × Value → H) (W : World) (base : Nat) (args : Array Value) (ds gs : List (DataW H)) (before : List MemPlace)
  (hval : ∀ (j : Nat) t v, Tryz.f8.params[j]? = some t → args[j]? = some v → Value.okWide Tryz.prog W .any base t v)
  (hW : DataW.Whole enc Tryz.prog Tryz.f8.params.toList Rows.ringChainsSpec.vars false W args.toList ds gs before) :
  Calls Tryz.prog 8 args W fun e W' => ∃ v, e = .returned v ∧ Rows.ringChainsSpec.post enc Tryz.prog Tryz.f8 false true false false W args v W' := by
 have hW' := hW
 obtain ⟨p, q, hA0, hV, rfl, hfz, hnd⟩ := hW
 have hA : DataW.TrodAll enc Tryz.prog W 0 (fun _ => true) true Tryz.f8.params.toList args.toList ds p := hA0
 rw [Tryz.params8] at hA hval
 obtain ⟨v0, vs0, d0, ds0, p0, q0, hargs, rfl, rfl, h0, r0'⟩ := trodAll_cons hA
 obtain ⟨v1, vs1, d1, ds1, p1, q1, rfl, rfl, rfl, h1, r1'⟩ := trodAll_cons r0'
 obtain ⟨v2, vs2, d2, ds2, p2, q2, rfl, rfl, rfl, h2, r2'⟩ := trodAll_cons r1'
 obtain ⟨v3, vs3, d3, ds3, p3, q3, rfl, rfl, rfl, h3, r3'⟩ := trodAll_cons r2'
 obtain ⟨v4, vs4, d4, ds4, p4, q4, rfl, rfl, rfl, h4, r4'⟩ := trodAll_cons r3'
 obtain ⟨v5, vs5, d5, ds5, p5, q5, rfl, rfl, rfl, h5, r5'⟩ := trodAll_cons r4'
 obtain ⟨rfl, rfl, rfl⟩ := trodAll_nil r5'
 obtain rfl : args = #[v0, v1, v2, v3, v4, v5] := by cases args; simp_all
 obtain ⟨rfl, rfl⟩ := trodVars_none hV
 have k0 := h0
 have lt0 : ∀ x ∈ p0, x.block < W.heap.size := by obtain ⟨m, hm⟩ := k0; exact DataW.trod_lt m _ _ _ hm
 have k1 := h1
 have lt1 : ∀ x ∈ p1, x.block < W.heap.size := by obtain ⟨m, hm⟩ := k1; exact DataW.trod_lt m _ _ _ hm
 have k2 := h2
 have lt2 : ∀ x ∈ p2, x.block < W.heap.size := by obtain ⟨m, hm⟩ := k2; exact DataW.trod_lt m _ _ _ hm
 have k3 := h3
 have lt3 : ∀ x ∈ p3, x.block < W.heap.size := by obtain ⟨m, hm⟩ := k3; exact DataW.trod_lt m _ _ _ hm
 have k4 := h4
 have lt4 : ∀ x ∈ p4, x.block < W.heap.size := by obtain ⟨m, hm⟩ := k4; exact DataW.trod_lt m _ _ _ hm
 have k5 := h5
 have lt5 : ∀ x ∈ p5, x.block < W.heap.size := by obtain ⟨m, hm⟩ := k5; exact DataW.trod_lt m _ _ _ hm
 obtain ⟨rb0, rs0, rfl, wb0, ws0⟩ := open_ring (hval 0 26 v0 rfl rfl) h0
 obtain ⟨M1, rd1, po1⟩ := open_msgs (hval 1 66 v1 rfl rfl) h1
 obtain ⟨a2, rfl, rfl, rfl, w2⟩ := open_int Tryz.underlying3 (hval 2 3 v2 rfl rfl) h2
 obtain ⟨a3, rfl, rfl, rfl, w3⟩ := open_int Tryz.underlying3 (hval 3 3 v3 rfl rfl) h3
 obtain ⟨a4, rfl, rfl, rfl, w4⟩ := open_int Tryz.underlying3 (hval 4 3 v4 rfl rfl) h4
 obtain ⟨t5, tn5, tc5, T5, rfl, rd5, as5⟩ := open_answers (hval 5 40 v5 rfl rfl) h5
 clear hA0
 refine (chains_said rb0 rs0 wb0 ws0 v1 M1 a2 w2 a3 w3 a4 w4 t5 tn5 tc5 T5 W rd1 po1 rd5 as5).mono fun e W' ⟨he, bel⟩ => ?_
 subst he
 exact ⟨_, rfl, _, _, _, [], _, [], hW', trodAll_mk1 (shut_bool Tryz.underlying4 _), (trodAll_cons_mk (Below.trod laidOut (by kernel_rfl) (of_decide_eq_true (by kernel_rfl)) k0 bel lt0) (trodAll_cons_mk (Below.trod laidOut (by kernel_rfl) (of_decide_eq_true (by kernel_rfl)) k1 bel lt1) (trodAll_cons_mk (Below.trod laidOut (by kernel_rfl) (of_decide_eq_true (by kernel_rfl)) k2 bel lt2) (trodAll_cons_mk (Below.trod laidOut (by kernel_rfl) (of_decide_eq_true (by kernel_rfl)) k3 bel lt3) (trodAll_cons_mk (Below.trod laidOut (by kernel_rfl) (of_decide_eq_true (by kernel_rfl)) k4 bel lt4) (trodAll_cons_mk (Below.trod laidOut (by kernel_rfl) (of_decide_eq_true (by kernel_rfl)) k5 bel lt5) trodAll_mk0)))))), rfl, bel.frame _, fun h => by cases h⟩
theorem lifted (os : Os) (started : os.Started) (H : Type) (enc : TypeId × Value → H) :
  ReturnsInHanded {} Tryz.checked os 8 .any (Rows.ringChainsSpec.pre6 enc Tryz.prog Tryz.f8 Rows.ringChainsRow.domain false) (Rows.ringChainsSpec.post enc Tryz.prog Tryz.f8 false true false false) := by
 refine returnsInHanded_of_change (C := Tryz.checked) own started (by kernel_rfl) Tryz.func8
  (ChangeSpec.witness6 (enc := enc) (C := Tryz.checked) false ⟨#[], #[.agg #[.int .i64 0, .int .i64 0], .slice none 0 0, .int .i64 0, .int .i64 0, .int .i64 0, .slice none 0 0], []⟩ 8 (by kernel_rfl) (by kernel_rfl) (by kernel_rfl) (by kernel_rfl)) ?_
 intro W base args ds gs before hval hW _ _
 exact contract H enc W base args ds gs before hval hW
theorem proved : Rows.RingChainsSaid :=
 OpenClaim.holds_of_wide 8 Tryz.f8 rfl rfl rfl rfl rfl rfl rfl ⟨rfl, rfl, rfl, rfl, rfl⟩ rfl rfl rfl rfl rfl (by kernel_rfl) Tryz.func8 (by kernel_rfl)
  (of_decide_eq_true (by kernel_rfl)) (by unfold Func.isWrapper; first | (rw [if_pos (by decide +kernel)]; kernel_rfl) | (rw [if_neg (by decide +kernel)]; exact ⟨rfl, rfl⟩))
  (fun os started H enc _ => lifted os started H enc)
#print axioms proved
end Go.Proofs.YtknahaaefmlcpaaGreat.ringChains
end
