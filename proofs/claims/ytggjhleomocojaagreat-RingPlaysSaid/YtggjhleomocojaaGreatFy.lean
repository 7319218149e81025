/- ring.Used of a ring whose numbers are in order. Conditions: as each says. The fixed facts of layer 10's law. Conditions: none. The law RingNil. Conditions: none. -/
import Derived.Test.YtggjhleomocojaaGreatPq
import Derived.Test.YtggjhleomocojaaGreatKe
import Derived.Test.YtggjhleomocojaaGreatBd
import Derived.Deep.LoopGhost
import Derived.Test.YtggjhleomocojaaGreatDq
import Derived.Test.YtggjhleomocojaaGreatDy
import Derived.Test.YtggjhleomocojaaGreatQg
import Derived.Lib.SlBytesConst
section
namespace Go.Proofs.YtggjhleomocojaaGreat
set_option maxRecDepth 100000
open Go.RowKit
set_option linter.unusedVariables false
set_option linter.unusedSimpArgs false
variable {w : World} {g off n cap : Nat} {l : List Int}
theorem rd_part (hm : cap ≤ maxLen) (hn : l.length = n) (hc : n ≤ cap) (h : ∀ i, i < n → w.cell? ⟨g, off + i, none⟩ = some (.int .u8 (gB l i))) (a : Nat) (ha : a + 8 ≤ n) : RdB w (.slice (some ⟨g, off + a, none⟩) 8 (cap - a)) ((l.drop a).take 8) := by
 refine .inr <| .inr ⟨g, off + a, cap - a, by rw [List.length_take, List.length_drop]; congr 1; omega, by rw [List.length_take, List.length_drop]; omega, by omega, fun i hi => ?_⟩
 rw [List.length_take, List.length_drop] at hi
 have e : gB ((l.drop a).take 8) i = gB l (a + i) := by
  unfold gB
  simp only [List.getD_eq_getElem?_getD]
  rw [List.getElem?_take, if_pos (by omega), List.getElem?_drop]
 rw [e, Nat.add_assoc]
 exact h (a + i) (by omega)
set_option maxHeartbeats 1000000 in
theorem rnum_any (hm : cap ≤ maxLen) (hn : l.length = n) (hc : n ≤ cap) (h : ∀ i, i < n → w.cell? ⟨g, off + i, none⟩ = some (.int .u8 (gB l i))) (hb : IsB l) (a : Nat) (ha : a + 8 ≤ n) :
  Calls Tryz.prog 55 #[.slice (some ⟨g, off, none⟩) n cap, .int .i64 a] w fun e w' => e = .returned (.int .u64 (rdN l a 8)) ∧ w = w' := by
 have HR := Lib.hid (rd_part hm hn hc h a ha)
 have HB := Lib.hid (hb.drop a |>.take 8)
 have h1 : (a : Int) + 8 ≤ (n : Int) := by omega
 have h2 : (a : Int) + 8 ≤ (cap : Int) := by omega
 unfold maxLen at hm
 have W1 : IntKind.i64.wrap ((a : Int) + 8) = (a : Int) + 8 := IntWalk.i64_in _ ⟨by omega, by omega⟩
 have W2 : ((a : Int) + 8).toNat = a + 8 := by omega
 have hz : ¬ cap - a = 0 := by omega
 clear h
 go_enter Tryz.func55, Tryz.ntmps55
 go_wp2_with fail
 refine (wNumber_any _ _ w HR.out HB.out).mono ?_
 rintro e w' ⟨rfl, rfl⟩
 rw [show leN (((l.drop a).take 8).take 8) = rdN l a 8 from by rw [List.take_take, Nat.min_self]; rfl]
 go_wp2
 go_ret
 exact ⟨rfl, rfl⟩
def usAt (s F n : Int) : Int := IntKind.i64.wrap (F + n) % s
def usedL (l : List Int) (b s F all : Int) : Nat → Int → Int × Int
 | 0, n => (n, 0)
 | k + 1, n => if all ≤ n then (n, 0) else if loS (rdN l (b + usAt s F n).toNat 8) < 1 then (n, 0) else if loS (rdN l (b + usAt s F n).toNat 8) < 8 ∨ s - usAt s F n < alV (loS (rdN l (b + usAt s F n).toNat 8)) 8 ∨ all < n + alV (loS (rdN l (b + usAt s F n).toNat 8)) 8 then (0, 13) else usedL l b s F all k (n + alV (loS (rdN l (b + usAt s F n).toNat 8)) 8)
theorem al8 {n : Int} (h0 : 0 ≤ n) (h1 : n ≤ 2147483647) : n ≤ alV n 8 ∧ alV n 8 ≤ n + 7 ∧ alE n 8 = 0 := by
 have hb : alBad n 8 = false := by
  have hp : isP 8 = true := by decide +kernel
  unfold alBad
  rw [hp]
  simp
  omega
 unfold alV alE
 rw [hb]
 refine ⟨?_, ?_, rfl⟩
 ·split
  ·contradiction
  ·split <;> omega
 ·split
  ·contradiction
  ·split <;> omega
theorem loS_rng (v : Int) : -2147483648 ≤ loS v ∧ loS v ≤ 2147483647 := by
 unfold loS wrap32
 omega
theorem rdN_bd (h : IsB l) (a : Nat) : 0 ≤ rdN l a 8 ∧ rdN l a 8 ≤ 18446744073709551615 := by
 have := leN_lt 8 ((l.drop a).take 8) (by rw [List.length_take]; omega) ((h.drop a).take 8)
 unfold rdN
 omega
set_option maxHeartbeats 4000000 in
theorem used_any (hm : cap ≤ maxLen) (hn : l.length = n) (hc : n ≤ cap) (h : ∀ i, i < n → w.cell? ⟨g, off + i, none⟩ = some (.int .u8 (gB l i))) (hb : IsB l) (b s : Int) (hg : rgOk b s = true) (hend : b + s + 24 ≤ n) {T H D F all : Int} (hT : rdN l (b + s).toNat 8 = T) (hH : rdN l (b + s + 16).toNat 8 = H) (hD : IntKind.u64.wrap (T - H) = D) (hA : IntKind.i64.wrap D = all) (hF : IntKind.i64.wrap H = F) (h0 : 0 ≤ all) (h1 : all ≤ s) (k : Nat) (hk : all ≤ 8 * (k : Int)) :
  Calls Tryz.prog 28 #[.slice (some ⟨g, off, none⟩) n cap, .agg #[.int .i64 b, .int .i64 s]] w fun e w' => e = .returned (.tuple #[.int .i64 (usedL l b s F all k 0).1, .int .i64 (usedL l b s F all k 0).2]) ∧ Below w.heap.size w w' := by
 obtain ⟨g1, g2, g3, g4, g5, g6⟩ := rgOk_bd hg
 have hge : rgE b s = 0 := by unfold rgE; rw [hg]; rfl
 obtain ⟨R, hR⟩ : ∃ R, R = usedL l b s F all k 0 := ⟨_, rfl⟩
 rw [← hR]
 have hlt : 0 < n := by omega
 have lg : g < w.heap.size := World.block_lt_of_cell? w _ (h 0 hlt)
 have HC := Lib.hid h
 have HR := Lib.hid hR
 have HM := Lib.hid hm
 have HB := Lib.hid hb
 have HK := Lib.hid hk
 have W1 : IntKind.i64.wrap (b + s) = b + s := IntWalk.i64_in _ ⟨by omega, by omega⟩
 have W2 : IntKind.i64.wrap (b + s + 24) = b + s + 24 := IntWalk.i64_in _ ⟨by omega, by omega⟩
 have W3 : IntKind.i64.wrap (b + s + 16) = b + s + 16 := IntWalk.i64_in _ ⟨by omega, by omega⟩
 have hn1 : ¬ (n : Int) < b + s + 24 := by omega
 have HGB := Lib.hid (And.intro g1 hg)
 have hs0 : ¬ all < 0 := by omega
 have hs1 : ¬ s < all := by omega
 have eA : b + s = (((b + s).toNat : Nat) : Int) := by omega
 have eB : b + s + 16 = (((b + s + 16).toNat : Nat) : Int) := by omega
 have EA := Lib.hid eA
 have EB := Lib.hid eB
 have HT := Lib.hid hT
 have HH := Lib.hid hH
 have HN := Lib.hid hn
 clear h hR hm hb hk hg g1 eA eB hT hH hn
 go_enter Tryz.func28, Tryz.ntmps28
 go_wp2_with fail
 refine (rCheck_any b s _ (by omega) (by omega) (by omega) (by omega)).mono ?_
 rintro e w1 ⟨rfl, b1⟩
 rw [hge]
 have B1 : Hid (Below w.heap.size w w1) := Lib.hid (((Below.refl w.heap.size w).alloc (Nat.le_refl _) _).trans (b1.mono (by simp)))
 have r0 := (b1.cell (p := ⟨w.heap.size, 0, none⟩) (by simp)).trans (show (w.alloc (Obj.cells #[.int .i64 b, .int .i64 s] 25)).cell? ⟨w.heap.size, 0, none⟩ = some (.int .i64 b) from by have := Blk.made w #[.int .i64 b, .int .i64 s] 25; exact this.cell 0)
 have r1 := (b1.cell (p := ⟨w.heap.size, 1, none⟩) (by simp)).trans (show (w.alloc (Obj.cells #[.int .i64 b, .int .i64 s] 25)).cell? ⟨w.heap.size, 1, none⟩ = some (.int .i64 s) from by have := Blk.made w #[.int .i64 b, .int .i64 s] 25; exact this.cell 1)
 have z1 := b1.size
 simp at z1
 have HC1 := Lib.hid (fun i hi => (B1.out.cell (p := ⟨g, off + i, none⟩) lg).trans (HC.out i hi))
 clear b1
 go_wp2_with fail
 rw [EB.out]
 refine (rnum_any HM.out HN.out hc HC1.out HB.out _ (by omega)).mono ?_
 rintro e w2 ⟨rfl, rfl⟩
 rw [HH.out]
 go_wp2_with fail
 rw [EA.out]
 refine (rnum_any HM.out HN.out hc HC1.out HB.out _ (by omega)).mono ?_
 rintro e w2 ⟨rfl, rfl⟩
 rw [HT.out]
 go_wp2_with fail
 go_loopg [9] (k + 1) (fun gk nv wr => ∃ (m : Nat) (N : Int), gk = m + 1 ∧ nv = .int .i64 N ∧ 0 ≤ N ∧ N ≤ all ∧ all - N ≤ 8 * (m : Int) ∧ usedL l b s F all m N = R ∧ wr = w1)
 case atStart => exact ⟨k, 0, rfl, rfl, by omega, h0, by have := HK.out; omega, HR.out.symm, rfl⟩
 case round =>
  obtain ⟨m, N, rfl, rfl, n0, n1, hm2, hu, rfl⟩ := hrel
  have HU := Lib.hid hu
  clear hu
  by_cases hl : N < all
  ·obtain ⟨m', rfl⟩ : ∃ m', m = m' + 1 := ⟨m - 1, by omega⟩
   obtain ⟨x, hx⟩ : ∃ x, x = IntKind.i64.wrap (F + N) := ⟨_, rfl⟩
   obtain ⟨p, hp⟩ : ∃ p, p = x % s := ⟨_, rfl⟩
   have p0 : 0 ≤ p := by rw [hp]; exact Int.emod_nonneg _ (by omega)
   have p1 : p < s := by rw [hp]; exact Int.emod_lt_of_pos _ (by omega)
   have hmk : mkS x s = p := by unfold mkS; rw [if_pos HGB.out.1, hp]
   have hua : usAt s F N = p := by unfold usAt; rw [← hx, hp]
   obtain ⟨v, hv⟩ : ∃ v, v = rdN l (b + p).toNat 8 := ⟨_, rfl⟩
   obtain ⟨len, hlen⟩ : ∃ len, len = loS v := ⟨_, rfl⟩
   obtain ⟨v0, v1⟩ := rdN_bd HB.out (b + p).toNat
   rw [← hv] at v0 v1
   obtain ⟨l0, l1⟩ := loS_rng v
   rw [← hlen] at l0 l1
   have HE := HU.out
   rw [usedL, if_neg (by omega), hua, ← hv, ← hlen] at HE
   have HUE := Lib.hid HE
   have WP : IntKind.i64.wrap (b + p) = b + p := IntWalk.i64_in _ ⟨by omega, by omega⟩
   have hx' := hx.symm
   have EP := Lib.hid (show b + p = (((b + p).toNat : Nat) : Int) by omega)
   have HV := Lib.hid hv
   have HLEN := Lib.hid hlen
   have HX := Lib.hid hx
   clear HE hx hp hua hv hlen HU
   go_wp2_with fail
   refine (mask_any x s _ (by omega)).mono ?_
   rintro e w3 ⟨rfl, rfl⟩
   rw [hmk]
   go_wp2_with fail
   rw [EP.out]
   refine (rnum_any HM.out HN.out hc HC1.out HB.out _ (by omega)).mono ?_
   rintro e w3 ⟨rfl, rfl⟩
   rw [← HV.out]
   go_wp2_with fail
   refine (split_any v _ v0 v1).mono ?_
   rintro e w3 ⟨rfl, rfl⟩
   rw [← HLEN.out]
   obtain ⟨hi, hhi⟩ : ∃ hi, hi = hiS v := ⟨_, rfl⟩
   rw [← hhi]
   clear hhi
   by_cases hlen1 : len < 1
   ·have HR1 := HUE.out
    rw [if_pos hlen1] at HR1
    have HR2 := Lib.hid HR1
    have h3 : len ≤ 0 := by omega
    have h4 : ¬ 0 < len := by omega
    obtain ⟨a0, ha0⟩ : ∃ a0, a0 = alV 0 8 := ⟨_, rfl⟩
    obtain ⟨a1, ha1⟩ : ∃ a1, a1 = alE 0 8 := ⟨_, rfl⟩
    have HA := Lib.hid (show ∀ w : World, Calls Tryz.prog 58 #[.int .i64 0, .int .i64 8] w fun e w' => e = .returned (.tuple #[.int .i64 a0, .int .i64 a1]) ∧ w = w' from fun w => by rw [ha0, ha1]; exact align_any 0 8 w (by decide))
    clear ha0 ha1 HR1
    rcases Int.lt_or_eq_of_le h3 with h5 | h5
    ·go_wp2_with (go_at_call 58; refine (HA.out _).mono ?_; rintro e w3 ⟨rfl, rfl⟩)
     go_ret2
     refine ⟨?_, B1.out⟩
     rw [← HR2.out]
     rfl
    ·subst h5
     go_wp2_with (go_at_call 58; refine (HA.out _).mono ?_; rintro e w3 ⟨rfl, rfl⟩)
     go_ret2
     refine ⟨?_, B1.out⟩
     rw [← HR2.out]
     rfl
   ·obtain ⟨z, hz⟩ : ∃ z, z = alV len 8 := ⟨_, rfl⟩
    obtain ⟨z0, z2, z3⟩ := al8 (n := len) (by omega) (by omega)
    rw [← hz] at z0 z2
    have HA := Lib.hid (show ∀ w : World, Calls Tryz.prog 58 #[.int .i64 len, .int .i64 8] w fun e w' => e = .returned (.tuple #[.int .i64 z, .int .i64 0]) ∧ w = w' from fun w => by rw [hz, ← z3]; exact align_any len 8 w (by decide))
    have HR1 := HUE.out
    rw [if_neg hlen1, ← hz] at HR1
    have HR2 := Lib.hid HR1
    have h3 : ¬ len ≤ 0 := by omega
    have h4 : 0 < len := by omega
    have h5 : ¬ len < 0 := by omega
    have WL : IntKind.i64.wrap len = len := IntWalk.i64_in _ ⟨by omega, by omega⟩
    have WS : IntKind.i64.wrap (s - p) = s - p := IntWalk.i64_in _ ⟨by omega, by omega⟩
    have WN : IntKind.i64.wrap (N + z) = N + z := IntWalk.i64_in _ ⟨by omega, by omega⟩
    clear hz z3 HR1
    by_cases q1 : len < 8
    ·have HR3 := HR2.out
     rw [if_pos (.inl q1)] at HR3
     have HR4 := Lib.hid HR3
     clear HR3
     go_wp2_with (go_at_call 58; refine (HA.out _).mono ?_; rintro e w3 ⟨rfl, rfl⟩)
     go_ret2
     refine ⟨?_, B1.out⟩
     rw [← HR4.out]
     rfl
    by_cases q2 : s - p < z
    ·have HR3 := HR2.out
     rw [if_pos (.inr (.inl q2))] at HR3
     have HR4 := Lib.hid HR3
     clear HR3
     go_wp2_with (go_at_call 58; refine (HA.out _).mono ?_; rintro e w3 ⟨rfl, rfl⟩)
     go_ret2
     refine ⟨?_, B1.out⟩
     rw [← HR4.out]
     rfl
    by_cases q3 : all < N + z
    ·have HR3 := HR2.out
     rw [if_pos (.inr (.inr q3))] at HR3
     have HR4 := Lib.hid HR3
     clear HR3
     go_wp2_with (go_at_call 58; refine (HA.out _).mono ?_; rintro e w3 ⟨rfl, rfl⟩)
     go_ret2
     refine ⟨?_, B1.out⟩
     rw [← HR4.out]
     rfl
    ·have HR3 := HR2.out
     rw [if_neg (by omega)] at HR3
     have HR4 := Lib.hid HR3
     clear HR3
     go_wp2_with (go_at_call 58; refine (HA.out _).mono ?_; rintro e w3 ⟨rfl, rfl⟩)
     go_roundg (m' + 1)
     case measure => omega
     case rel => exact ⟨m', N + z, rfl, rfl, by omega, by omega, by omega, HR4.out, rfl⟩
  ·have hle : all ≤ N := by omega
   have HR1 : R = (N, 0) := by
    have := HU.out
    cases m with
    | zero => exact this.symm
    | succ m => rw [usedL, if_pos hle] at this; exact this.symm
   have HR2 := Lib.hid HR1
   clear HR1
   go_wp2
   go_ret2
   refine ⟨?_, B1.out⟩
   rw [HR2.out]
   try rfl
theorem bytes_sl {E B : Nat} {v : Value} (h : OwB E B w v l) (h0 : 0 < l.length) : ∃ g cp, v = .slice (some ⟨g, 0, none⟩) l.length cp ∧ l.length ≤ cp ∧ cp ≤ maxLen ∧ ∀ i, i < l.length → w.cell? ⟨g, 0 + i, none⟩ = some (.int .u8 (gB l i)) := by
 have hb := fun i hi => World.ownsRow.lt h i hi
 obtain ⟨o1, o2⟩ := id h
 rcases o2 with ⟨_, e⟩ | ⟨g, cp, cu, rfl, _, _, h1, h2, _⟩
 ·omega
 ·refine ⟨g, cp, rfl, h1, h2, ?_⟩
  rcases h.rd with ⟨e, _⟩ | ⟨_, _, e, e2, _⟩ | ⟨g', off', cap', e, _, _, hc⟩
  ·cases e
  ·rw [e2] at h0
   exact absurd h0 (Nat.lt_irrefl _)
  ·cases e
   exact hc
theorem ChP.runsQ {M : Mac} {s s' : M.σ} {bs bs' : List Int} {n : Nat} (q : Nat) (h : Runs M s bs n s' bs') : Runs M.Q (q, s) bs n (q, s') bs' :=
 Runs.lift (M := M) (M' := M.Q) (fun s => (q, s)) (fun _ => rfl) (fun _ => rfl) (fun _ _ => rfl) h
theorem own_ints {E : Nat} {v : Value} {L : List Int} (h : w.ownsRow 0 E 1 v L.length (L.map (.int .i64))) (h0 : 0 < L.length) : ∃ g cp, v = .slice (some ⟨g, 0, none⟩) L.length cp ∧ g < w.heap.size ∧ ∀ i x, L[i]? = some x → w.cell? ⟨g, i, none⟩ = some (.int .i64 x) := by
 rcases h.2 with ⟨_, e⟩ | ⟨g, cp, cu, rfl, _⟩
 ·omega
 ·refine ⟨g, cp, rfl, (World.ownsRow.lt h g rfl).2, fun i x hx => ?_⟩
  have hi : i < L.length := (List.getElem?_eq_some_iff.1 hx).1
  rw [World.ownsRow.cellAt h i (by omega), List.getElem?_map, hx]
  rfl
def f10t : FilT := ⟨0, 64, [(1, [97, 98]), (0, []), (2, [])], 0, [], []⟩
def f10s : Option PutM × FilT := filC.start f10t
def f10A : (Option PutM × FilT) × List Int × Bool := filC.mac.runN 11 f10s (List.replicate 96 0)
def d10t : DraT := ⟨0, 64, 3, 9, []⟩
def d10s : Option GetM × DraT := draC.start d10t
def d10A : (Option GetM × DraT) × List Int × Bool := draC.mac.runN 13 d10s f10A.2.1
def f10u : Int := IntKind.u64.wrap (rdN f10A.2.1 64 8 - rdN f10A.2.1 80 8)
theorem f10_facts : (f10A.2.2 = true ∧ f10A.1.1.isSome = false ∧ f10A.1.2.done = [0, 1, 0] ∧ f10A.1.2.places.length = 2 ∧ f10A.2.1.length = 96) ∧ (d10A.2.2 = true ∧ d10A.1.1.isSome = false ∧ d10A.1.2.out = [(1, [97, 98]), (2, [])]) ∧ (IntKind.i64.wrap f10u = 24 ∧ (usedL f10A.2.1 0 64 (IntKind.i64.wrap (rdN f10A.2.1 80 8)) 24 4 0).1 = 24 ∧ (usedL f10A.2.1 0 64 (IntKind.i64.wrap (rdN f10A.2.1 80 8)) 24 4 0).2 = 0) := by decide +kernel
theorem f10A_runs : Runs filC.mac f10s (List.replicate 96 0) 11 f10A.1 f10A.2.1 := runN_runs (M := filC.mac) 11 f10s _ f10_facts.1.1
theorem d10A_runs : Runs draC.mac d10s f10A.2.1 13 d10A.1 d10A.2.1 := runN_runs (M := draC.mac) 13 d10s _ f10_facts.2.1.1
theorem strAB : strOfNums [97, 98] = ⟨#[97, 98]⟩ := by decide
set_option maxHeartbeats 4000000 in
theorem fixed10_any (w : World) : Calls Tryz.prog 25 #[] w fun e w' => e = .returned (.bool true) ∧ Below w.heap.size w w' := by
 have kc := fun (w : World) (C : Array Value) (n c : Nat) => Lib.run_convert_bytes_const (P := Tryz.prog) w 32 5 C n c Tryz.underlying32 Tryz.underlying5
 have FX := Lib.hid f10_facts
 go_enter Tryz.func25, Tryz.ntmps25
 go_wp2_with fail
 refine (mNew_at 96 12 _ (by decide) (by decide) (by decide)).mono ?_
 rintro e w1 ⟨p, c, rfl, hb1, hp, hc, b1⟩
 have HB1 := Lib.hid hb1
 have B1 := Lib.hid b1
 have z1 := b1.size
 clear hb1 b1
 go_upto_region 3 with fail
 obtain ⟨w2, hw2⟩ : ∃ w2, w2 = w1.alloc (.cells #[.int .i64 0, .int .i64 64] 25) := ⟨_, rfl⟩
 have b2 : Below w1.heap.size w1 w2 := by rw [hw2]; go_grown
 have R2 := Lib.hid (show Blk w2 w1.heap.size [.int .i64 0, .int .i64 64] by rw [hw2]; exact Blk.made _ _ _)
 have z2 := b2.size
 have B2 := Lib.hid (B1.out.trans (b2.mono z1))
 have HB2 := Lib.hid (HB1.out.belows b2)
 have r0 := R2.out.cell 0
 have r1 := R2.out.cell 1
 simp only [List.getElem?_cons_zero, List.getElem?_cons_succ] at r0 r1
 rw [← hw2]
 have lp := HB2.out.hd.lt
 have lc := Blk.lt HB2.out.wd
 have lr := R2.out.lt
 have lp1 := HB1.out.hd.lt
 have lc1 := Blk.lt HB1.out.wd
 clear hw2 b2 HB1 B1
 go_wp2_with fail
 obtain ⟨w3, hw3⟩ : ∃ w3, w3 = (w2.alloc (Obj.cells #[.int .u8 97, .int .u8 98] 5 (2, 3))).alloc (Obj.cells #[.int .i32 1, .slice (some ⟨w2.heap.size, 0, none⟩) 2 2, .int .i32 0, .slice none 0 0, .int .i32 2, .slice none 0 0] 34) := ⟨_, rfl⟩
 have b3 : Below w2.heap.size w2 w3 := by rw [hw3]; go_grown
 have rd2 : RdB (w2.alloc (Obj.cells #[.int .u8 97, .int .u8 98] 5 (2, 3))) (.slice (some ⟨w2.heap.size, 0, none⟩) 2 2) [97, 98] := by
  refine .inr (.inr ⟨w2.heap.size, 0, 2, rfl, by decide, by decide, fun i hi => ?_⟩)
  have hi : i < 2 := hi
  rw [World.cell?, (MapKept.heap_alloc w2 _).1, Nat.zero_add]
  match i, hi with
  | 0, _ | 1, _ => rfl
 have rd3 : RdMs w3 (fun _ => True) (.slice (some ⟨w2.heap.size + 1, 0, none⟩) 3 3) [(1, [97, 98]), (0, []), (2, [])] := by
  have hb := Blk.made2 w2 (Obj.cells #[.int .u8 97, .int .u8 98] 5 (2, 3)) #[.int .i32 1, .slice (some ⟨w2.heap.size, 0, none⟩) 2 2, .int .i32 0, .slice none 0 0, .int .i32 2, .slice none 0 0] 34
  rw [← hw3] at hb
  have rd4 : RdB w3 (.slice (some ⟨w2.heap.size, 0, none⟩) 2 2) [97, 98] := by rw [hw3]; exact rd2.below ((Below.refl _ _).alloc (Nat.le_refl _) _)
  refine .inr ⟨w2.heap.size + 1, 0, 3, rfl, by decide, by decide, trivial, hb.lt, fun i x hx => ?_⟩
  match i, hx with
  | 0, hx => cases hx; exact ⟨_, _, _, hb.cell 0, hb.cell 1, rd4, fun _ _ _ => trivial⟩
  | 1, hx => cases hx; exact ⟨_, _, _, hb.cell 2, hb.cell 3, .inl ⟨rfl, rfl⟩, fun _ _ _ => trivial⟩
  | 2, hx => cases hx; exact ⟨_, _, _, hb.cell 4, hb.cell 5, .inl ⟨rfl, rfl⟩, fun _ _ _ => trivial⟩
  | i + 3, hx => cases hx
 have z3 := b3.size
 have B3 := Lib.hid (B2.out.trans (b3.mono (by omega)))
 have HB3 := Lib.hid (HB2.out.belows b3)
 have R3 := Lib.hid (R2.out.below b3 lr)
 have RD3 := Lib.hid rd3
 rw [← hw3]
 clear hw3 b3 rd2 rd3 HB2 B2 R2 r0 r1
 refine (filNew_any 0 64 0 _ [(1, [97, 98]), (0, []), (2, [])] (fun _ => True) w3 RD3.out (by intro x hx; simp at hx; rcases hx with rfl | rfl | rfl <;> refine ⟨?_, by decide⟩ <;> intro y hy <;> simp at hy <;> omega) (by decide) (by decide) (by decide) (by decide) (by decide)).mono ?_
 rintro e w4 ⟨q, F, rfl, hq, hinv, hF, b4⟩
 have z4 := b4.size
 have B4 := Lib.hid (B3.out.trans (b4.mono (by omega)))
 have HB4 := Lib.hid (HB3.out.belows b4)
 have R4 := Lib.hid (R3.out.below b4 R3.out.lt)
 have HI4 := Lib.hid (show filFam.inv w4 F q f10s from hinv)
 have HF4 := Lib.hid hF
 have r0 := R4.out.cell 0
 have r1 := R4.out.cell 1
 have lr4 := R4.out.lt
 simp only [List.getElem?_cons_zero, List.getElem?_cons_succ] at r0 r1
 clear hinv hF b4 HB3 B3 R3 RD3
 unfold ptr
 go_wp2_with fail
 refine (draNew_any 0 64 3 9 w4 (by decide) (by decide) (by decide) (by decide)).mono ?_
 rintro e w5 ⟨q2, F2, rfl, hq2, hinv, hF2, b5⟩
 have z5 := b5.size
 have B5 := Lib.hid (B4.out.trans (b5.mono (by omega)))
 have HB5 := Lib.hid (HB4.out.belows b5)
 have R5 := Lib.hid (R4.out.below b5 R4.out.lt)
 have HI5 := Lib.hid (show (Fam.Q filFam).inv w5 F q (q, f10s) from ⟨rfl, filFam.keep HI4.out (Below.keeps (M := fun _ => False) b5) (fun _ _ => id)⟩)
 have HJ5 := Lib.hid (show draFam.inv w5 F2 q2 d10s from hinv)
 have HF5 := Lib.hid hF2
 have HFL := Lib.hid (filFam.dom HI4.out).2
 have HFL2 := Lib.hid (draFam.dom HJ5.out).2
 clear hinv hF2 b5 HB4 B4 R4 HI4 r0 r1
 unfold ptr
 go_wp2_with fail
 have HSEP : Hid (∀ i, F i ∨ F2 i → w2.heap.size ≤ i) := Lib.hid (fun i hi => by rcases hi with hi | hi; have := HF4.out i hi; omega; have := HF5.out i hi; omega)
 have HDJ : Hid (∀ i, F2 i → ¬ (F i ∨ i = p ∨ i = c)) := Lib.hid (fun i hi h => by have h1 := HF5.out i hi; rcases h with h | h | h; have := HFL.out i h; omega; omega; omega)
 obtain ⟨w5a, hwa⟩ : ∃ wa, wa = w5.alloc (Obj.cells #[.iface 63 (.pointer (some ⟨q, 0, none⟩))] 66) := ⟨_, rfl⟩
 have ba : Below w5.heap.size w5 w5a := by rw [hwa]; exact (Below.refl _ _).alloc (Nat.le_refl _) _
 have hga : Blk w5a w5.heap.size [.iface 63 (.pointer (some ⟨q, 0, none⟩))] := by rw [hwa]; exact Blk.made w5 _ _
 have zaA : w5.heap.size < w5a.heap.size := by rw [hwa]; simp
 have HBa := Lib.hid (HB5.out.belows ba)
 have HIa := Lib.hid ((Fam.Q filFam).keep HI5.out (Below.keeps (M := fun _ => False) ba) (fun _ _ => id))
 have HJa := Lib.hid (draFam.keep HJ5.out (Below.keeps (M := fun _ => False) ba) (fun _ _ => id))
 have Ba := Lib.hid (B5.out.trans (ba.mono (by omega)))
 have HGa := Lib.hid hga
 have Ra := Lib.hid (R5.out.below ba R5.out.lt)
 have lpa := HBa.out.hd.lt
 have lca := Blk.lt HBa.out.wd
 rw [← hwa]
 clear hwa ba hga HB5 HI5 B5 HJ5 R5
 refine (soloNew (Fam.Q filFam) (F := F) (s := (q, f10s)) HBa.out HIa.out (fun h => by have := HSEP.out p (.inl h); omega) (fun h => by have := HSEP.out c (.inl h); omega) HGa.out).mono ?_
 rintro e w5b ⟨WA, κA, avA, abA, rfl, hW, hκ, hWs, bb⟩
 have HWa := Lib.hid hW
 have HKa := Lib.hid hκ
 have BBa := Lib.hid bb
 have zbA := bb.size
 clear hW hκ bb
 go_wp2_with fail
 refine (soloRobin (Fam.Q filFam) (w0 := w5a) HWa.out HKa.out BBa.out lpa lca 999 (by decide) (by decide) (by decide)).mono ?_
 rintro e w5c ⟨rfl, hS⟩
 have hR := robin_upto (M := (Fam.Q filFam).M) 999 (ChP.runsQ q f10A_runs) (.inl ⟨FX.out.1.2.1, by decide⟩) 0
 have eR : ((Fam.Q filFam).M.robin 999 ⟨(List.replicate (8 * 12) 0), 0, [⟨some (q, f10s), false⟩], 0, []⟩).2 = 11 := hR.1
 rw [eR]
 obtain ⟨GA, qA, hG, npA, ncA, hfA⟩ := hS.of hR.2.1
 have HIc := Lib.hid hG
 have hbc : Buf w5c p c (0 + 11) f10A.2.1 := by
  have h1 := hS.buf
  have h2 : ((Fam.Q filFam).M.robin 999 ⟨(List.replicate (8 * 12) 0), 0, [⟨some (q, f10s), false⟩], 0, []⟩).1.bs = f10A.2.1 := hR.2.2.1
  have h3 : ((Fam.Q filFam).M.robin 999 ⟨(List.replicate (8 * 12) 0), 0, [⟨some (q, f10s), false⟩], 0, []⟩).1.cnt = 0 + 11 := hR.2.2.2
  rw [h2, h3] at h1
  exact h1
 have HBc := Lib.hid hbc
 have kcA := hS.keep
 have KPA := Lib.hid kcA
 have zcA := kcA.size
 have Rc := Lib.hid (Ra.out.keep kcA (fun h => by rcases h with h | h | h; have := HSEP.out _ (.inl h); omega; omega; omega))
 have HJc := Lib.hid (draFam.keep HJa.out kcA (fun i hi h => HDJ.out i hi h))
 have HGA := Lib.hid hfA
 clear hS hR hG hbc eR HWa HKa BBa HGa HBa HIa HJa Ra kcA hfA
 have Bc := Lib.hid (Ba.out.trans (KPA.out.below (B := w.heap.size) (by omega) (fun k h1 h2 => by rcases h2 with h2 | h2 | h2; have := HSEP.out _ (.inl h2); omega; omega; omega)))
 clear Ba
 have HIF : Hid (filK.P w5c q GA f10A.1.1 f10A.1.2) := Lib.hid (by have := HIc.out.2.1; rw [HIc.out.1] at this; exact this)
 have c0 := Rc.out.cell 0
 have c1 := Rc.out.cell 1
 have lrc := Rc.out.lt
 simp only [List.getElem?_cons_zero, List.getElem?_cons_succ] at c0 c1
 have lpc := HBc.out.hd.lt
 have lcc := Blk.lt HBc.out.wd
 clear HIc
 go_wp2_with fail
 go_region_held3 (fun w' => w'.cell? ⟨w1.heap.size, 0, none⟩ = some (.int .i64 0) ∧ w'.cell? ⟨w1.heap.size, 1, none⟩ = some (.int .i64 64)) (first | go_keep | trivial)
  (first
   | (go_at_call 18; refine (mBytes_any p c (0 + 11) f10A.2.1 _ (HBc.out.belows (by go_grown))).mono ?_; rintro e w6 ⟨bv, rfl, o6, b6⟩; obtain ⟨g6, cp6, rfl, hc6, hm6, hcell6⟩ := bytes_sl o6 (by rw [FX.out.1.2.2.2.2]; decide); have B6 := Lib.hid ((by go_grown : Below w5c.heap.size w5c _).trans (b6.mono (by simp))); have HC6 := Lib.hid hcell6; have hc0 := fun o => B6.out.cell (p := ⟨w1.heap.size, o, none⟩) lrc; clear hcell6 o6 b6; rw [FX.out.1.2.2.2.2] at hc6 ⊢)
   | (go_at_call 28; refine (used_any (n := 96) hm6 FX.out.1.2.2.2.2 hc6 (fun i hi => (by go_grown : Below w6.heap.size w6 _).cell (p := ⟨g6, 0 + i, none⟩) (World.block_lt_of_cell? _ _ (HC6.out i (by rw [FX.out.1.2.2.2.2]; exact hi))) |>.trans (HC6.out i (by rw [FX.out.1.2.2.2.2]; exact hi))) HBc.out.is 0 64 (by decide +kernel) (by decide) (T := rdN f10A.2.1 64 8) (H := rdN f10A.2.1 80 8) (D := f10u) (all := 24) (F := IntKind.i64.wrap (rdN f10A.2.1 80 8)) rfl rfl rfl FX.out.2.2.1 rfl (by decide) (by decide) 4 (by decide)).mono ?_; rintro e w7 ⟨rfl, b7⟩; rw [FX.out.2.2.2.1, FX.out.2.2.2.2]; have B7 := Lib.hid (B6.out.trans ((by go_grown : Below w6.heap.size w6 _).trans (b7.mono (by simp)) |>.mono B6.out.size)); have hc1 := fun o => B7.out.cell (p := ⟨w1.heap.size, o, none⟩) lrc))
 clear hc0 hc1 hc6
 have HB5 := Lib.hid (HBc.out.belows B7.out)
 have z7 := B7.out.size
 have R5 := Lib.hid (Rc.out.below B7.out lrc)
 have B5 := Lib.hid (Bc.out.trans (B7.out.mono (by omega)))
 have HI5 := Lib.hid (show (Fam.Q draFam).inv w7 F2 q2 (q2, d10s) from ⟨rfl, draFam.keep HJc.out (Below.keeps (M := fun _ => False) B7.out) (fun _ _ => id)⟩)
 have HJ5 := Lib.hid (filK.below HIF.out B7.out)
 have HDJ2 : Hid (∀ i, GA i → ¬ (F2 i ∨ i = p ∨ i = c)) := Lib.hid (fun i hi h => by rcases h with h | h | h; have h5 := HF5.out i h; have h6 := HFL2.out i h; rcases HGA.out i hi with h7 | h7; have := HFL.out i h7; omega; omega; exact npA (h ▸ hi); exact ncA (h ▸ hi))
 clear HBc HJc HIF Rc Bc c0 c1 B6 HC6 hm6
 have HDJ := HDJ2
 go_wp2_with fail
 obtain ⟨w7a, hwa⟩ : ∃ wa, wa = w7.alloc (Obj.cells #[.iface 61 (.pointer (some ⟨q2, 0, none⟩))] 66) := ⟨_, rfl⟩
 have ba : Below w7.heap.size w7 w7a := by rw [hwa]; exact (Below.refl _ _).alloc (Nat.le_refl _) _
 have hga : Blk w7a w7.heap.size [.iface 61 (.pointer (some ⟨q2, 0, none⟩))] := by rw [hwa]; exact Blk.made w7 _ _
 have zaB : w7.heap.size < w7a.heap.size := by rw [hwa]; simp
 have HBa := Lib.hid (HB5.out.belows ba)
 have HIa := Lib.hid ((Fam.Q draFam).keep HI5.out (Below.keeps (M := fun _ => False) ba) (fun _ _ => id))
 have HJa := Lib.hid (filK.keep HJ5.out (Below.keeps (M := fun _ => False) ba) (fun _ _ => id))
 have Ba := Lib.hid (B5.out.trans (ba.mono (by omega)))
 have HGa := Lib.hid hga
 have Ra := Lib.hid (R5.out.below ba R5.out.lt)
 have lpa := HBa.out.hd.lt
 have lca := Blk.lt HBa.out.wd
 rw [← hwa]
 clear hwa ba hga HB5 HI5 B5 HJ5 R5
 refine (soloNew (Fam.Q draFam) (F := F2) (s := (q2, d10s)) HBa.out HIa.out (fun h => by have := HSEP.out p (.inr h); omega) (fun h => by have := HSEP.out c (.inr h); omega) HGa.out).mono ?_
 rintro e w7b ⟨WB, κB, avB, abB, rfl, hW, hκ, hWs, bb⟩
 have HWa := Lib.hid hW
 have HKa := Lib.hid hκ
 have BBa := Lib.hid bb
 have zbB := bb.size
 clear hW hκ bb
 go_wp2_with fail
 refine (soloRobin (Fam.Q draFam) (w0 := w7a) HWa.out HKa.out BBa.out lpa lca 999 (by decide) (by decide) (by decide)).mono ?_
 rintro e w7c ⟨rfl, hS⟩
 have hR := robin_upto (M := (Fam.Q draFam).M) 999 (ChP.runsQ q2 d10A_runs) (.inl ⟨FX.out.2.1.2.1, by decide⟩) (0 + 11)
 have eR : ((Fam.Q draFam).M.robin 999 ⟨f10A.2.1, (0 + 11), [⟨some (q2, d10s), false⟩], 0, []⟩).2 = 13 := hR.1
 rw [eR]
 obtain ⟨GB, qB, hG, npB, ncB, hfB⟩ := hS.of hR.2.1
 have HIc := Lib.hid hG
 have hbc : Buf w7c p c ((0 + 11) + 13) d10A.2.1 := by
  have h1 := hS.buf
  have h2 : ((Fam.Q draFam).M.robin 999 ⟨f10A.2.1, (0 + 11), [⟨some (q2, d10s), false⟩], 0, []⟩).1.bs = d10A.2.1 := hR.2.2.1
  have h3 : ((Fam.Q draFam).M.robin 999 ⟨f10A.2.1, (0 + 11), [⟨some (q2, d10s), false⟩], 0, []⟩).1.cnt = (0 + 11) + 13 := hR.2.2.2
  rw [h2, h3] at h1
  exact h1
 have HBc := Lib.hid hbc
 have kcB := hS.keep
 have KPB := Lib.hid kcB
 have zcB := kcB.size
 have Rc := Lib.hid (Ra.out.keep kcB (fun h => by rcases h with h | h | h; have := HSEP.out _ (.inr h); omega; omega; omega))
 have HJc := Lib.hid (filK.keep HJa.out kcB (fun i hi h => HDJ.out i hi h))
 have HGB := Lib.hid hfB
 clear hS hR hG hbc eR HWa HKa BBa HGa HBa HIa HJa Ra kcB hfB
 have Bc := Lib.hid (Ba.out.trans (KPB.out.below (B := w.heap.size) (by omega) (fun k h1 h2 => by rcases h2 with h2 | h2 | h2; have := HSEP.out _ (.inr h2); omega; omega; omega)))
 clear Ba
 obtain ⟨bx, hdr⟩ : ∃ bx, (draK bx).P w7c q2 GB d10A.1.1 d10A.1.2 := by have := HIc.out.2.1; rw [HIc.out.1] at this; exact this
 have HDR := Lib.hid hdr
 clear hdr HIc
 go_wp2_with fail
 refine (filDone_any HJc.out).mono ?_
 rintro e w8 ⟨v8, rfl, o8, p8, b8⟩
 rw [show FilT.done f10A.1.2 = [0, 1, 0] from FX.out.1.2.2.1] at o8
 obtain ⟨g8, cp8, rfl, lg8, hc8⟩ := own_ints o8 (by decide)
 have HJ8 := Lib.hid (filK.below HJc.out b8)
 have HD8 := Lib.hid ((draK bx).below HDR.out b8)
 have B8 := Lib.hid (Bc.out.trans (b8.mono Bc.out.size))
 have d1 := hc8 1 1 rfl
 have d2 := hc8 2 0 rfl
 clear o8 p8 b8 hc8 HJc HDR Bc
 go_wp2_with fail
 refine (draMsgs_any HD8.out).mono ?_
 rintro e w9 ⟨v9, rfl, ms9, b9⟩
 rw [show DraT.out d10A.1.2 ++ draRest d10A.1.1 = [(1, [97, 98]), (2, [])] from by rw [show DraT.out d10A.1.2 = [(1, [97, 98]), (2, [])] from FX.out.2.1.2.2, show d10A.1.1 = none from Option.not_isSome_iff_eq_none.1 (by rw [FX.out.2.1.2.1]; decide)]; rfl] at ms9
 obtain ⟨g9, cp9, s0, sl, sc, rfl, m0, m1, hr9⟩ := ms9.ms_cell2 (k := 0) (t := 1) (d := [97, 98]) rfl
 obtain ⟨g9', cp9', s1, sl1, sc1, e9, m2, m3, _⟩ := ms9.ms_cell2 (k := 1) (t := 2) (d := []) rfl
 cases e9
 have HJ9 := Lib.hid (filK.below HJ8.out b9)
 have B9 := Lib.hid (B8.out.trans (b9.mono B8.out.size))
 have e1 := (b9.cell (p := ⟨g8, 1, none⟩) lg8).trans d1
 have e2 := (b9.cell (p := ⟨g8, 2, none⟩) lg8).trans d2
 have cv := conv_rd 32 9 Tryz.underlying32 Tryz.underlying9 hr9
 rw [strAB] at cv
 have gl := World.block_lt_of_cell? _ _ m0
 have lg9 : g8 < w9.heap.size := Nat.lt_of_lt_of_le lg8 b9.size
 clear ms9 b9 hr9 HJ8 HD8 B8 d1 d2
 go_wp2_with fail
 refine (filPlaces_any HJ9.out).mono ?_
 rintro e w10 ⟨v10, rfl, o10, p10, b10⟩
 have hpl : FilT.places f10A.1.2 = FilT.places f10A.1.2 := rfl
 obtain ⟨g10, cp10, rfl, _, _⟩ := own_ints o10 (by rw [FX.out.1.2.2.2.1]; decide)
 rw [show (FilT.places f10A.1.2).length = 2 from FX.out.1.2.2.2.1]
 have B10 := Lib.hid (B9.out.trans (b10.mono B9.out.size))
 clear o10 p10 b10 HJ9 B9 hpl
 go_wp2
 go_ret
 exact ⟨rfl, B10.out⟩
end Go.Proofs.YtggjhleomocojaaGreat
end
