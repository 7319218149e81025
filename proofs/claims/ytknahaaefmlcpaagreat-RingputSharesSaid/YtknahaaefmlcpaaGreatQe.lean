/- Contracts of the reference's Put of anything, and of law07.same. Conditions: as each says. The walk of the law RingputSteps. Conditions: the numbers are in their kinds' ranges. -/
import Derived.Test.YtknahaaefmlcpaaGreatQc
import Derived.Test.YtknahaaefmlcpaaGreatQb
import Derived.Test.YtknahaaefmlcpaaGreatTc
section
namespace Go.Proofs.YtknahaaefmlcpaaGreat
set_option maxRecDepth 100000
open Go.RowKit
set_option linter.unusedVariables false
set_option linter.unusedSimpArgs false
theorem TOk.mk1 {w0 w1 : World} {t0 : Option Addr} {c tb : Nat} {T : List AnsV} (hT : RdA w0 (.slice t0 T.length c) T) (hS : Sls T) (hTs : RdAs w0 T) (hlen : T.length ≤ 1000000) (b : Below w0.heap.size w0 w1) (ht : w0.heap.size ≤ tb) : TOk w1 tb (.slice t0 T.length c) T := by
  refine ⟨hT.below b, hS, hTs.below b, fun h0 e => ?_, fun i hi h0 e => ?_, hlen⟩
  · have := hT.blk (by omega) tb e
    omega
  · have := (hTs i hi).blk h0 tb e
    omega
theorem PutM.want_end {m : PutM} (h : m.live = false) : m.want = aaZ := by
  obtain ⟨c, pc, hd, pos, cl, e⟩ := m
  cases pc with
  | done => rfl
  | _ => cases h
theorem TpAt.all {w : World} {tb : Nat} {tv : Value} {T : List AnsV} {E : PutM × List AN} (h : TpAt putMac w tb tv T E) :
    ∃ K s0 sl sc, Tp w tb tv K ⟨E.1.want.k, E.1.want.a, E.1.want.n, E.1.want.v, E.1.want.x, .slice s0 sl sc⟩ E.1.live ∧ RdB w (.slice s0 sl sc) E.1.want.b := by
  rcases h with ⟨h1, h2, s0, sl, sc, h3, h4⟩ | ⟨h1, h2⟩
  · have h1' : E.1.live = true := h1
    rw [h1']
    exact ⟨_, s0, sl, sc, h3, h4⟩
  · have h1' : E.1.live = false := h1
    rw [h1', PutM.want_end h1']
    exact ⟨_, none, 0, 0, h2, .inl ⟨rfl, rfl⟩⟩
set_option maxHeartbeats 1000000 in
theorem refPut_any (tb k0 : Nat) (tv : Value) (T : List AnsV) (b s typ : Int) (s0 : Option Addr) (sl sc : Nat) (l : List Int) (w : World) (h : Tp w tb tv k0 accZ false) (hT : TOk w tb tv T) (hk : k0 ≤ T.length) (hu : ∀ i, i < T.length → inU (gA T i).v)
    (hr : RdB w (.slice s0 sl sc) l) (hb : l.length ≠ 0 → (Value.slice s0 sl sc).ownBlock ≠ some tb) (hb0 : -9223372036854775808 ≤ b) (hb1 : b ≤ 9223372036854775807) (hs0 : -9223372036854775808 ≤ s) (hs1 : s ≤ 9223372036854775807) (htyp : typ ≤ 2147483647) :
    Calls Tryz.prog 72 #[.pointer (some ⟨tb, 0, none⟩), .agg #[.int .i64 b, .int .i64 s], .int .i32 typ, .slice s0 sl sc] w (PutSaid w tb tv T ((PutC.init ⟨b, s, typ, l⟩).eat (ans T k0))) := by
  by_cases hok : (PutC.mk b s typ l).ok = true
  · exact refPut_ok tb k0 tv T b s typ s0 sl sc l w h hT hk hu hr hb hok hb0 hb1 hs0 hs1 htyp
  have hok' : (PutC.mk b s typ l).ok = false := by simpa using hok
  have hsl := rd_len hr
  have HSL := Lib.hid hsl
  have H := Lib.hid h
  have hlt := h.lt
  have fin : ∀ (e : Int) (w' : World), PutC.init ⟨b, s, typ, l⟩ = ⟨⟨b, s, typ, l⟩, .done, 0, 0, false, e⟩ → Below w.heap.size w w' → PutSaid w tb tv T ((PutC.init ⟨b, s, typ, l⟩).eat (ans T k0)) (.returned (.tuple #[.int .i64 0, .bool false, .int .i64 e])) w' := by
    intro e w' hi bb
    rw [hi, PutM.eat_done rfl]
    refine ⟨Below.keeps bb, rfl, .inr ⟨rfl, ?_⟩⟩
    rw [ans_len, show T.length - (T.length - k0) = k0 by omega]
    exact Blk.below H.out bb hlt
  have FIN := Lib.hid fin
  clear fin hsl
  by_cases hg : rgOk b s = true
  · obtain ⟨r1, r2, r3, r4, r5, r6⟩ := rgOk_bd hg
    have RG := Lib.hid hg
    clear r1
    by_cases ht : typ < 1
    · have hI : PutC.init ⟨b, s, typ, l⟩ = ⟨⟨b, s, typ, l⟩, .done, 0, 0, false, 1⟩ := by
        have hto : ¬ 1 ≤ typ := by omega
        unfold PutC.init PutC.e0
        rw [hok']
        simp [hg, hto]
      have HI := Lib.hid hI
      clear hI hok hok' hg h hT hr
      go_enter Tryz.func72, Tryz.ntmps72
      go_wp2_with fail
      refine (rRight_any b s _ hb0 hb1 hs0 hs1).mono ?_
      rintro e w1 ⟨rfl, b1⟩
      rw [RG.out]
      go_wp2
      go_ret3
      exact FIN.out 1 _ HI.out (((Below.refl w.heap.size w).alloc (Nat.le_refl _) _).trans (b1.mono (by simp)))
    · have hle : ¬ (l.length : Int) ≤ s / 8 := by
        intro h9
        apply hok
        unfold PutC.ok
        simp [hg, show 1 ≤ typ by omega, h9]
      have hI : PutC.init ⟨b, s, typ, l⟩ = ⟨⟨b, s, typ, l⟩, .done, 0, 0, false, 4⟩ := by
        unfold PutC.init PutC.e0
        rw [hok']
        simp [hg, show 1 ≤ typ by omega, hle]
      have HI := Lib.hid hI
      have hs8 : s.tdiv 8 = s / 8 := Int.tdiv_eq_ediv_of_nonneg (by omega)
      have W8' : IntKind.i64.wrap (s.tdiv 8) = s.tdiv 8 := IntWalk.i64_in _ ⟨by omega, by omega⟩
      have W8 : IntKind.i64.wrap (s / 8) = s / 8 := IntWalk.i64_in _ ⟨by omega, by omega⟩
      have hlen' : s.tdiv 8 < (sl : Int) := by have := HSL.out; omega
      clear hI hok hok' hg h hT hr hle
      go_enter Tryz.func72, Tryz.ntmps72
      go_wp2_with fail
      refine (rRight_any b s _ hb0 hb1 hs0 hs1).mono ?_
      rintro e w1 ⟨rfl, b1⟩
      rw [RG.out]
      have z1 := b1.size
      simp at z1
      have X1 := Lib.hid (Blk.below (Blk.made w #[.int .i64 b, .int .i64 s] 26) b1 (by simp))
      have B1 := Lib.hid (((Below.refl w.heap.size w).alloc (Nat.le_refl _) (.cells #[.int .i64 b, .int .i64 s] 26)).trans (b1.mono (by simp)))
      have x1 := X1.out.cell 1
      simp only [List.getElem?_toArray, List.getElem?_cons_zero, List.getElem?_cons_succ] at x1
      have hx : w.heap.size < w1.heap.size := by omega
      clear b1
      go_wp2
      go_ret3
      exact FIN.out 4 _ HI.out B1.out
  · have hg' : rgOk b s = false := by simpa using hg
    have RG := Lib.hid hg'
    have hI : PutC.init ⟨b, s, typ, l⟩ = ⟨⟨b, s, typ, l⟩, .done, 0, 0, false, 1⟩ := by
      unfold PutC.init PutC.e0
      rw [hok']
      simp [hg]
    have HI := Lib.hid hI
    clear hI hok hok' hg hg' h hT hr
    go_enter Tryz.func72, Tryz.ntmps72
    go_wp2_with fail
    refine (rRight_any b s _ hb0 hb1 hs0 hs1).mono ?_
    rintro e w1 ⟨rfl, b1⟩
    rw [RG.out]
    go_wp2
    go_ret3
    exact FIN.out 1 _ HI.out (((Below.refl w.heap.size w).alloc (Nat.le_refl _) _).trans (b1.mono (by simp)))
theorem Blk.c6t {w : World} {b : Nat} {x0 x1 x2 x3 x4 x5 : Value} (h : Blk w b [x0, x1, x2, x3, x4, x5]) : w.cell? ⟨b, 0, none⟩ = some x0 ∧ w.cell? ⟨b, 1, none⟩ = some x1 ∧ w.cell? ⟨b, 2, none⟩ = some x2 ∧ w.cell? ⟨b, 3, none⟩ = some x3 ∧ w.cell? ⟨b, 4, none⟩ = some x4 ∧ w.cell? ⟨b, 5, none⟩ = some x5 :=
  ⟨h.cell 0, h.cell 1, h.cell 2, h.cell 3, h.cell 4, h.cell 5⟩
set_option maxHeartbeats 4000000 in
theorem same07_any (b s typ : Int) (s0 : Option Addr) (sl sc : Nat) (l : List Int) (t0 : Option Addr) (tc : Nat) (T : List AnsV) (O : Nat → Prop) (q : Nat) (bv : Value) (m : PutM) (w : World) (hm : m = ((PutC.init ⟨b, s, typ, l⟩).eat (ans T 0)).1) (h : PutI w O q m bv)
    (hT : RdA w (.slice t0 T.length tc) T) (hS : Sls T) (hTs : RdAs w T) (hlen : T.length ≤ 1000000) (hu : ∀ i, i < T.length → inU (gA T i).v) (hr : RdB w (.slice s0 sl sc) l) (hb0 : -9223372036854775808 ≤ b) (hb1 : b ≤ 9223372036854775807) (hs0 : -9223372036854775808 ≤ s) (hs1 : s ≤ 9223372036854775807) (htyp : typ ≤ 2147483647) :
    Calls Tryz.prog 17 #[.pointer (some ⟨q, 0, none⟩), .slice t0 T.length tc, .agg #[.int .i64 b, .int .i64 s], .int .i32 typ, .slice s0 sl sc] w fun e w' => e = .returned (.bool true) ∧ Below w.heap.size w w' := by
  have HM := Lib.hid hm
  have HP := Lib.hid h
  have HT := Lib.hid hT
  have HS := Lib.hid hS
  have HTS := Lib.hid hTs
  have HU := Lib.hid hu
  have HR := Lib.hid hr
  clear hm h hT hS hTs hu hr
  go_enter Tryz.func17, Tryz.ntmps17
  go_wp2_with fail
  obtain ⟨w1, hw1⟩ : ∃ w1, w1 = w.alloc (Obj.cells #[Value.int IntKind.i64 b, Value.int IntKind.i64 s] 26) := ⟨_, rfl⟩
  have b1 : Below w.heap.size w w1 := by rw [hw1]; exact (Below.refl _ _).alloc (Nat.le_refl _) _
  have z1 : w1.heap.size = w.heap.size + 1 := by rw [hw1]; simp
  rw [← hw1]
  have htp2 : Tp (w1.alloc (Obj.cells #[Value.slice t0 T.length tc, Value.int IntKind.i64 0, Value.int IntKind.i64 0, Value.int IntKind.i64 0, Value.int IntKind.i64 0, Value.int IntKind.u64 0, Value.int IntKind.u64 0, Value.slice none 0 0, Value.bool false] 101)) w1.heap.size (.slice t0 T.length tc) 0 accZ false := Blk.made w1 #[Value.slice t0 T.length tc, Value.int IntKind.i64 0, Value.int IntKind.i64 0, Value.int IntKind.i64 0, Value.int IntKind.i64 0, Value.int IntKind.u64 0, Value.int IntKind.u64 0, Value.slice none 0 0, Value.bool false] _
  have b2 : Below w.heap.size w (w1.alloc (Obj.cells #[Value.slice t0 T.length tc, Value.int IntKind.i64 0, Value.int IntKind.i64 0, Value.int IntKind.i64 0, Value.int IntKind.i64 0, Value.int IntKind.u64 0, Value.int IntKind.u64 0, Value.slice none 0 0, Value.bool false] 101)) := b1.alloc (by omega) _
  rw [← z1]
  have y1 : w.heap.size < w1.heap.size := by omega
  clear z1
  refine (refPut_any w1.heap.size 0 (.slice t0 T.length tc) T b s typ s0 sl sc l _ htp2 (TOk.mk1 HT.out HS.out HTS.out hlen b2 (by omega)) (Nat.zero_le _) HU.out (HR.out.below b2) (fun h0 e => by have := HR.out.blk h0 _ e; omega) hb0 hb1 hs0 hs1 htyp).mono ?_
  rintro e w3 ⟨k3, rfl, ht3⟩
  obtain ⟨K, u0, ul, uc, htp3, hrd3⟩ := ht3.all
  rw [← HM.out] at htp3 hrd3 ⊢
  have z3 := k3.size
  rw [World.size_alloc] at z3
  have B3 := Lib.hid (b2.trans (k3.below (by simp; omega) (fun k h1 h2 => by omega)))
  have TP3 := Lib.hid htp3
  have RD3 := Lib.hid hrd3
  have HP3 := Lib.hid (HP.out.below B3.out)
  obtain ⟨tb, htb⟩ : ∃ tb, tb = w1.heap.size := ⟨_, rfl⟩
  rw [← htb] at TP3 ⊢
  have ltb := TP3.out.lt
  clear b1 b2 htp2 k3 ht3 htp3 hrd3 hw1 htb
  go_wp2_with fail
  refine (pNext_any w3 HP3.out).mono ?_
  rintro e w4 ⟨x0, xl, xc, rfl, hr4, b4⟩
  unfold AA.V
  dsimp only
  have z4 := b4.size
  have TP4 := Lib.hid (TP3.out.below b4 ltb)
  have RD4 := Lib.hid (RD3.out.below b4)
  have RX4 := Lib.hid hr4
  have HP4 := Lib.hid (HP3.out.below b4)
  have B4 := Lib.hid (B3.out.trans (b4.mono (by omega)))
  clear hr4 b4 TP3 RD3 HP3 B3
  go_wp2_with fail
  obtain ⟨w5, hw5⟩ : ∃ w5, w5 = w4.alloc (Obj.cells #[Value.int IntKind.i64 m.want.k, Value.int IntKind.i64 m.want.a, Value.int IntKind.i64 m.want.n, Value.int IntKind.u64 m.want.v, Value.int IntKind.u64 m.want.x, Value.slice x0 xl xc] 37) := ⟨_, rfl⟩
  have b5 : Below w4.heap.size w4 w5 := by rw [hw5]; exact (Below.refl _ _).alloc (Nat.le_refl _) _
  have HA5 := Lib.hid (show Blk w5 w4.heap.size [Value.int IntKind.i64 m.want.k, Value.int IntKind.i64 m.want.a, Value.int IntKind.i64 m.want.n, Value.int IntKind.u64 m.want.v, Value.int IntKind.u64 m.want.x, Value.slice x0 xl xc] by rw [hw5]; exact Blk.made w4 _ _)
  have z5 : w4.heap.size < w5.heap.size := by rw [hw5]; simp
  rw [← hw5]
  have TP5 := Lib.hid (TP4.out.below b5 (by omega))
  have RD5 := Lib.hid (RD4.out.below b5)
  have RX5 := Lib.hid (RX4.out.below b5)
  have HP5 := Lib.hid (HP4.out.below b5)
  have B5 := Lib.hid (B4.out.trans (b5.mono (by omega)))
  clear hw5 b5 TP4 RD4 RX4 HP4 B4
  refine (pAt_any w5 HP5.out.at_).mono ?_
  rintro e w6 ⟨rfl, b6⟩
  have z6 := b6.size
  have HA6 := Lib.hid (HA5.out.below b6 z5)
  have TP6 := Lib.hid (TP5.out.below b6 (by omega))
  have RD6 := Lib.hid (RD5.out.below b6)
  have RX6 := Lib.hid (RX5.out.below b6)
  have HP6 := Lib.hid (HP5.out.below b6)
  have B6 := Lib.hid (B5.out.trans (b6.mono (by omega)))
  clear b6 HA5 TP5 RD5 RX5 HP5 B5
  go_wp2_with fail
  refine (pResult_any w6 HP6.out.at_).mono ?_
  rintro e w7 ⟨rfl, b7⟩
  have z7 := b7.size
  have HA7 := Lib.hid (HA6.out.below b7 (by omega))
  have TP7 := Lib.hid (TP6.out.below b7 (by omega))
  have RD7 := Lib.hid (RD6.out.below b7)
  have RX7 := Lib.hid (RX6.out.below b7)
  have B7 := Lib.hid (B6.out.trans (b7.mono (by omega)))
  clear b7 HA6 TP6 RD6 RX6 HP6 B6
  obtain ⟨ca0, ca1, ca2, ca3, ca4, ca5⟩ := Blk.c6t (w := w7) HA7.out
  obtain ⟨-, -, ct2, ct3, ct4, ct5, ct6, ct7, ct8⟩ := Tp.cells (w := w7) TP7.out
  have la := HA7.out.lt
  have lt := TP7.out.lt
  obtain ⟨AB, hAB⟩ : ∃ AB, AB = w4.heap.size := ⟨_, rfl⟩
  rw [← hAB] at la ca0 ca1 ca2 ca3 ca4 ca5 ⊢
  generalize hL : m.live = L at *
  generalize hP : m.pos = P at *
  generalize hC : m.cl = CL at *
  have hrv : m.rv = if m.e = 0 then P else 0 := by unfold PutM.rv; rw [hP]
  generalize hV : m.rv = RV at *
  generalize hEE : m.e = EE at *
  have HRV := Lib.hid hrv
  clear hrv hAB
  by_cases he : EE = 0
  · have hRV : RV = P := by rw [HRV.out, if_pos he]
    subst hRV
    subst he
    go_upto_region 8 with fail
    refine wp_region_held_drew (S := (fun w' => w'.cell? ⟨AB, 0, none⟩ = some (.int .i64 m.want.k) ∧ w'.cell? ⟨AB, 1, none⟩ = some (.int .i64 m.want.a) ∧ w'.cell? ⟨AB, 2, none⟩ = some (.int .i64 m.want.n) ∧ w'.cell? ⟨AB, 3, none⟩ = some (.int .u64 m.want.v) ∧ w'.cell? ⟨AB, 4, none⟩ = some (.int .u64 m.want.x) ∧ w'.cell? ⟨AB, 5, none⟩ = some (.slice x0 xl xc) ∧ w'.cell? ⟨tb, 2, none⟩ = some (.int .i64 m.want.k) ∧ w'.cell? ⟨tb, 3, none⟩ = some (.int .i64 m.want.a) ∧ w'.cell? ⟨tb, 4, none⟩ = some (.int .i64 m.want.n) ∧ w'.cell? ⟨tb, 5, none⟩ = some (.int .u64 m.want.v) ∧ w'.cell? ⟨tb, 6, none⟩ = some (.int .u64 m.want.x) ∧ w'.cell? ⟨tb, 7, none⟩ = some (.slice u0 ul uc) ∧ w'.cell? ⟨tb, 8, none⟩ = some (.bool L))) (by kernel_rfl) ?_ (fun hHeld => ?_)
    · try dsimp only
      first | exact ⟨ca0, ca1, ca2, ca3, ca4, ca5, ct2, ct3, ct4, ct5, ct6, ct7, ct8⟩ | go_keep
    refine wpAnyH_take (i := 0) (v := ?_) rfl (by kernel_rfl) (by kernel_rfl) (by kernel_rfl) (fun _ _ _ h => h) (Or.inl ⟨by rfl, ?_⟩) (by assumption) ?_
    rotate_left
    · intro w0 hSw
      (try dsimp only at hSw)
      go_simp
      try with_reducible rfl
    simp only [Act.put, List.getElem_toArray, List.getElem_cons_zero, List.getElem_cons_succ, List.setIfInBounds_toArray, List.set_cons_zero, List.set_cons_succ]
    refine wpAnyH_take (i := 1) (v := ?_) rfl (by kernel_rfl) (by kernel_rfl) (by kernel_rfl) (fun _ _ _ h => h) (Or.inl ⟨by rfl, ?_⟩) (by assumption) ?_
    rotate_left
    · intro w0 hSw
      (try dsimp only at hSw)
      go_simp
      try with_reducible rfl
    simp only [Act.put, List.getElem_toArray, List.getElem_cons_zero, List.getElem_cons_succ, List.setIfInBounds_toArray, List.set_cons_zero, List.set_cons_succ]
    refine wpAnyH_take (i := 2) (v := ?_) rfl (by kernel_rfl) (by kernel_rfl) (by kernel_rfl) (fun _ _ _ h => h) (Or.inl ⟨by rfl, ?_⟩) (by assumption) ?_
    rotate_left
    · intro w0 hSw
      (try dsimp only at hSw)
      go_simp
      try with_reducible rfl
    simp only [Act.put, List.getElem_toArray, List.getElem_cons_zero, List.getElem_cons_succ, List.setIfInBounds_toArray, List.set_cons_zero, List.set_cons_succ]
    refine wpAnyH_take (i := 3) (v := ?_) rfl (by kernel_rfl) (by kernel_rfl) (by kernel_rfl) (fun _ _ _ h => h) (Or.inl ⟨by rfl, ?_⟩) (by assumption) ?_
    rotate_left
    · intro w0 hSw
      (try dsimp only at hSw)
      go_simp
      try with_reducible rfl
    simp only [Act.put, List.getElem_toArray, List.getElem_cons_zero, List.getElem_cons_succ, List.setIfInBounds_toArray, List.set_cons_zero, List.set_cons_succ]
    refine wpAnyH_take (i := 4) (v := ?_) rfl (by kernel_rfl) (by kernel_rfl) (by kernel_rfl) (fun _ _ _ h => h) (Or.inl ⟨by rfl, ?_⟩) (by assumption) ?_
    rotate_left
    · intro w0 hSw
      (try dsimp only at hSw)
      go_simp
      try with_reducible rfl
    simp only [Act.put, List.getElem_toArray, List.getElem_cons_zero, List.getElem_cons_succ, List.setIfInBounds_toArray, List.set_cons_zero, List.set_cons_succ]
    refine wpAnyH_take (i := 5) (v := ?_) rfl (by kernel_rfl) (by kernel_rfl) (by kernel_rfl) (fun _ _ _ h => h) (Or.inl ⟨by rfl, ?_⟩) (by assumption) ?_
    rotate_left
    · intro w0 hSw
      (try dsimp only at hSw)
      go_simp
      try with_reducible rfl
    simp only [Act.put, List.getElem_toArray, List.getElem_cons_zero, List.getElem_cons_succ, List.setIfInBounds_toArray, List.set_cons_zero, List.set_cons_succ]
    refine wpAnyH_take (i := 6) (v := ?_) rfl (by kernel_rfl) (by kernel_rfl) (by kernel_rfl) (fun _ _ _ h => h) (Or.inl ⟨by rfl, ?_⟩) (by assumption) ?_
    rotate_left
    · intro w0 hSw
      (try dsimp only at hSw)
      go_simp
      try with_reducible rfl
    simp only [Act.put, List.getElem_toArray, List.getElem_cons_zero, List.getElem_cons_succ, List.setIfInBounds_toArray, List.set_cons_zero, List.set_cons_succ]
    refine wpAnyH_take (i := 7) (v := ?_) rfl (by kernel_rfl) (by kernel_rfl) (by kernel_rfl) (fun _ _ _ h => h) (Or.inl ⟨by rfl, ?_⟩) (by assumption) ?_
    rotate_left
    · intro w0 hSw
      (try dsimp only at hSw)
      go_simp
      try with_reducible rfl
    simp only [Act.put, List.getElem_toArray, List.getElem_cons_zero, List.getElem_cons_succ, List.setIfInBounds_toArray, List.set_cons_zero, List.set_cons_succ]
    refine wpAnyH_take (i := 8) (v := ?_) rfl (by kernel_rfl) (by kernel_rfl) (by kernel_rfl) (fun _ _ _ h => h) (Or.inl ⟨by rfl, ?_⟩) (by assumption) ?_
    rotate_left
    · intro w0 hSw
      (try dsimp only at hSw)
      go_simp
      try with_reducible rfl
    simp only [Act.put, List.getElem_toArray, List.getElem_cons_zero, List.getElem_cons_succ, List.setIfInBounds_toArray, List.set_cons_zero, List.set_cons_succ]
    refine wpAnyH_take (i := 9) (v := ?_) rfl (by kernel_rfl) (by kernel_rfl) (by kernel_rfl) (fun _ _ _ h => h) (Or.inl ⟨by rfl, ?_⟩) (by assumption) ?_
    rotate_left
    · intro w0 hSw
      (try dsimp only at hSw)
      go_simp
      try with_reducible rfl
    simp only [Act.put, List.getElem_toArray, List.getElem_cons_zero, List.getElem_cons_succ, List.setIfInBounds_toArray, List.set_cons_zero, List.set_cons_succ]
    refine wpAnyH_take (i := 10) (v := ?_) rfl (by kernel_rfl) (by kernel_rfl) (by kernel_rfl) (fun _ _ _ h => h) (Or.inl ⟨by rfl, ?_⟩) (by assumption) ?_
    rotate_left
    · intro w0 hSw
      (try dsimp only at hSw)
      go_simp
      try with_reducible rfl
    simp only [Act.put, List.getElem_toArray, List.getElem_cons_zero, List.getElem_cons_succ, List.setIfInBounds_toArray, List.set_cons_zero, List.set_cons_succ]
    refine wpAnyH_take (i := 11) (v := ?_) rfl (by kernel_rfl) (by kernel_rfl) (by kernel_rfl) (fun _ _ _ h => h) (Or.inl ⟨by rfl, ?_⟩) (by assumption) ?_
    rotate_left
    · intro w0 hSw
      (try dsimp only at hSw)
      go_simp
      try with_reducible rfl
    simp only [Act.put, List.getElem_toArray, List.getElem_cons_zero, List.getElem_cons_succ, List.setIfInBounds_toArray, List.set_cons_zero, List.set_cons_succ]
    refine wpAnyH_ready (rs := [12]) (by kernel_rfl) (by simp) ?_
    refine AllReadyH.cons rfl (fun K hK => ?_) AllReadyH.nil
    go_simp
    go_at_call 47
    refine (sameAcc_true m.want.k m.want.a m.want.n m.want.v m.want.x _ _ _ _ _ _ m.want.b _ (RdB.drewN 1 RX7.out) (RdB.drewN 1 RD7.out)).mono ?_
    rintro r w8 ⟨rfl, b8⟩
    have ha8 := fun o => b8.cell (p := ⟨AB, o, none⟩) (by simpa using la)
    have ht8 := fun o => b8.cell (p := ⟨tb, o, none⟩) (by simpa using lt)
    go_wp2_with fail
    refine hK.out _ _ ?_ (fun hHeld => ?_)
    · try dsimp only
      first | exact ⟨ca0, ca1, ca2, ca3, ca4, ca5, ct2, ct3, ct4, ct5, ct6, ct7, ct8⟩ | go_keep
    clear hK K
    try simp only [Act.put, List.getElem_toArray, List.getElem_cons_zero, List.getElem_cons_succ, List.setIfInBounds_toArray, List.set_cons_zero, List.set_cons_succ]
    refine wpAnyH_take (i := 13) (v := ?_) rfl (by kernel_rfl) (by kernel_rfl) (by kernel_rfl) (fun _ _ _ h => h) (Or.inl ⟨by rfl, ?_⟩) (by assumption) ?_
    rotate_left
    · intro w0 hSw
      (try dsimp only at hSw)
      go_simp
      try with_reducible rfl
    simp only [Act.put, List.getElem_toArray, List.getElem_cons_zero, List.getElem_cons_succ, List.setIfInBounds_toArray, List.set_cons_zero, List.set_cons_succ]
    refine wpAnyH_take (i := 14) (v := ?_) rfl (by kernel_rfl) (by kernel_rfl) (by kernel_rfl) (fun _ _ _ h => h) (Or.inl ⟨by rfl, ?_⟩) (by assumption) ?_
    rotate_left
    · intro w0 hSw
      (try dsimp only at hSw)
      go_simp
      try with_reducible rfl
    simp only [Act.put, List.getElem_toArray, List.getElem_cons_zero, List.getElem_cons_succ, List.setIfInBounds_toArray, List.set_cons_zero, List.set_cons_succ]
    refine wpAnyH_take (i := 15) (v := ?_) rfl (by kernel_rfl) (by kernel_rfl) (by kernel_rfl) (fun _ _ _ h => h) (Or.inl ⟨by rfl, ?_⟩) (by assumption) ?_
    rotate_left
    · intro w0 hSw
      (try dsimp only at hSw)
      go_simp
      try with_reducible rfl
    simp only [Act.put, List.getElem_toArray, List.getElem_cons_zero, List.getElem_cons_succ, List.setIfInBounds_toArray, List.set_cons_zero, List.set_cons_succ]
    refine wpAnyH_take (i := 16) (v := ?_) rfl (by kernel_rfl) (by kernel_rfl) (by kernel_rfl) (fun _ _ _ h => h) (Or.inl ⟨by rfl, ?_⟩) (by assumption) ?_
    rotate_left
    · intro w0 hSw
      (try dsimp only at hSw)
      go_simp
      try with_reducible rfl
    simp only [Act.put, List.getElem_toArray, List.getElem_cons_zero, List.getElem_cons_succ, List.setIfInBounds_toArray, List.set_cons_zero, List.set_cons_succ]
    refine wpAnyH_take (i := 17) (v := ?_) rfl (by kernel_rfl) (by kernel_rfl) (by kernel_rfl) (fun _ _ _ h => h) (Or.inl ⟨by rfl, ?_⟩) (by assumption) ?_
    rotate_left
    · intro w0 hSw
      (try dsimp only at hSw)
      go_simp
      try with_reducible rfl
    simp only [Act.put, List.getElem_toArray, List.getElem_cons_zero, List.getElem_cons_succ, List.setIfInBounds_toArray, List.set_cons_zero, List.set_cons_succ]
    refine wpAnyH_take (i := 18) (v := ?_) rfl (by kernel_rfl) (by kernel_rfl) (by kernel_rfl) (fun _ _ _ h => h) (Or.inl ⟨by rfl, ?_⟩) (by assumption) ?_
    rotate_left
    · intro w0 hSw
      (try dsimp only at hSw)
      go_simp
      try with_reducible rfl
    simp only [Act.put, List.getElem_toArray, List.getElem_cons_zero, List.getElem_cons_succ, List.setIfInBounds_toArray, List.set_cons_zero, List.set_cons_succ]
    refine wpAnyH_take (i := 19) (v := ?_) rfl (by kernel_rfl) (by kernel_rfl) (by kernel_rfl) (fun _ _ _ h => h) (Or.inl ⟨by rfl, ?_⟩) (by assumption) ?_
    rotate_left
    · intro w0 hSw
      (try dsimp only at hSw)
      go_simp
      try with_reducible rfl
    simp only [Act.put, List.getElem_toArray, List.getElem_cons_zero, List.getElem_cons_succ, List.setIfInBounds_toArray, List.set_cons_zero, List.set_cons_succ]
    refine wpAnyH_take (i := 20) (v := ?_) rfl (by kernel_rfl) (by kernel_rfl) (by kernel_rfl) (fun _ _ _ h => h) (Or.inl ⟨by rfl, ?_⟩) (by assumption) ?_
    rotate_left
    · intro w0 hSw
      (try dsimp only at hSw)
      go_simp
      try with_reducible rfl
    simp only [Act.put, List.getElem_toArray, List.getElem_cons_zero, List.getElem_cons_succ, List.setIfInBounds_toArray, List.set_cons_zero, List.set_cons_succ]
    refine wpAnyH_take (i := 21) (v := ?_) rfl (by kernel_rfl) (by kernel_rfl) (by kernel_rfl) (fun _ _ _ h => h) (Or.inl ⟨by rfl, ?_⟩) (by assumption) ?_
    rotate_left
    · intro w0 hSw
      (try dsimp only at hSw)
      go_simp
      try with_reducible rfl
    simp only [Act.put, List.getElem_toArray, List.getElem_cons_zero, List.getElem_cons_succ, List.setIfInBounds_toArray, List.set_cons_zero, List.set_cons_succ]
    refine wpAnyH_take (i := 22) (v := ?_) rfl (by kernel_rfl) (by kernel_rfl) (by kernel_rfl) (fun _ _ _ h => h) (Or.inl ⟨by rfl, ?_⟩) (by assumption) ?_
    rotate_left
    · intro w0 hSw
      (try dsimp only at hSw)
      go_simp
      try with_reducible rfl
    simp only [Act.put, List.getElem_toArray, List.getElem_cons_zero, List.getElem_cons_succ, List.setIfInBounds_toArray, List.set_cons_zero, List.set_cons_succ]
    refine wpAnyH_take (i := 23) (v := ?_) rfl (by kernel_rfl) (by kernel_rfl) (by kernel_rfl) (fun _ _ _ h => h) (Or.inl ⟨by rfl, ?_⟩) (by assumption) ?_
    rotate_left
    · intro w0 hSw
      (try dsimp only at hSw)
      go_simp
      try with_reducible rfl
    simp only [Act.put, List.getElem_toArray, List.getElem_cons_zero, List.getElem_cons_succ, List.setIfInBounds_toArray, List.set_cons_zero, List.set_cons_succ]
    refine wpAnyH_take (i := 24) (v := ?_) rfl (by kernel_rfl) (by kernel_rfl) (by kernel_rfl) (fun _ _ _ h => h) (Or.inl ⟨by rfl, ?_⟩) (by assumption) ?_
    rotate_left
    · intro w0 hSw
      (try dsimp only at hSw)
      go_simp
      try with_reducible rfl
    simp only [Act.put, List.getElem_toArray, List.getElem_cons_zero, List.getElem_cons_succ, List.setIfInBounds_toArray, List.set_cons_zero, List.set_cons_succ]
    refine wpAnyH_take (i := 25) (v := ?_) rfl (by kernel_rfl) (by kernel_rfl) (by kernel_rfl) (fun _ _ _ h => h) (Or.inl ⟨by rfl, ?_⟩) (by assumption) ?_
    rotate_left
    · intro w0 hSw
      (try dsimp only at hSw)
      go_simp
      try with_reducible rfl
    simp only [Act.put, List.getElem_toArray, List.getElem_cons_zero, List.getElem_cons_succ, List.setIfInBounds_toArray, List.set_cons_zero, List.set_cons_succ]
    refine wpAnyH_take (i := 26) (v := ?_) rfl (by kernel_rfl) (by kernel_rfl) (by kernel_rfl) (fun _ _ _ h => h) (Or.inl ⟨by rfl, ?_⟩) (by assumption) ?_
    rotate_left
    · intro w0 hSw
      (try dsimp only at hSw)
      go_simp
      try with_reducible rfl
    simp only [Act.put, List.getElem_toArray, List.getElem_cons_zero, List.getElem_cons_succ, List.setIfInBounds_toArray, List.set_cons_zero, List.set_cons_succ]
    refine wpAnyH_take (i := 27) (v := ?_) rfl (by kernel_rfl) (by kernel_rfl) (by kernel_rfl) (fun _ _ _ h => h) (Or.inl ⟨by rfl, ?_⟩) (by assumption) ?_
    rotate_left
    · intro w0 hSw
      (try dsimp only at hSw)
      go_simp
      try with_reducible rfl
    simp only [Act.put, List.getElem_toArray, List.getElem_cons_zero, List.getElem_cons_succ, List.setIfInBounds_toArray, List.set_cons_zero, List.set_cons_succ]
    refine wpAnyH_take (i := 28) (v := ?_) rfl (by kernel_rfl) (by kernel_rfl) (by kernel_rfl) (fun _ _ _ h => h) (Or.inl ⟨by rfl, ?_⟩) (by assumption) ?_
    rotate_left
    · intro w0 hSw
      (try dsimp only at hSw)
      go_simp
      try with_reducible rfl
    simp only [Act.put, List.getElem_toArray, List.getElem_cons_zero, List.getElem_cons_succ, List.setIfInBounds_toArray, List.set_cons_zero, List.set_cons_succ]
    refine wpAnyH_take (i := 29) (v := ?_) rfl (by kernel_rfl) (by kernel_rfl) (by kernel_rfl) (fun _ _ _ h => h) (Or.inl ⟨by rfl, ?_⟩) (by assumption) ?_
    rotate_left
    · intro w0 hSw
      (try dsimp only at hSw)
      go_simp
      try with_reducible rfl
    simp only [Act.put, List.getElem_toArray, List.getElem_cons_zero, List.getElem_cons_succ, List.setIfInBounds_toArray, List.set_cons_zero, List.set_cons_succ]
    refine wpAnyH_take (i := 30) (v := ?_) rfl (by kernel_rfl) (by kernel_rfl) (by kernel_rfl) (fun _ _ _ h => h) (Or.inl ⟨by rfl, ?_⟩) (by assumption) ?_
    rotate_left
    · intro w0 hSw
      (try dsimp only at hSw)
      go_simp
      try with_reducible rfl
    simp only [Act.put, List.getElem_toArray, List.getElem_cons_zero, List.getElem_cons_succ, List.setIfInBounds_toArray, List.set_cons_zero, List.set_cons_succ]
    refine wpAnyH_take (i := 31) (v := ?_) rfl (by kernel_rfl) (by kernel_rfl) (by kernel_rfl) (fun _ _ _ h => h) (Or.inl ⟨by rfl, ?_⟩) (by assumption) ?_
    rotate_left
    · intro w0 hSw
      (try dsimp only at hSw)
      go_simp
      try with_reducible rfl
    simp only [Act.put, List.getElem_toArray, List.getElem_cons_zero, List.getElem_cons_succ, List.setIfInBounds_toArray, List.set_cons_zero, List.set_cons_succ]
    refine wpAnyH_take (i := 32) (v := ?_) rfl (by kernel_rfl) (by kernel_rfl) (by kernel_rfl) (fun _ _ _ h => h) (Or.inl ⟨by rfl, ?_⟩) (by assumption) ?_
    rotate_left
    · intro w0 hSw
      (try dsimp only at hSw)
      go_simp
      try with_reducible rfl
    simp only [Act.put, List.getElem_toArray, List.getElem_cons_zero, List.getElem_cons_succ, List.setIfInBounds_toArray, List.set_cons_zero, List.set_cons_succ]
    refine wpAnyH_take (i := 33) (v := ?_) rfl (by kernel_rfl) (by kernel_rfl) (by kernel_rfl) (fun _ _ _ h => h) (Or.inl ⟨by rfl, ?_⟩) (by assumption) ?_
    rotate_left
    · intro w0 hSw
      (try dsimp only at hSw)
      go_simp
      try with_reducible rfl
    simp only [Act.put, List.getElem_toArray, List.getElem_cons_zero, List.getElem_cons_succ, List.setIfInBounds_toArray, List.set_cons_zero, List.set_cons_succ]
    refine wpAnyH_take (i := 34) (v := ?_) rfl (by kernel_rfl) (by kernel_rfl) (by kernel_rfl) (fun _ _ _ h => h) (Or.inl ⟨by rfl, ?_⟩) (by assumption) ?_
    rotate_left
    · intro w0 hSw
      (try dsimp only at hSw)
      go_simp
      try with_reducible rfl
    simp only [Act.put, List.getElem_toArray, List.getElem_cons_zero, List.getElem_cons_succ, List.setIfInBounds_toArray, List.set_cons_zero, List.set_cons_succ]
    refine wpAnyH_take (i := 35) (v := ?_) rfl (by kernel_rfl) (by kernel_rfl) (by kernel_rfl) (fun _ _ _ h => h) (Or.inl ⟨by rfl, ?_⟩) (by assumption) ?_
    rotate_left
    · intro w0 hSw
      (try dsimp only at hSw)
      go_simp
      try with_reducible rfl
    simp only [Act.put, List.getElem_toArray, List.getElem_cons_zero, List.getElem_cons_succ, List.setIfInBounds_toArray, List.set_cons_zero, List.set_cons_succ]
    refine wpAnyH_take (i := 36) (v := ?_) rfl (by kernel_rfl) (by kernel_rfl) (by kernel_rfl) (fun _ _ _ h => h) (Or.inl ⟨by rfl, ?_⟩) (by assumption) ?_
    rotate_left
    · intro w0 hSw
      (try dsimp only at hSw)
      go_simp
      try with_reducible rfl
    simp only [Act.put, List.getElem_toArray, List.getElem_cons_zero, List.getElem_cons_succ, List.setIfInBounds_toArray, List.set_cons_zero, List.set_cons_succ]
    refine wpAnyH_take (i := 37) (v := ?_) rfl (by kernel_rfl) (by kernel_rfl) (by kernel_rfl) (fun _ _ _ h => h) (Or.inl ⟨by rfl, ?_⟩) (by assumption) ?_
    rotate_left
    · intro w0 hSw
      (try dsimp only at hSw)
      go_simp
      try with_reducible rfl
    simp only [Act.put, List.getElem_toArray, List.getElem_cons_zero, List.getElem_cons_succ, List.setIfInBounds_toArray, List.set_cons_zero, List.set_cons_succ]
    refine wpAnyH_take (i := 38) (v := ?_) rfl (by kernel_rfl) (by kernel_rfl) (by kernel_rfl) (fun _ _ _ h => h) (Or.inl ⟨by rfl, ?_⟩) (by assumption) ?_
    rotate_left
    · intro w0 hSw
      (try dsimp only at hSw)
      go_simp
      try with_reducible rfl
    simp only [Act.put, List.getElem_toArray, List.getElem_cons_zero, List.getElem_cons_succ, List.setIfInBounds_toArray, List.set_cons_zero, List.set_cons_succ]
    refine wpAnyH_done (by kernel_rfl) ?_ _
    go_wp2
    go_ret
    exact ⟨rfl, B7.out.trans (((bel_drewN 1 (Below.refl w7.heap.size w7)).trans b8).mono (by omega))⟩
  · have hRV : RV = 0 := by rw [HRV.out, if_neg he]
    subst hRV
    have he' : (EE != 0) = true := by simpa using he
    go_upto_region 8 with fail
    refine wp_region_held_drew (S := (fun w' => w'.cell? ⟨AB, 0, none⟩ = some (.int .i64 m.want.k) ∧ w'.cell? ⟨AB, 1, none⟩ = some (.int .i64 m.want.a) ∧ w'.cell? ⟨AB, 2, none⟩ = some (.int .i64 m.want.n) ∧ w'.cell? ⟨AB, 3, none⟩ = some (.int .u64 m.want.v) ∧ w'.cell? ⟨AB, 4, none⟩ = some (.int .u64 m.want.x) ∧ w'.cell? ⟨AB, 5, none⟩ = some (.slice x0 xl xc) ∧ w'.cell? ⟨tb, 2, none⟩ = some (.int .i64 m.want.k) ∧ w'.cell? ⟨tb, 3, none⟩ = some (.int .i64 m.want.a) ∧ w'.cell? ⟨tb, 4, none⟩ = some (.int .i64 m.want.n) ∧ w'.cell? ⟨tb, 5, none⟩ = some (.int .u64 m.want.v) ∧ w'.cell? ⟨tb, 6, none⟩ = some (.int .u64 m.want.x) ∧ w'.cell? ⟨tb, 7, none⟩ = some (.slice u0 ul uc) ∧ w'.cell? ⟨tb, 8, none⟩ = some (.bool L))) (by kernel_rfl) ?_ (fun hHeld => ?_)
    · try dsimp only
      first | exact ⟨ca0, ca1, ca2, ca3, ca4, ca5, ct2, ct3, ct4, ct5, ct6, ct7, ct8⟩ | go_keep
    refine wpAnyH_take (i := 0) (v := ?_) rfl (by kernel_rfl) (by kernel_rfl) (by kernel_rfl) (fun _ _ _ h => h) (Or.inl ⟨by rfl, ?_⟩) (by assumption) ?_
    rotate_left
    · intro w0 hSw
      (try dsimp only at hSw)
      go_simp
      try with_reducible rfl
    simp only [Act.put, List.getElem_toArray, List.getElem_cons_zero, List.getElem_cons_succ, List.setIfInBounds_toArray, List.set_cons_zero, List.set_cons_succ]
    refine wpAnyH_take (i := 1) (v := ?_) rfl (by kernel_rfl) (by kernel_rfl) (by kernel_rfl) (fun _ _ _ h => h) (Or.inl ⟨by rfl, ?_⟩) (by assumption) ?_
    rotate_left
    · intro w0 hSw
      (try dsimp only at hSw)
      go_simp
      try with_reducible rfl
    simp only [Act.put, List.getElem_toArray, List.getElem_cons_zero, List.getElem_cons_succ, List.setIfInBounds_toArray, List.set_cons_zero, List.set_cons_succ]
    refine wpAnyH_take (i := 2) (v := ?_) rfl (by kernel_rfl) (by kernel_rfl) (by kernel_rfl) (fun _ _ _ h => h) (Or.inl ⟨by rfl, ?_⟩) (by assumption) ?_
    rotate_left
    · intro w0 hSw
      (try dsimp only at hSw)
      go_simp
      try with_reducible rfl
    simp only [Act.put, List.getElem_toArray, List.getElem_cons_zero, List.getElem_cons_succ, List.setIfInBounds_toArray, List.set_cons_zero, List.set_cons_succ]
    refine wpAnyH_take (i := 3) (v := ?_) rfl (by kernel_rfl) (by kernel_rfl) (by kernel_rfl) (fun _ _ _ h => h) (Or.inl ⟨by rfl, ?_⟩) (by assumption) ?_
    rotate_left
    · intro w0 hSw
      (try dsimp only at hSw)
      go_simp
      try with_reducible rfl
    simp only [Act.put, List.getElem_toArray, List.getElem_cons_zero, List.getElem_cons_succ, List.setIfInBounds_toArray, List.set_cons_zero, List.set_cons_succ]
    refine wpAnyH_take (i := 4) (v := ?_) rfl (by kernel_rfl) (by kernel_rfl) (by kernel_rfl) (fun _ _ _ h => h) (Or.inl ⟨by rfl, ?_⟩) (by assumption) ?_
    rotate_left
    · intro w0 hSw
      (try dsimp only at hSw)
      go_simp
      try with_reducible rfl
    simp only [Act.put, List.getElem_toArray, List.getElem_cons_zero, List.getElem_cons_succ, List.setIfInBounds_toArray, List.set_cons_zero, List.set_cons_succ]
    refine wpAnyH_take (i := 5) (v := ?_) rfl (by kernel_rfl) (by kernel_rfl) (by kernel_rfl) (fun _ _ _ h => h) (Or.inl ⟨by rfl, ?_⟩) (by assumption) ?_
    rotate_left
    · intro w0 hSw
      (try dsimp only at hSw)
      go_simp
      try with_reducible rfl
    simp only [Act.put, List.getElem_toArray, List.getElem_cons_zero, List.getElem_cons_succ, List.setIfInBounds_toArray, List.set_cons_zero, List.set_cons_succ]
    refine wpAnyH_take (i := 6) (v := ?_) rfl (by kernel_rfl) (by kernel_rfl) (by kernel_rfl) (fun _ _ _ h => h) (Or.inl ⟨by rfl, ?_⟩) (by assumption) ?_
    rotate_left
    · intro w0 hSw
      (try dsimp only at hSw)
      go_simp
      try with_reducible rfl
    simp only [Act.put, List.getElem_toArray, List.getElem_cons_zero, List.getElem_cons_succ, List.setIfInBounds_toArray, List.set_cons_zero, List.set_cons_succ]
    refine wpAnyH_take (i := 7) (v := ?_) rfl (by kernel_rfl) (by kernel_rfl) (by kernel_rfl) (fun _ _ _ h => h) (Or.inl ⟨by rfl, ?_⟩) (by assumption) ?_
    rotate_left
    · intro w0 hSw
      (try dsimp only at hSw)
      go_simp
      try with_reducible rfl
    simp only [Act.put, List.getElem_toArray, List.getElem_cons_zero, List.getElem_cons_succ, List.setIfInBounds_toArray, List.set_cons_zero, List.set_cons_succ]
    refine wpAnyH_take (i := 8) (v := ?_) rfl (by kernel_rfl) (by kernel_rfl) (by kernel_rfl) (fun _ _ _ h => h) (Or.inl ⟨by rfl, ?_⟩) (by assumption) ?_
    rotate_left
    · intro w0 hSw
      (try dsimp only at hSw)
      go_simp
      try with_reducible rfl
    simp only [Act.put, List.getElem_toArray, List.getElem_cons_zero, List.getElem_cons_succ, List.setIfInBounds_toArray, List.set_cons_zero, List.set_cons_succ]
    refine wpAnyH_take (i := 9) (v := ?_) rfl (by kernel_rfl) (by kernel_rfl) (by kernel_rfl) (fun _ _ _ h => h) (Or.inl ⟨by rfl, ?_⟩) (by assumption) ?_
    rotate_left
    · intro w0 hSw
      (try dsimp only at hSw)
      go_simp
      try with_reducible rfl
    simp only [Act.put, List.getElem_toArray, List.getElem_cons_zero, List.getElem_cons_succ, List.setIfInBounds_toArray, List.set_cons_zero, List.set_cons_succ]
    refine wpAnyH_take (i := 10) (v := ?_) rfl (by kernel_rfl) (by kernel_rfl) (by kernel_rfl) (fun _ _ _ h => h) (Or.inl ⟨by rfl, ?_⟩) (by assumption) ?_
    rotate_left
    · intro w0 hSw
      (try dsimp only at hSw)
      go_simp
      try with_reducible rfl
    simp only [Act.put, List.getElem_toArray, List.getElem_cons_zero, List.getElem_cons_succ, List.setIfInBounds_toArray, List.set_cons_zero, List.set_cons_succ]
    refine wpAnyH_take (i := 11) (v := ?_) rfl (by kernel_rfl) (by kernel_rfl) (by kernel_rfl) (fun _ _ _ h => h) (Or.inl ⟨by rfl, ?_⟩) (by assumption) ?_
    rotate_left
    · intro w0 hSw
      (try dsimp only at hSw)
      go_simp
      try with_reducible rfl
    simp only [Act.put, List.getElem_toArray, List.getElem_cons_zero, List.getElem_cons_succ, List.setIfInBounds_toArray, List.set_cons_zero, List.set_cons_succ]
    refine wpAnyH_ready (rs := [12]) (by kernel_rfl) (by simp) ?_
    refine AllReadyH.cons rfl (fun K hK => ?_) AllReadyH.nil
    go_simp
    go_at_call 47
    refine (sameAcc_true m.want.k m.want.a m.want.n m.want.v m.want.x _ _ _ _ _ _ m.want.b _ (RdB.drewN 1 RX7.out) (RdB.drewN 1 RD7.out)).mono ?_
    rintro r w8 ⟨rfl, b8⟩
    have ha8 := fun o => b8.cell (p := ⟨AB, o, none⟩) (by simpa using la)
    have ht8 := fun o => b8.cell (p := ⟨tb, o, none⟩) (by simpa using lt)
    go_wp2_with fail
    refine hK.out _ _ ?_ (fun hHeld => ?_)
    · try dsimp only
      first | exact ⟨ca0, ca1, ca2, ca3, ca4, ca5, ct2, ct3, ct4, ct5, ct6, ct7, ct8⟩ | go_keep
    clear hK K
    try simp only [Act.put, List.getElem_toArray, List.getElem_cons_zero, List.getElem_cons_succ, List.setIfInBounds_toArray, List.set_cons_zero, List.set_cons_succ]
    refine wpAnyH_take (i := 13) (v := ?_) rfl (by kernel_rfl) (by kernel_rfl) (by kernel_rfl) (fun _ _ _ h => h) (Or.inl ⟨by rfl, ?_⟩) (by assumption) ?_
    rotate_left
    · intro w0 hSw
      (try dsimp only at hSw)
      go_simp
      try with_reducible rfl
    simp only [Act.put, List.getElem_toArray, List.getElem_cons_zero, List.getElem_cons_succ, List.setIfInBounds_toArray, List.set_cons_zero, List.set_cons_succ]
    refine wpAnyH_take (i := 14) (v := ?_) rfl (by kernel_rfl) (by kernel_rfl) (by kernel_rfl) (fun _ _ _ h => h) (Or.inl ⟨by rfl, ?_⟩) (by assumption) ?_
    rotate_left
    · intro w0 hSw
      (try dsimp only at hSw)
      go_simp
      try with_reducible rfl
    simp only [Act.put, List.getElem_toArray, List.getElem_cons_zero, List.getElem_cons_succ, List.setIfInBounds_toArray, List.set_cons_zero, List.set_cons_succ]
    refine wpAnyH_take (i := 15) (v := ?_) rfl (by kernel_rfl) (by kernel_rfl) (by kernel_rfl) (fun _ _ _ h => h) (Or.inl ⟨by rfl, ?_⟩) (by assumption) ?_
    rotate_left
    · intro w0 hSw
      (try dsimp only at hSw)
      go_simp
      try with_reducible rfl
    simp only [Act.put, List.getElem_toArray, List.getElem_cons_zero, List.getElem_cons_succ, List.setIfInBounds_toArray, List.set_cons_zero, List.set_cons_succ]
    refine wpAnyH_take (i := 16) (v := ?_) rfl (by kernel_rfl) (by kernel_rfl) (by kernel_rfl) (fun _ _ _ h => h) (Or.inl ⟨by rfl, ?_⟩) (by assumption) ?_
    rotate_left
    · intro w0 hSw
      (try dsimp only at hSw)
      go_simp
      try with_reducible rfl
    simp only [Act.put, List.getElem_toArray, List.getElem_cons_zero, List.getElem_cons_succ, List.setIfInBounds_toArray, List.set_cons_zero, List.set_cons_succ]
    refine wpAnyH_take (i := 17) (v := ?_) rfl (by kernel_rfl) (by kernel_rfl) (by kernel_rfl) (fun _ _ _ h => h) (Or.inl ⟨by rfl, ?_⟩) (by assumption) ?_
    rotate_left
    · intro w0 hSw
      (try dsimp only at hSw)
      go_simp
      try with_reducible rfl
    simp only [Act.put, List.getElem_toArray, List.getElem_cons_zero, List.getElem_cons_succ, List.setIfInBounds_toArray, List.set_cons_zero, List.set_cons_succ]
    refine wpAnyH_take (i := 18) (v := ?_) rfl (by kernel_rfl) (by kernel_rfl) (by kernel_rfl) (fun _ _ _ h => h) (Or.inl ⟨by rfl, ?_⟩) (by assumption) ?_
    rotate_left
    · intro w0 hSw
      (try dsimp only at hSw)
      go_simp
      try with_reducible rfl
    simp only [Act.put, List.getElem_toArray, List.getElem_cons_zero, List.getElem_cons_succ, List.setIfInBounds_toArray, List.set_cons_zero, List.set_cons_succ]
    refine wpAnyH_take (i := 19) (v := ?_) rfl (by kernel_rfl) (by kernel_rfl) (by kernel_rfl) (fun _ _ _ h => h) (Or.inl ⟨by rfl, ?_⟩) (by assumption) ?_
    rotate_left
    · intro w0 hSw
      (try dsimp only at hSw)
      go_simp
      try with_reducible rfl
    simp only [Act.put, List.getElem_toArray, List.getElem_cons_zero, List.getElem_cons_succ, List.setIfInBounds_toArray, List.set_cons_zero, List.set_cons_succ]
    refine wpAnyH_take (i := 20) (v := ?_) rfl (by kernel_rfl) (by kernel_rfl) (by kernel_rfl) (fun _ _ _ h => h) (Or.inl ⟨by rfl, ?_⟩) (by assumption) ?_
    rotate_left
    · intro w0 hSw
      (try dsimp only at hSw)
      go_simp
      try with_reducible rfl
    simp only [Act.put, List.getElem_toArray, List.getElem_cons_zero, List.getElem_cons_succ, List.setIfInBounds_toArray, List.set_cons_zero, List.set_cons_succ]
    refine wpAnyH_take (i := 21) (v := ?_) rfl (by kernel_rfl) (by kernel_rfl) (by kernel_rfl) (fun _ _ _ h => h) (Or.inl ⟨by rfl, ?_⟩) (by assumption) ?_
    rotate_left
    · intro w0 hSw
      (try dsimp only at hSw)
      go_simp
      try with_reducible rfl
    simp only [Act.put, List.getElem_toArray, List.getElem_cons_zero, List.getElem_cons_succ, List.setIfInBounds_toArray, List.set_cons_zero, List.set_cons_succ]
    refine wpAnyH_take (i := 22) (v := ?_) rfl (by kernel_rfl) (by kernel_rfl) (by kernel_rfl) (fun _ _ _ h => h) (Or.inl ⟨by rfl, ?_⟩) (by assumption) ?_
    rotate_left
    · intro w0 hSw
      (try dsimp only at hSw)
      go_simp
      try with_reducible rfl
    simp only [Act.put, List.getElem_toArray, List.getElem_cons_zero, List.getElem_cons_succ, List.setIfInBounds_toArray, List.set_cons_zero, List.set_cons_succ]
    refine wpAnyH_take (i := 23) (v := ?_) rfl (by kernel_rfl) (by kernel_rfl) (by kernel_rfl) (fun _ _ _ h => h) (Or.inl ⟨by rfl, ?_⟩) (by assumption) ?_
    rotate_left
    · intro w0 hSw
      (try dsimp only at hSw)
      go_simp
      try with_reducible rfl
    simp only [Act.put, List.getElem_toArray, List.getElem_cons_zero, List.getElem_cons_succ, List.setIfInBounds_toArray, List.set_cons_zero, List.set_cons_succ]
    refine wpAnyH_take (i := 24) (v := ?_) rfl (by kernel_rfl) (by kernel_rfl) (by kernel_rfl) (fun _ _ _ h => h) (Or.inl ⟨by rfl, ?_⟩) (by assumption) ?_
    rotate_left
    · intro w0 hSw
      (try dsimp only at hSw)
      go_simp
      try with_reducible rfl
    simp only [Act.put, List.getElem_toArray, List.getElem_cons_zero, List.getElem_cons_succ, List.setIfInBounds_toArray, List.set_cons_zero, List.set_cons_succ]
    refine wpAnyH_take (i := 25) (v := ?_) rfl (by kernel_rfl) (by kernel_rfl) (by kernel_rfl) (fun _ _ _ h => h) (Or.inl ⟨by rfl, ?_⟩) (by assumption) ?_
    rotate_left
    · intro w0 hSw
      (try dsimp only at hSw)
      go_simp
      try with_reducible rfl
    simp only [Act.put, List.getElem_toArray, List.getElem_cons_zero, List.getElem_cons_succ, List.setIfInBounds_toArray, List.set_cons_zero, List.set_cons_succ]
    refine wpAnyH_take (i := 26) (v := ?_) rfl (by kernel_rfl) (by kernel_rfl) (by kernel_rfl) (fun _ _ _ h => h) (Or.inl ⟨by rfl, ?_⟩) (by assumption) ?_
    rotate_left
    · intro w0 hSw
      (try dsimp only at hSw)
      go_simp
      try with_reducible rfl
    simp only [Act.put, List.getElem_toArray, List.getElem_cons_zero, List.getElem_cons_succ, List.setIfInBounds_toArray, List.set_cons_zero, List.set_cons_succ]
    refine wpAnyH_take (i := 27) (v := ?_) rfl (by kernel_rfl) (by kernel_rfl) (by kernel_rfl) (fun _ _ _ h => h) (Or.inl ⟨by rfl, ?_⟩) (by assumption) ?_
    rotate_left
    · intro w0 hSw
      (try dsimp only at hSw)
      go_simp
      try with_reducible rfl
    simp only [Act.put, List.getElem_toArray, List.getElem_cons_zero, List.getElem_cons_succ, List.setIfInBounds_toArray, List.set_cons_zero, List.set_cons_succ]
    refine wpAnyH_take (i := 28) (v := ?_) rfl (by kernel_rfl) (by kernel_rfl) (by kernel_rfl) (fun _ _ _ h => h) (Or.inl ⟨by rfl, ?_⟩) (by assumption) ?_
    rotate_left
    · intro w0 hSw
      (try dsimp only at hSw)
      go_simp
      try with_reducible rfl
    simp only [Act.put, List.getElem_toArray, List.getElem_cons_zero, List.getElem_cons_succ, List.setIfInBounds_toArray, List.set_cons_zero, List.set_cons_succ]
    refine wpAnyH_take (i := 29) (v := ?_) rfl (by kernel_rfl) (by kernel_rfl) (by kernel_rfl) (fun _ _ _ h => h) (Or.inl ⟨by rfl, ?_⟩) (by assumption) ?_
    rotate_left
    · intro w0 hSw
      (try dsimp only at hSw)
      go_simp
      try with_reducible rfl
    simp only [Act.put, List.getElem_toArray, List.getElem_cons_zero, List.getElem_cons_succ, List.setIfInBounds_toArray, List.set_cons_zero, List.set_cons_succ]
    refine wpAnyH_take (i := 30) (v := ?_) rfl (by kernel_rfl) (by kernel_rfl) (by kernel_rfl) (fun _ _ _ h => h) (Or.inl ⟨by rfl, ?_⟩) (by assumption) ?_
    rotate_left
    · intro w0 hSw
      (try dsimp only at hSw)
      go_simp
      try with_reducible rfl
    simp only [Act.put, List.getElem_toArray, List.getElem_cons_zero, List.getElem_cons_succ, List.setIfInBounds_toArray, List.set_cons_zero, List.set_cons_succ]
    refine wpAnyH_take (i := 31) (v := ?_) rfl (by kernel_rfl) (by kernel_rfl) (by kernel_rfl) (fun _ _ _ h => h) (Or.inl ⟨by rfl, ?_⟩) (by assumption) ?_
    rotate_left
    · intro w0 hSw
      (try dsimp only at hSw)
      go_simp
      try with_reducible rfl
    simp only [Act.put, List.getElem_toArray, List.getElem_cons_zero, List.getElem_cons_succ, List.setIfInBounds_toArray, List.set_cons_zero, List.set_cons_succ]
    refine wpAnyH_take (i := 32) (v := ?_) rfl (by kernel_rfl) (by kernel_rfl) (by kernel_rfl) (fun _ _ _ h => h) (Or.inl ⟨by rfl, ?_⟩) (by assumption) ?_
    rotate_left
    · intro w0 hSw
      (try dsimp only at hSw)
      go_simp
      try with_reducible rfl
    simp only [Act.put, List.getElem_toArray, List.getElem_cons_zero, List.getElem_cons_succ, List.setIfInBounds_toArray, List.set_cons_zero, List.set_cons_succ]
    refine wpAnyH_take (i := 33) (v := undef) rfl (by kernel_rfl) (by kernel_rfl) (by kernel_rfl) (fun _ _ _ h => h) (Or.inr ⟨by rfl, rfl⟩) (by assumption) ?_
    simp only [Act.put, List.getElem_toArray, List.getElem_cons_zero, List.getElem_cons_succ, List.setIfInBounds_toArray, List.set_cons_zero, List.set_cons_succ]
    refine wpAnyH_take (i := 34) (v := undef) rfl (by kernel_rfl) (by kernel_rfl) (by kernel_rfl) (fun _ _ _ h => h) (Or.inr ⟨by rfl, rfl⟩) (by assumption) ?_
    simp only [Act.put, List.getElem_toArray, List.getElem_cons_zero, List.getElem_cons_succ, List.setIfInBounds_toArray, List.set_cons_zero, List.set_cons_succ]
    refine wpAnyH_take (i := 35) (v := undef) rfl (by kernel_rfl) (by kernel_rfl) (by kernel_rfl) (fun _ _ _ h => h) (Or.inr ⟨by rfl, rfl⟩) (by assumption) ?_
    simp only [Act.put, List.getElem_toArray, List.getElem_cons_zero, List.getElem_cons_succ, List.setIfInBounds_toArray, List.set_cons_zero, List.set_cons_succ]
    refine wpAnyH_take (i := 36) (v := ?_) rfl (by kernel_rfl) (by kernel_rfl) (by kernel_rfl) (fun _ _ _ h => h) (Or.inl ⟨by rfl, ?_⟩) (by assumption) ?_
    rotate_left
    · intro w0 hSw
      (try dsimp only at hSw)
      go_simp
      try with_reducible rfl
    simp only [Act.put, List.getElem_toArray, List.getElem_cons_zero, List.getElem_cons_succ, List.setIfInBounds_toArray, List.set_cons_zero, List.set_cons_succ]
    refine wpAnyH_take (i := 37) (v := ?_) rfl (by kernel_rfl) (by kernel_rfl) (by kernel_rfl) (fun _ _ _ h => h) (Or.inl ⟨by rfl, ?_⟩) (by assumption) ?_
    rotate_left
    · intro w0 hSw
      (try dsimp only at hSw)
      go_simp
      try with_reducible rfl
    simp only [Act.put, List.getElem_toArray, List.getElem_cons_zero, List.getElem_cons_succ, List.setIfInBounds_toArray, List.set_cons_zero, List.set_cons_succ]
    refine wpAnyH_take (i := 38) (v := ?_) rfl (by kernel_rfl) (by kernel_rfl) (by kernel_rfl) (fun _ _ _ h => h) (Or.inl ⟨by rfl, ?_⟩) (by assumption) ?_
    rotate_left
    · intro w0 hSw
      (try dsimp only at hSw)
      go_simp
      try with_reducible rfl
    simp only [Act.put, List.getElem_toArray, List.getElem_cons_zero, List.getElem_cons_succ, List.setIfInBounds_toArray, List.set_cons_zero, List.set_cons_succ]
    refine wpAnyH_done (by kernel_rfl) ?_ _
    go_wp2
    go_ret
    exact ⟨rfl, B7.out.trans (((bel_drewN 1 (Below.refl w7.heap.size w7)).trans b8).mono (by omega))⟩
end Go.Proofs.YtknahaaefmlcpaaGreat
end
section
namespace Go.Proofs.YtknahaaefmlcpaaGreat
set_option maxRecDepth 100000
open Go.RowKit
set_option linter.unusedVariables false
set_option linter.unusedSimpArgs false
theorem rdA_capR {w : World} {a : Option Addr} {n c : Nat} {T : List AnsV} (h : RdA w (.slice a n c) T) : T.length ≤ c ∧ n = T.length := by
  rcases h with ⟨e, rfl⟩ | ⟨a', cap, e, rfl, hm⟩ | ⟨b, off, cap, e, hc, hm, hcell⟩
  · cases e; exact ⟨Nat.zero_le _, rfl⟩
  · cases e; exact ⟨Nat.zero_le _, rfl⟩
  · cases e; exact ⟨hc, rfl⟩
theorem take_snocR (T : List AnsV) (i : Nat) (h : i < T.length) : T.take (i + 1) = T.take i ++ [gA T i] := by
  rw [List.take_add_one, List.getElem?_eq_getElem h]
  simp [gA, h]
theorem PutM.step_end {m : PutM} (h : m.live = false) (x : AN) : m.step x = m := by
  obtain ⟨c, pc, hd, pos, cl, e⟩ := m
  cases pc with
  | done => rfl
  | _ => cases h
/-- A put that was told answers. -/
def PutM.told (m : PutM) (T : List AnsV) : PutM := T.foldl (fun m x => m.step x.an) m
theorem PutM.told_snoc (m : PutM) (T : List AnsV) (x : AnsV) : m.told (T ++ [x]) = (m.told T).step x.an := by simp [PutM.told]
theorem PutM.told_end {m : PutM} (h : m.live = false) (T : List AnsV) : m.told T = m := by
  induction T with
  | nil => rfl
  | cons x r ih =>
    show PutM.told (m.step x.an) r = m
    rw [PutM.step_end h]
    exact ih
theorem PutM.eat_map (m : PutM) (T : List AnsV) : (m.eat (T.map AnsV.an)).1 = m.told T := by
  induction T generalizing m with
  | nil => rfl
  | cons x r ih =>
    rw [List.map_cons]
    unfold PutM.eat
    by_cases hl : m.live = true
    · have h9 := ih (m.step x.an)
      unfold PutM.eat at h9
      show (if putMac.live m = true then Mac.eat putMac (putMac.step m x.an) (r.map AnsV.an) else (m, x.an :: r.map AnsV.an)).1 = _
      rw [if_pos (show putMac.live m = true from hl)]
      exact h9
    · have hl' : m.live = false := by simpa using hl
      show (if putMac.live m = true then Mac.eat putMac (putMac.step m x.an) (r.map AnsV.an) else (m, x.an :: r.map AnsV.an)).1 = _
      rw [if_neg (show ¬ putMac.live m = true from hl)]
      exact (PutM.told_end hl' (x :: r)).symm
theorem PutM.eat_ans (m : PutM) (T : List AnsV) : (m.eat (ans T 0)).1 = m.told T := by
  unfold ans
  rw [List.drop_zero]
  exact PutM.eat_map m T
theorem i64_bdS {a : Int} (h : (Lit.int .i64 a).wf = true) : -9223372036854775808 ≤ a ∧ a ≤ 9223372036854775807 := by
  simpa [Lit.wf, IntKind.min, IntKind.max, IntKind.signed, IntKind.bits] using h
theorem i32_bdS {a : Int} (h : (Lit.int .i32 a).wf = true) : -2147483648 ≤ a ∧ a ≤ 2147483647 := by
  simpa [Lit.wf, IntKind.min, IntKind.max, IntKind.signed, IntKind.bits] using h
theorem u64_bdS {a : Int} (h : (Lit.int .u64 a).wf = true) : inU a := by
  unfold inU
  simpa [Lit.wf, IntKind.min, IntKind.max, IntKind.signed, IntKind.bits] using h
theorem rd_sliceS {w : World} {v : Value} {l : List Int} (h : RdB w v l) : ∃ a n c, v = .slice a n c := by
  rcases h with ⟨rfl, rfl⟩ | ⟨a, cap, rfl, rfl, hm⟩ | ⟨b, off, cap, rfl, hc, hm, hcell⟩
  · exact ⟨_, _, _, rfl⟩
  · exact ⟨_, _, _, rfl⟩
  · exact ⟨_, _, _, rfl⟩
end Go.Proofs.YtknahaaefmlcpaaGreat
end
