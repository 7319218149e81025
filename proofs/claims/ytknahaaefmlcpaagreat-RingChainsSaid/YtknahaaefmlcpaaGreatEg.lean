/- Contract of the reference's Fix over the tape. Conditions: as each says. -/
import Derived.Test.YtknahaaefmlcpaaGreatQc
import Derived.Test.YtknahaaefmlcpaaGreatFj
import Derived.Test.YtknahaaefmlcpaaGreatPq
import Derived.Test.YtknahaaefmlcpaaGreatHd
import Derived.Deep.LoopGhost
import Derived.Deep.RegionHeld3
import Derived.Deep.CutBlock
import Derived.Deep.DeepCutAuto
namespace Go.Proofs.YtknahaaefmlcpaaGreat
set_option maxRecDepth 100000
open Go.RowKit
set_option linter.unusedVariables false
set_option linter.unusedSimpArgs false
set_option maxHeartbeats 1000000 in
theorem tLoad_over (tb k : Nat) (tv : Value) (c : Acc) (t : Value) (w : World) (h : Tp w tb tv k c true) (a n : Int) :
  Calls Tryz.prog 128 #[.pointer (some ⟨tb, 0, none⟩), .int .i64 a, .int .i64 n] w fun e w' => e = .returned (.tuple #[.int .u64 0, .bool false]) ∧ Below w.heap.size w w' := by
 have hlt := h.lt
 have H := Lib.hid h
 clear h
 go_enter Tryz.func128, Tryz.ntmps128
 go_wp2_with fail
 refine (tDo_ended tb k tv c t _ H.out 1 a n 0 0 none 0 0).mono ?_
 rintro e w1 ⟨rfl, b1⟩
 unfold ansZ AnsV.V
 dsimp only
 have B1 := Lib.hid b1
 clear b1
 go_wp2
 go_ret2
 exact ⟨rfl, B1.out.alloc B1.out.size _⟩
structure FGe (E : FixM × List AN) (w : World) (tb : Nat) (tv : Value) (T : List AnsV) (k : Nat) (m : FixM) : Prop where
 tp : Tp w tb tv k accZ false
 kl : k ≤ T.length
 eq : Mac.eat fixMac m (ans T k) = E
theorem FGe.below {E : FixM × List AN} {w w' : World} {tb : Nat} {tv : Value} {T : List AnsV} {k : Nat} {m : FixM} (h : FGe E w tb tv T k m) (b : Below w.heap.size w w') : FGe E w' tb tv T k m := ⟨Blk.below h.tp b h.tp.lt, h.kl, h.eq⟩
theorem FGe.fin {E : FixM × List AN} {w : World} {tb : Nat} {tv : Value} {T : List AnsV} {k : Nat} {m : FixM} (h : FGe E w tb tv T k m) (hl : m.live = false) : E.1 = m ∧ TpAt fixMac w tb tv T E := by
 have e : (m, ans T k) = E := (eat_done (M := fixMac) hl _).symm.trans h.eq
 subst e
 refine ⟨rfl, .inr ⟨hl, ?_⟩⟩
 show Tp w tb tv (T.length - (ans T k).length) accZ false
 rw [ans_len, show T.length - (T.length - k) = k from by have := h.kl; omega]
 exact h.tp
theorem TpAt.below {M : Mac} {w w' : World} {tb : Nat} {tv : Value} {T : List AnsV} {E : M.σ × List AN} (h : TpAt M w tb tv T E) (b : Below w.heap.size w w') : TpAt M w' tb tv T E := by
 rcases h with ⟨h1, h2, s0, sl, sc, h3, h4⟩ | ⟨h1, h2⟩
 ·exact .inl ⟨h1, h2, s0, sl, sc, Blk.below h3 b h3.lt, h4.below b⟩
 ·exact .inr ⟨h1, Blk.below h2 b h2.lt⟩
theorem fxLoad_any {E : FixM × List AN} {w : World} {tb : Nat} {tv : Value} {T : List AnsV} {k : Nat} {m : FixM} {a n : Int} (h : FGe E w tb tv T k m) (hT : TOk w tb tv T) (hl : m.live = true) (hw : m.want = ⟨1, a, n, 0, 0, []⟩) :
  Calls Tryz.prog 128 #[.pointer (some ⟨tb, 0, none⟩), .int .i64 a, .int .i64 n] w fun e w' => Keep (· = tb) w w' ∧ ((k < T.length ∧ e = .returned (.tuple #[.int .u64 (gA T k).v, .bool true]) ∧ FGe E w' tb tv T (k + 1) (m.step (gA T k).an)) ∨
   (e = .returned (.tuple #[.int .u64 0, .bool false]) ∧ E = (m, []) ∧ TpAt fixMac w' tb tv T E ∧ ∃ c, Tp w' tb tv T.length c true)) := by
 refine (tLoad_any tb k tv T w h.tp hT h.kl a n).mono ?_
 rintro e w' ⟨k', hc⟩
 refine ⟨k', ?_⟩
 rcases hc with ⟨hk, he, ht⟩ | ⟨hk, he, ht⟩
 ·exact .inl ⟨hk, he, ht, hk, (eat_told (M := fixMac) hl hk).symm.trans h.eq⟩
 ·have e2 : (m, ([] : List AN)) = E := (eat_end (M := fixMac) (by omega)).symm.trans h.eq
  refine .inr ⟨he, e2.symm, ?_, _, ht⟩
  rw [← e2]
  refine .inl ⟨hl, rfl, none, 0, 0, ?_, .inl ⟨rfl, ?_⟩⟩
  ·show Tp w' tb tv T.length ⟨m.want.k, m.want.a, m.want.n, m.want.v, m.want.x, .slice none 0 0⟩ true
   rw [hw]
   exact ht
  ·show m.want.b = []
   rw [hw]
theorem fxStore_any {E : FixM × List AN} {w : World} {tb : Nat} {tv : Value} {T : List AnsV} {k : Nat} {m : FixM} {a n v : Int} (h : FGe E w tb tv T k m) (hT : TOk w tb tv T) (hl : m.live = true) (hw : m.want = ⟨2, a, n, v, 0, []⟩) :
  Calls Tryz.prog 130 #[.pointer (some ⟨tb, 0, none⟩), .int .i64 a, .int .i64 n, .int .u64 v] w fun e w' => Keep (· = tb) w w' ∧ ((k < T.length ∧ e = .returned (.bool true) ∧ FGe E w' tb tv T (k + 1) (m.step (gA T k).an)) ∨
   (e = .returned (.bool false) ∧ E = (m, []) ∧ TpAt fixMac w' tb tv T E)) := by
 refine (tStore_any tb k tv T w h.tp hT h.kl a n v).mono ?_
 rintro e w' ⟨k', hc⟩
 refine ⟨k', ?_⟩
 rcases hc with ⟨hk, he, ht⟩ | ⟨hk, he, ht⟩
 ·exact .inl ⟨hk, he, ht, hk, (eat_told (M := fixMac) hl hk).symm.trans h.eq⟩
 ·have e2 : (m, ([] : List AN)) = E := (eat_end (M := fixMac) (by omega)).symm.trans h.eq
  refine .inr ⟨he, e2.symm, ?_⟩
  rw [← e2]
  refine .inl ⟨hl, rfl, none, 0, 0, ?_, .inl ⟨rfl, ?_⟩⟩
  ·show Tp w' tb tv T.length ⟨m.want.k, m.want.a, m.want.n, m.want.v, m.want.x, .slice none 0 0⟩ true
   rw [hw]
   exact ht
  ·show m.want.b = []
   rw [hw]
theorem fxStore_bo {E : FixM × List AN} {w : World} {tb : Nat} {tv : Value} {T : List AnsV} {k : Nat} {m : FixM} {a n v : Int} (h : FGe E w tb tv T k m) (hT : TOk w tb tv T) (hl : m.live = true) (hw : m.want = ⟨2, a, n, v, 0, []⟩) :
  Calls Tryz.prog 130 #[.pointer (some ⟨tb, 0, none⟩), .int .i64 a, .int .i64 n, .int .u64 v] w fun e w' => Keep (· = tb) w w' ∧ ∃ bo : Bool, e = .returned (.bool bo) ∧ ((bo = true ∧ FGe E w' tb tv T (k + 1) (m.step (gA T k).an)) ∨ (bo = false ∧ E = (m, []) ∧ TpAt fixMac w' tb tv T E)) := by
 refine (fxStore_any h hT hl hw).mono ?_
 rintro e w' ⟨k', hc⟩
 refine ⟨k', ?_⟩
 rcases hc with ⟨_, he, h1⟩ | ⟨he, h1⟩
 ·exact ⟨true, he, .inl ⟨rfl, h1⟩⟩
 ·exact ⟨false, he, .inr ⟨rfl, h1⟩⟩
theorem back_lt {m : FixM} {a f : Int} (h : a < m.first) : m.back a f = { m with pc := .pd (f - m.first) } := if_pos h
theorem back_ge {m : FixM} {a f : Int} (h : ¬ a < m.first) : m.back a f = { m with pc := .bk a f } := if_neg h
theorem back_pc (m : FixM) (p : FPc) (a f : Int) : ({ m with pc := p } : FixM).back a f = m.back a f := by
 unfold FixM.back
 rfl
set_option maxHeartbeats 2000000 in
theorem empty_any {E : FixM × List AN} {w : World} {tb : Nat} {tv : Value} {T : List AnsV} {k : Nat} {m : FixM} {b s fi a f : Int} (h : FGe E w tb tv T k (m.back a f)) (hT : TOk w tb tv T) (hc : m.c = ⟨b, s⟩) (hfi : m.first = fi) (h0 : 0 ≤ fi) (h1 : fi ≤ 8192) (ha0 : fi - 8 ≤ a) (ha1 : a ≤ 16384) (hb0 : 0 ≤ b) (hb1 : b ≤ 131072) :
  Calls Tryz.prog 151 #[.pointer (some ⟨tb, 0, none⟩), .agg #[.int .i64 b, .int .i64 s], .int .i64 a, .int .i64 fi] w fun e w' => Keep (· = tb) w w' ∧
   ((e = .returned (.tuple #[.bool false, .bool false]) ∧ (∃ a', E = ({ m with pc := .bk a' f }, [])) ∧ TpAt fixMac w' tb tv T E) ∨
    (e = .returned (.tuple #[.bool false, .bool true]) ∧ ∃ k', FGe E w' tb tv T k' m.stop) ∨
    (e = .returned (.tuple #[.bool true, .bool true]) ∧ ∃ k', FGe E w' tb tv T k' { m with pc := .pd (f - fi) })) := by
 have hlt := h.tp.lt
 have H := Lib.hid h
 have HT := Lib.hid hT
 have HC := Lib.hid hc
 have HFI := Lib.hid hfi
 clear h hT hc hfi
 go_enter Tryz.func151, Tryz.ntmps151
 go_wp2_with fail
 obtain ⟨w1, hw1⟩ : ∃ w1, w1 = w.alloc (Obj.cells #[.int .i64 b, .int .i64 s] 26) := ⟨_, rfl⟩
 have b1 : Below w.heap.size w w1 := by rw [hw1]; go_grown
 have R1 := Lib.hid (show Blk w1 w.heap.size [.int .i64 b, .int .i64 s] by rw [hw1]; exact Blk.made _ _ _)
 have H1 := Lib.hid (H.out.below b1)
 have T1 := Lib.hid (HT.out.below b1)
 have B1 := Lib.hid b1
 have z1 := R1.out.lt
 rw [← hw1]
 clear hw1 b1 H HT
 go_loopg [10] ((a - fi + 8).toNat + 1) (fun gk av wr => ∃ (x : Int) (k' : Nat), (gk : Int) = (x - fi + 8).toNat + 1 ∧ av = .int .i64 x ∧ fi - 8 ≤ x ∧ x ≤ a ∧ FGe E wr tb tv T k' (m.back x f) ∧ Keep (· = tb) w1 wr)
 case atStart => exact ⟨a, k, by omega, rfl, ha0, Int.le_refl _, H1.out, Keep.refl _ _⟩
 case round =>
  obtain ⟨x, k', hgk, rfl, hx0, hx1, hF, hK⟩ := hrel
  have R2 := Lib.hid (R1.out.keep hK (by omega))
  have T2 := Lib.hid (T1.out.keep hK)
  have HF := Lib.hid hF
  have HK := Lib.hid ((Below.keeps (M := (· = tb)) B1.out).trans hK)
  have HK1 := Lib.hid hK
  have HGK := Lib.hid hgk
  have r0 := R2.out.cell 0
  have r1 := R2.out.cell 1
  have lr := R2.out.lt
  simp only [List.getElem?_cons_zero, List.getElem?_cons_succ] at r0 r1
  have W1 : IntKind.i64.wrap (b + x) = b + x := IntWalk.i64_in _ ⟨by omega, by omega⟩
  have W2 : IntKind.i64.wrap (x - 8) = x - 8 := IntWalk.i64_in _ ⟨by omega, by omega⟩
  clear hF hK hgk
  by_cases hx : fi ≤ x
  ·have hbk : m.back x f = { m with pc := .bk x f } := back_ge (by rw [HFI.out]; omega)
   have HBK := Lib.hid hbk
   have HL := Lib.hid (fxLoad_any (n := 4) (a := b + x) (hbk ▸ HF.out) T2.out rfl (by show (⟨1, m.c.b + x, 4, 0, 0, []⟩ : AA) = _; rw [HC.out]))
   clear hbk
   go_wp2_with fail
   refine HL.out.mono ?_
   rintro e w2 ⟨k2, hcase⟩
   have K2 := Lib.hid k2
   clear k2
   rcases hcase with ⟨hk, rfl, hg⟩ | ⟨rfl, hE, hat, _⟩
   ·obtain ⟨v, hv⟩ : ∃ v, v = (gA T k').v := ⟨_, rfl⟩
    have hst : ({ m with pc := .bk x f } : FixM).step (gA T k').an = if v ≠ 0 then m.stop else m.back (x - 8) f := by
     rw [hv]
     show (if (gA T k').v ≠ 0 then _ else _) = _
     rw [back_pc]
     rfl
    rw [hst] at hg
    rw [← hv]
    clear hv hst HL r0 r1
    by_cases hv0 : v = 0
    ·rw [if_neg (fun h => h hv0)] at hg
     have HG := Lib.hid hg
     subst hv0
     clear hg
     go_wp2_with fail
     go_roundg ((x - 8 - fi + 8).toNat + 1)
     case measure => have := HGK.out; omega
     case rel => exact ⟨x - 8, k' + 1, by omega, rfl, by omega, by omega, HG.out, HK1.out.trans K2.out⟩
    ·rw [if_pos hv0] at hg
     have HG := Lib.hid hg
     clear hg
     go_wp2
     go_ret2
     exact ⟨HK.out.trans K2.out, .inr (.inl ⟨rfl, k' + 1, HG.out⟩)⟩
   ·have HE := Lib.hid (And.intro hE hat)
    clear hE hat HL r0 r1
    go_wp2
    go_ret2
    exact ⟨HK.out.trans K2.out, .inl ⟨rfl, ⟨x, HE.out.1⟩, HE.out.2⟩⟩
  ·have hbk : m.back x f = { m with pc := .pd (f - fi) } := by rw [← HFI.out]; exact back_lt (by rw [HFI.out]; omega)
   have HG := Lib.hid (hbk ▸ HF.out)
   clear hbk
   go_wp2
   go_ret2
   exact ⟨HK.out, .inr (.inr ⟨rfl, k', HG.out⟩)⟩
def FixSaid (w : World) (tb : Nat) (tv : Value) (T : List AnsV) (E : FixM × List AN) (e : Ending) (w' : World) : Prop :=
 Keep (· = tb) w w' ∧ e = .returned (.tuple #[.int .i64 E.1.n, .int .i64 E.1.e]) ∧ TpAt fixMac w' tb tv T E
def fxB (b s H Z : Int) : FixM := ⟨⟨b, s⟩, .lk, H % s, if Z % s ≤ H % s then s else Z % s, 0, 10⟩
theorem ahead_ge {m : FixM} {a : Int} (h : m.last ≤ a) : m.ahead a = m.stop := if_pos h
theorem ahead_lt {m : FixM} {a : Int} (h : ¬ m.last ≤ a) : m.ahead a = { m with pc := .ah a } := if_neg h
theorem ahead_pc (m : FixM) (p : FPc) (a : Int) : ({ m with pc := p } : FixM).ahead a = m.ahead a := by
 unfold FixM.ahead
 rfl
structure FxL (E : FixM × List AN) (w : World) (tb : Nat) (tv : Value) (T : List AnsV) (m : FixM) (n x : Int) (k : Nat) : Prop where
 x0 : m.first + 8 ≤ x
 x1 : x ≤ m.last + 8
 c : (n = 0 ∧ FGe E w tb tv T k (m.ahead x)) ∨ (0 < n ∧ n ≤ 8192 ∧ FGe E w tb tv T k { m with pc := .pd n })
set_option maxHeartbeats 8000000 in
theorem refFix_ok {tb k0 : Nat} {tv : Value} {T : List AnsV} {b s : Int} {w : World} (h : Tp w tb tv k0 accZ false) (hT : TOk w tb tv T) (hk : k0 ≤ T.length) (hu : ∀ i, i < T.length → inU (gA T i).v) (hg : rgOk b s = true) :
  Calls Tryz.prog 109 #[.pointer (some ⟨tb, 0, none⟩), .agg #[.int .i64 b, .int .i64 s]] w (FixSaid w tb tv T (Mac.eat fixMac (FixC.init ⟨b, s⟩) (ans T k0))) := by
 obtain ⟨g1, g2, g3, g4, g5, g6⟩ := rgOk_bd hg
 have hinit : FixC.init ⟨b, s⟩ = ⟨⟨b, s⟩, .h0, 0, 0, 0, 10⟩ := by unfold FixC.init; dsimp only; rw [hg]; rfl
 rw [hinit]
 obtain ⟨E, hE⟩ : ∃ E, E = Mac.eat fixMac ⟨⟨b, s⟩, .h0, 0, 0, 0, 10⟩ (ans T k0) := ⟨_, rfl⟩
 rw [← hE]
 have HF : Hid (FGe E w tb tv T k0 ⟨⟨b, s⟩, .h0, 0, 0, 0, 10⟩) := Lib.hid ⟨h, hk, hE.symm⟩
 have HT := Lib.hid hT
 have HU := Lib.hid hu
 have HG := Lib.hid hg
 have hlt := h.lt
 have W1 : IntKind.i64.wrap (b + s) = b + s := IntWalk.i64_in _ ⟨by omega, by omega⟩
 have W2 : IntKind.i64.wrap (b + s + 16) = b + s + 16 := IntWalk.i64_in _ ⟨by omega, by omega⟩
 clear h hT hu hE hinit g1 hg
 go_enter Tryz.func109, Tryz.ntmps109
 go_wp2_with fail
 obtain ⟨w1, hw1⟩ : ∃ w1, w1 = w.alloc (Obj.cells #[.int .i64 b, .int .i64 s] 26) := ⟨_, rfl⟩
 have b1 : Below w.heap.size w w1 := by rw [hw1]; go_grown
 have R1 := Lib.hid (show Blk w1 w.heap.size [.int .i64 b, .int .i64 s] by rw [hw1]; exact Blk.made _ _ _)
 rw [← hw1]
 clear hw1
 refine (rRight_any b s w1 (by omega) (by omega) (by omega) (by omega)).mono ?_
 rintro e w2 ⟨rfl, b2⟩
 rw [HG.out]
 have R2 := Lib.hid (R1.out.below b2 R1.out.lt)
 have b3 : Below w.heap.size w w2 := b1.trans (b2.mono b1.size)
 have H2 := Lib.hid (HF.out.below b3)
 have T2 := Lib.hid (HT.out.below b3)
 have K2 := Lib.hid (Below.keeps (M := (· = tb)) b3)
 have z2 := b3.size
 have y2 := R2.out.lt
 clear b1 b2 b3 HF HT R1
 have r0 := R2.out.cell 0
 have r1 := R2.out.cell 1
 simp only [List.getElem?_cons_zero, List.getElem?_cons_succ] at r0 r1
 go_wp2_with fail
 refine (fxLoad_any H2.out T2.out rfl rfl).mono ?_
 rintro e w3 ⟨k3, hcase⟩
 have K3 := Lib.hid (K2.out.trans k3)
 have R3 := Lib.hid (R2.out.keep k3 (by omega))
 have T3 := Lib.hid (T2.out.keep k3)
 have y3 := R3.out.lt
 clear k3 R2 T2 K2 r0 r1
 have r0 := R3.out.cell 0
 have r1 := R3.out.cell 1
 simp only [List.getElem?_cons_zero, List.getElem?_cons_succ] at r0 r1
 rcases hcase with ⟨hk0, rfl, hg3⟩ | ⟨rfl, hE3, hat3, c3, ho3⟩
 rotate_left
 ·have HAT := Lib.hid hat3
  have HO := Lib.hid ho3
  subst hE3
  clear hat3 ho3
  go_wp2_with fail
  refine (tLoad_over tb T.length tv c3 .nilIface w3 HO.out (b + s) 8).mono ?_
  rintro e w4 ⟨rfl, b4⟩
  have B4 := Lib.hid b4
  clear b4
  go_wp2
  go_ret2
  exact ⟨K3.out.trans (Below.keeps B4.out), rfl, HAT.out.below B4.out⟩
 obtain ⟨H, hH⟩ : ∃ H, H = (gA T k0).v := ⟨_, rfl⟩
 have hH2 : inU H := hH ▸ HU.out k0 hk0
 have e3 : (⟨⟨b, s⟩, .h0, 0, 0, 0, 10⟩ : FixM).step (gA T k0).an = ⟨⟨b, s⟩, .t0 H, 0, 0, 0, 10⟩ := by rw [hH]; rfl
 rw [e3] at hg3
 rw [← hH]
 have HU1 := Lib.hid hH2
 have H3 := Lib.hid hg3
 clear hH e3 hg3 H2 hH2 hk0 hk
 go_wp2_with fail
 refine (fxLoad_any H3.out T3.out rfl rfl).mono ?_
 rintro e w4 ⟨k4, hcase⟩
 have K4 := Lib.hid (K3.out.trans k4)
 have R4 := Lib.hid (R3.out.keep k4 (by omega))
 have T4 := Lib.hid (T3.out.keep k4)
 have y4 := R4.out.lt
 clear k4 R3 T3 K3 r0 r1
 have r0 := R4.out.cell 0
 have r1 := R4.out.cell 1
 simp only [List.getElem?_cons_zero, List.getElem?_cons_succ] at r0 r1
 rcases hcase with ⟨hk0, rfl, hg4⟩ | ⟨rfl, hE4, hat4, c4, ho4⟩
 rotate_left
 ·have HAT := Lib.hid hat4
  subst hE4
  clear hat4 ho4
  go_wp2
  go_ret2
  exact ⟨K4.out, rfl, HAT.out⟩
 obtain ⟨Z, hZ⟩ : ∃ Z, Z = (gA T (k0 + 1)).v := ⟨_, rfl⟩
 have hZ2 : inU Z := hZ ▸ HU.out (k0 + 1) hk0
 have e4 : (⟨⟨b, s⟩, .t0 H, 0, 0, 0, 10⟩ : FixM).step (gA T (k0 + 1)).an = if H = Z then ⟨⟨b, s⟩, .done, 0, 0, 0, 0⟩ else fxB b s H Z := by
  rw [hZ]
  show FixM.begin _ H (gA T (k0 + 1)).v = _
  unfold FixM.begin
  rfl
 rw [e4] at hg4
 rw [← hZ]
 have HZ1 := Lib.hid hZ2
 clear hZ e4 hZ2 H3
 by_cases hHZ : H = Z
 ·rw [if_pos hHZ] at hg4
  obtain ⟨f1, f2⟩ := hg4.fin rfl
  have HAT := Lib.hid f2
  have HE := Lib.hid f1
  subst hHZ
  clear f1 f2 hg4
  go_wp2
  go_ret2
  refine ⟨K4.out, ?_, HAT.out⟩
  rw [HE.out]
  rfl
 rw [if_neg hHZ] at hg4
 have H4 := Lib.hid hg4
 obtain ⟨fi, hfi⟩ : ∃ fi, fi = H % s := ⟨_, rfl⟩
 obtain ⟨z, hz⟩ : ∃ z, z = Z % s := ⟨_, rfl⟩
 have fi0 : 0 ≤ fi := by rw [hfi]; exact Int.emod_nonneg _ (by omega)
 have fi1 : fi < s := by rw [hfi]; exact Int.emod_lt_of_pos _ (by omega)
 have z0 : 0 ≤ z := by rw [hz]; exact Int.emod_nonneg _ (by omega)
 have z1 : z < s := by rw [hz]; exact Int.emod_lt_of_pos _ (by omega)
 have HPH : Hid (∀ w : World, Calls Tryz.prog 131 #[.agg #[.int .i64 b, .int .i64 s], .int .u64 H] w fun e w' => e = .returned (.int .i64 fi) ∧ Below w.heap.size w w') := Lib.hid (fun w => by rw [hfi]; exact rPlace_any b s H w (by omega) (by omega) HU1.out.1 HU1.out.2)
 have HPZ : Hid (∀ w : World, Calls Tryz.prog 131 #[.agg #[.int .i64 b, .int .i64 s], .int .u64 Z] w fun e w' => e = .returned (.int .i64 z) ∧ Below w.heap.size w w') := Lib.hid (fun w => by rw [hz]; exact rPlace_any b s Z w (by omega) (by omega) HZ1.out.1 HZ1.out.2)
 obtain ⟨la, hla⟩ : ∃ la, la = if z ≤ fi then s else z := ⟨_, rfl⟩
 have hm : fxB b s H Z = ⟨⟨b, s⟩, .lk, fi, la, 0, 10⟩ := by unfold fxB; rw [hla, hfi, hz]
 rw [hm] at H4
 have la1 : la ≤ s := by rw [hla]; split <;> omega
 have la0 : fi < la := by rw [hla]; split <;> omega
 have HLA := Lib.hid hla
 clear hg4 hm hfi hz hla
 go_upto_region 9 with fail
 go_cut [10, 11] (fun x y wx => x = .int .i64 fi ∧ y = .int .i64 z ∧ Below w4.heap.size w4 wx)
 case first =>
  go_region_held3 (fun w' => w'.cell? ⟨w.heap.size, 0, none⟩ = some (.int .i64 b) ∧ w'.cell? ⟨w.heap.size, 1, none⟩ = some (.int .i64 s)) (first | go_keep | trivial)
   (first
    | (go_at_call_of 131 (Value.int .u64 H); refine (HPH.out _).mono ?_; rintro e w5 ⟨rfl, b5⟩; have hc5 := fun o => b5.cell (p := ⟨w.heap.size, o, none⟩) (by simpa using y4); have HB5 := Lib.hid b5)
    | (go_at_call_of 131 (Value.int .u64 Z); refine (HPZ.out _).mono ?_; rintro e w6 ⟨rfl, b6⟩; have hc6 := fun o => b6.cell (p := ⟨w.heap.size, o, none⟩) (by simp; have := HB5.out.size; simp at this; omega); have HB6 := Lib.hid b6))
  all_goals (
   clear hc5 hc6
   go_wp2_with fail
   go_meet
   refine ⟨rfl, rfl, ?_⟩
   have h5 := HB5.out
   have h6 := HB6.out
   exact (bel_drewP (h5.mono (Nat.le_refl _) |>.trans (h6.mono h5.size))))
 case rest =>
  obtain ⟨rfl, rfl, b5⟩ := hcut
  have K5 := Lib.hid (K4.out.trans (Below.keeps b5))
  have R5 := Lib.hid (R4.out.below b5 y4)
  have T5 := Lib.hid (T4.out.below b5)
  have H5 := Lib.hid (H4.out.below b5)
  have y5 := R5.out.lt
  clear b5 R4 T4 K4 H4 r0 r1 HPH HPZ
  have r0 := R5.out.cell 0
  have r1 := R5.out.cell 1
  simp only [List.getElem?_cons_zero, List.getElem?_cons_succ] at r0 r1
  have W3 : IntKind.i64.wrap (b + fi) = b + fi := IntWalk.i64_in _ ⟨by omega, by omega⟩
  have W4 : IntKind.i64.wrap (s - fi) = s - fi := IntWalk.i64_in _ ⟨by omega, by omega⟩
  have W5 : IntKind.i64.wrap (-(s - fi)) = -(s - fi) := IntWalk.i64_in _ ⟨by omega, by omega⟩
  have W6 : IntKind.i64.wrap (fi + 8) = fi + 8 := IntWalk.i64_in _ ⟨by omega, by omega⟩
  go_upto_if 58 with fail
  go_cut [11] (fun y wx => y = .int .i64 la ∧ wx = wc)
  case first =>
   by_cases hzf : z ≤ fi
   ·obtain rfl : la = s := by have := HLA.out; rw [if_pos hzf] at this; exact this
    go_wp2_with fail
    go_meet
    exact ⟨rfl, rfl⟩
   ·obtain rfl : la = z := by have := HLA.out; rw [if_neg hzf] at this; exact this
    go_wp2_with fail
    go_meet
    exact ⟨rfl, rfl⟩
  case rest =>
   obtain ⟨rfl, rfl⟩ := hcut
   go_wp2_with fail
   refine (fxLoad_any H5.out T5.out rfl rfl).mono ?_
   rintro e w6 ⟨k6, hcase⟩
   have K6 := Lib.hid (K5.out.trans k6)
   have R6 := Lib.hid (R5.out.keep k6 (by omega))
   have T6 := Lib.hid (T5.out.keep k6)
   have y6 := R6.out.lt
   clear k6 R5 T5 K5 r0 r1
   have r0 := R6.out.cell 0
   have r1 := R6.out.cell 1
   simp only [List.getElem?_cons_zero, List.getElem?_cons_succ] at r0 r1
   rcases hcase with ⟨hk6, rfl, hg6⟩ | ⟨rfl, hE6, hat6, _⟩
   rotate_left
   ·have HAT := Lib.hid hat6
    subst hE6
    clear hat6
    go_wp2
    go_ret2
    exact ⟨K6.out, rfl, HAT.out⟩
   obtain ⟨k7, hk7⟩ : ∃ k7, k7 = k0 + 1 + 1 := ⟨_, rfl⟩
   rw [← hk7] at hg6 hk6
   obtain ⟨v, hv⟩ : ∃ v, v = (gA T k7).v := ⟨_, rfl⟩
   have hv2 : inU v := hv ▸ HU.out k7 hk6
   obtain ⟨m, hm⟩ : ∃ m : FixM, m = ⟨⟨b, s⟩, .lk, fi, la, 0, 10⟩ := ⟨_, rfl⟩
   have e6 : (⟨⟨b, s⟩, .lk, fi, la, 0, 10⟩ : FixM).step (gA T k7).an = if 0 < loS v ∨ loS v < -(s - fi) then m.stop else if loS v < 0 then { m with pc := .pd (-loS v) } else m.ahead (fi + 8) := by
    rw [hv, hm]
    rfl
   rw [hk7.symm] at *
   rw [e6] at hg6
   rw [← hv]
   obtain ⟨len, hlen⟩ : ∃ len, len = loS v := ⟨_, rfl⟩
   have hl1 : -2147483648 ≤ len ∧ len ≤ 2147483647 := by rw [hlen]; unfold loS wrap32; omega
   have HSP : Hid (∀ w : World, ∃ hi, Calls Tryz.prog 147 #[.int .u64 v] w fun e w' => e = .returned (.tuple #[.int .i32 len, .int .i32 hi]) ∧ Below w.heap.size w w') := Lib.hid (fun w => by rw [hlen]; exact ⟨_, refSplit_any v w hv2.1 hv2.2⟩)
   rw [← hlen] at hg6
   have H6 := Lib.hid hg6
   have HM := Lib.hid hm
   have mc : m.c = ⟨b, s⟩ := by rw [hm]
   have mfi : m.first = fi := by rw [hm]
   have mla : m.last = la := by rw [hm]
   have mn : m.n = 0 := by rw [hm]
   have me : m.e = 10 := by rw [hm]
   have HMF := Lib.hid (And.intro mc (And.intro mfi (And.intro mla (And.intro mn me))))
   have W7 : IntKind.i64.wrap len = len := IntWalk.i64_in _ ⟨by omega, by omega⟩
   clear hv e6 hg6 H5 hv2 hlen hk7 hm mc mfi mla mn me
   go_wp2_with fail
   obtain ⟨hi, hsp⟩ := HSP.out w6
   refine hsp.mono ?_
   rintro e w7 ⟨rfl, b7⟩
   have K7 := Lib.hid (K6.out.trans (Below.keeps b7))
   have R7 := Lib.hid (R6.out.below b7 y6)
   have T7 := Lib.hid (T6.out.below b7)
   have H7 := Lib.hid (H6.out.below b7)
   have y7 := R7.out.lt
   clear b7 R6 T6 K6 H6 r0 r1 hsp HSP
   have r0 := R7.out.cell 0
   have r1 := R7.out.cell 1
   simp only [List.getElem?_cons_zero, List.getElem?_cons_succ] at r0 r1
   by_cases q1 : 0 < len
   ·have hg := H7.out
    rw [if_pos (.inl q1)] at hg
    obtain ⟨f1, f2⟩ := hg.fin rfl
    have HAT := Lib.hid f2
    have HE := Lib.hid f1
    clear f1 f2 hg
    go_wp2
    go_ret2
    refine ⟨K7.out, ?_, HAT.out⟩
    rw [HE.out]
    show _ = Ending.returned (.tuple #[.int .i64 m.n, .int .i64 0])
    rw [HMF.out.2.2.2.1]
    rfl
   by_cases q2 : len < -(s - fi)
   ·have hg := H7.out
    rw [if_pos (.inr q2)] at hg
    obtain ⟨f1, f2⟩ := hg.fin rfl
    have HAT := Lib.hid f2
    have HE := Lib.hid f1
    clear f1 f2 hg
    go_wp2
    go_ret2
    refine ⟨K7.out, ?_, HAT.out⟩
    rw [HE.out]
    show _ = Ending.returned (.tuple #[.int .i64 m.n, .int .i64 0])
    rw [HMF.out.2.2.2.1]
    rfl
   have hg := H7.out
   rw [if_neg (fun h => h.elim q1 q2)] at hg
   have H8 := Lib.hid hg
   have W8 : IntKind.i32.wrap (-len) = -len := IntWalk.i32_in _ ⟨by omega, by omega⟩
   have W9 : IntKind.i64.wrap (-len) = -len := IntWalk.i64_in _ ⟨by omega, by omega⟩
   clear hg H7
   go_upto_if 90 with fail
   go_cut [15] (fun nv wx => ∃ n : Int, nv = .int .i64 n ∧ FxL E wx tb tv T m n (fi + 8) (k7 + 1) ∧ wx = w7)
   case first =>
    by_cases q3 : len < 0
    ·have hg := H8.out
     rw [if_pos q3] at hg
     have H9 := Lib.hid hg
     clear hg
     go_wp2_with fail
     go_meet
     exact ⟨-len, rfl, ⟨by rw [HMF.out.2.1]; exact Int.le_refl _, by rw [HMF.out.2.2.1]; omega, .inr ⟨by omega, by omega, H9.out⟩⟩, rfl⟩
    ·have hg := H8.out
     rw [if_neg q3] at hg
     have H9 := Lib.hid hg
     clear hg
     go_wp2_with fail
     go_meet
     exact ⟨0, rfl, ⟨by rw [HMF.out.2.1]; exact Int.le_refl _, by rw [HMF.out.2.2.1]; omega, .inl ⟨rfl, H9.out⟩⟩, rfl⟩
   case rest =>
    obtain ⟨n0, rfl, hx, rfl⟩ := hcut
    have HX := Lib.hid hx
    clear hx H8
    go_wp2_with fail
    go_loopg [15, 16] ((la + 8 - (fi + 8)).toNat + 1) (fun gk nv av wr => ∃ (n x : Int) (k : Nat), (gk : Int) = (la + 8 - x).toNat + 1 ∧ nv = .int .i64 n ∧ av = .int .i64 x ∧ FxL E wr tb tv T m n x k ∧ Keep (· = tb) wc wr)
    case atStart => exact ⟨n0, fi + 8, k7 + 1, by omega, rfl, rfl, HX.out, Keep.refl _ _⟩
    case round =>
     obtain ⟨n, x, k, hgk, rfl, rfl, hx, hkp⟩ := hrel
     have HX := Lib.hid hx
     have HGK := Lib.hid hgk
     have KE := Lib.hid (K7.out.trans hkp)
     have KP := Lib.hid hkp
     have R8 := Lib.hid (R7.out.keep hkp (by omega))
     have T8 := Lib.hid (T7.out.keep hkp)
     have y8 := R8.out.lt
     have r0 := R8.out.cell 0
     have r1 := R8.out.cell 1
     simp only [List.getElem?_cons_zero, List.getElem?_cons_succ] at r0 r1
     have x0 := hx.x0
     have x1 := hx.x1
     rw [HMF.out.2.1] at x0
     rw [HMF.out.2.2.1] at x1
     have W10 : IntKind.i64.wrap (b + x) = b + x := IntWalk.i64_in _ ⟨by omega, by omega⟩
     have W11 : IntKind.i64.wrap (x + 8) = x + 8 := IntWalk.i64_in _ ⟨by omega, by omega⟩
     have W12 : IntKind.i64.wrap (x - 8) = x - 8 := IntWalk.i64_in _ ⟨by omega, by omega⟩
     have W13 : IntKind.i64.wrap (x - fi) = x - fi := IntWalk.i64_in _ ⟨by omega, by omega⟩
     clear hx hgk hkp
     rcases HX.out.c with ⟨hn, hF⟩ | ⟨hn0, hn1, hF⟩
     ·subst hn
      by_cases hxl : x < la
      ·rw [ahead_lt (by rw [HMF.out.2.2.1]; omega)] at hF
       have HL := Lib.hid (fxLoad_any (n := 4) (a := b + x) hF T8.out rfl (by show (⟨1, m.c.b + x, 4, 0, 0, []⟩ : AA) = _; rw [HMF.out.1]))
       clear hF
       go_wp2_with fail
       refine HL.out.mono ?_
       rintro e w9 ⟨k9, hcase⟩
       have KE := Lib.hid (KE.out.trans k9)
       have KP := Lib.hid (KP.out.trans k9)
       have R9 := Lib.hid (R8.out.keep k9 (by omega))
       have T9 := Lib.hid (T8.out.keep k9)
       have y9 := R9.out.lt
       clear k9 R8 T8 r0 r1 HL
       have r0 := R9.out.cell 0
       have r1 := R9.out.cell 1
       simp only [List.getElem?_cons_zero, List.getElem?_cons_succ] at r0 r1
       rcases hcase with ⟨hk9, rfl, hg9⟩ | ⟨rfl, hE9, hat9, _⟩
       rotate_left
       ·have HAT := Lib.hid hat9
        subst hE9
        clear hat9
        go_wp2
        go_ret2
        refine ⟨KE.out, ?_, HAT.out⟩
        show _ = Ending.returned (.tuple #[.int .i64 m.n, .int .i64 m.e])
        rw [HMF.out.2.2.2.1, HMF.out.2.2.2.2]
        rfl
       obtain ⟨u, hu9⟩ : ∃ u, u = (gA T k).v := ⟨_, rfl⟩
       have e9 : ({ m with pc := .ah x } : FixM).step (gA T k).an = if u = 0 then m.ahead (x + 8) else m.back (x - 8) x := by
        rw [hu9]
        show (if (gA T k).v = 0 then _ else _) = _
        rw [ahead_pc, back_pc]
       rw [e9] at hg9
       rw [← hu9]
       clear hu9 e9 hk9
       by_cases hu0 : u = 0
       ·rw [if_pos hu0] at hg9
        have H9 := Lib.hid hg9
        subst hu0
        clear hg9
        go_wp2_with fail
        go_roundg ((la + 8 - (x + 8)).toNat + 1)
        case measure => have := HGK.out; omega
        case rel => exact ⟨0, x + 8, k + 1, by omega, rfl, rfl, ⟨by rw [HMF.out.2.1]; omega, by rw [HMF.out.2.2.1]; omega, .inl ⟨rfl, H9.out⟩⟩, KP.out⟩
       ·rw [if_neg hu0] at hg9
        have HEM := Lib.hid (empty_any hg9 T9.out HMF.out.1 HMF.out.2.1 fi0 (by omega) (by omega) (by omega) g4 (by omega))
        clear hg9
        go_wp2_with fail
        refine HEM.out.mono ?_
        rintro e w10 ⟨k10, hcase⟩
        have KE := Lib.hid (KE.out.trans k10)
        have KP := Lib.hid (KP.out.trans k10)
        clear k10 HEM r0 r1
        rcases hcase with ⟨rfl, ⟨a', hE⟩, hat⟩ | ⟨rfl, k', hg⟩ | ⟨rfl, k', hg⟩
        ·have HAT := Lib.hid hat
         subst hE
         clear hat
         go_wp2
         go_ret2
         refine ⟨KE.out, ?_, HAT.out⟩
         show _ = Ending.returned (.tuple #[.int .i64 m.n, .int .i64 m.e])
         rw [HMF.out.2.2.2.1, HMF.out.2.2.2.2]
         rfl
        ·obtain ⟨f1, f2⟩ := hg.fin rfl
         have HAT := Lib.hid f2
         have HE := Lib.hid f1
         clear f1 f2 hg
         go_wp2
         go_ret2
         refine ⟨KE.out, ?_, HAT.out⟩
         rw [HE.out]
         show _ = Ending.returned (.tuple #[.int .i64 m.n, .int .i64 0])
         rw [HMF.out.2.2.2.1]
         rfl
        ·have H10 := Lib.hid hg
         clear hg
         go_wp2_with fail
         go_roundg ((la + 8 - (x + 8)).toNat + 1)
         case measure => have := HGK.out; omega
         case rel => exact ⟨x - fi, x + 8, k', by omega, rfl, rfl, ⟨by rw [HMF.out.2.1]; omega, by rw [HMF.out.2.2.1]; omega, .inr ⟨by omega, by omega, H10.out⟩⟩, KP.out⟩
      ·rw [ahead_ge (by rw [HMF.out.2.2.1]; omega)] at hF
       obtain ⟨f1, f2⟩ := hF.fin rfl
       have HAT := Lib.hid f2
       have HE := Lib.hid f1
       clear f1 f2 hF
       go_wp2
       go_ret2
       refine ⟨KE.out, ?_, HAT.out⟩
       rw [HE.out]
       show _ = Ending.returned (.tuple #[.int .i64 m.n, .int .i64 0])
       rw [HMF.out.2.2.2.1]
       rfl
     ·have HFF := Lib.hid hF
      have hnz : ¬ n = 0 := by omega
      have W14 : IntKind.i32.wrap n = n := IntWalk.i32_in _ ⟨by omega, by omega⟩
      clear hF
      go_wp2_with fail
      go_region_held3 (fun w' => w'.cell? ⟨w.heap.size, 0, none⟩ = some (.int .i64 b)) (first | go_keep | trivial)
       (first
        | (go_at_call 133; refine (refRecord_any n (-1) _ (by omega) (by omega) (by decide) (by decide)).mono ?_; rintro e w9 ⟨rfl, b9⟩; have B9 := Lib.hid (bel_drewP b9); have hc9 := fun o => B9.out.cell (p := ⟨w.heap.size, o, none⟩) y8)
        | (go_at_call 130; refine (fxStore_bo (HFF.out.below B9.out) (T8.out.below B9.out) rfl (by show (⟨2, m.c.b + m.first, 8, recS n (-1), 0, []⟩ : AA) = _; rw [HMF.out.1, HMF.out.2.1])).mono ?_; rintro e w10 ⟨k10, bo, rfl, hcase⟩; have hd9 := k10.cell (b := w.heap.size) 0 (by have := B9.out.size; omega) (by show ¬ w.heap.size = tb; omega); have KE := Lib.hid ((KE.out.trans (Below.keeps B9.out)).trans k10); have HCS := Lib.hid hcase; clear hcase))
      all_goals (
       clear hc9 hd9 r0 r1
       rcases HCS.out with ⟨rfl, hg⟩ | ⟨rfl, hE, hat⟩
       ·obtain ⟨f1, f2⟩ := hg.fin rfl
        have HAT := Lib.hid f2
        have HE := Lib.hid f1
        clear f1 f2 hg
        go_wp2
        go_ret2
        refine ⟨KE.out, ?_, HAT.out⟩
        rw [HE.out]
        rfl
       ·have HAT := Lib.hid hat
        have HE := Lib.hid hE
        clear hE hat
        go_wp2
        go_ret2
        refine ⟨KE.out, ?_, HAT.out⟩
        rw [HE.out]
        show _ = Ending.returned (.tuple #[.int .i64 m.n, .int .i64 m.e])
        rw [HMF.out.2.2.2.1, HMF.out.2.2.2.2]
        rfl)
set_option maxHeartbeats 1000000 in
theorem refFix_any {tb k0 : Nat} {tv : Value} {T : List AnsV} {b s : Int} {w : World} (h : Tp w tb tv k0 accZ false) (hT : TOk w tb tv T) (hk : k0 ≤ T.length) (hu : ∀ i, i < T.length → inU (gA T i).v) (hb0 : -9223372036854775808 ≤ b) (hb1 : b ≤ 9223372036854775807) (hs0 : -9223372036854775808 ≤ s) (hs1 : s ≤ 9223372036854775807) :
  Calls Tryz.prog 109 #[.pointer (some ⟨tb, 0, none⟩), .agg #[.int .i64 b, .int .i64 s]] w (FixSaid w tb tv T (Mac.eat fixMac (FixC.init ⟨b, s⟩) (ans T k0))) := by
 by_cases hg : rgOk b s = true
 ·exact refFix_ok h hT hk hu hg
 have hg' : rgOk b s = false := by simpa using hg
 have hinit : FixC.init ⟨b, s⟩ = ⟨⟨b, s⟩, .done, 0, 0, 0, 1⟩ := by unfold FixC.init; dsimp only; rw [hg']; rfl
 obtain ⟨E, hE⟩ : ∃ E, E = Mac.eat fixMac (FixC.init ⟨b, s⟩) (ans T k0) := ⟨_, rfl⟩
 have HF : FGe E w tb tv T k0 ⟨⟨b, s⟩, .done, 0, 0, 0, 1⟩ := ⟨h, hk, by rw [hE, hinit]⟩
 rw [← hE]
 have HF := Lib.hid HF
 have HG := Lib.hid hg'
 have hlt := h.lt
 clear h hT hu hE hinit hg hg'
 go_enter Tryz.func109, Tryz.ntmps109
 go_wp2_with fail
 refine (rRight_any b s _ hb0 hb1 hs0 hs1).mono ?_
 rintro e w2 ⟨rfl, b2⟩
 rw [HG.out]
 have b3 : Below w.heap.size w w2 := ((Below.refl w.heap.size w).alloc (Nat.le_refl _) _).trans (b2.mono (by simp))
 obtain ⟨f1, f2⟩ := (HF.out.below b3).fin rfl
 have HAT := Lib.hid f2
 have HE := Lib.hid f1
 have B3 := Lib.hid b3
 clear f1 f2 b3 b2
 go_wp2
 go_ret2
 refine ⟨Below.keeps B3.out, ?_, HAT.out⟩
 rw [HE.out]
 rfl
end Go.Proofs.YtknahaaefmlcpaaGreat
