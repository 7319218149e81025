/- What a get makes of a tape. No program in sight but the tape's place in memory. Conditions: as each says. Rows of messages that nobody else holds. -/
import Derived.Test.YtknahaaefmlcpaaGreatQc
import Derived.Test.YtknahaaefmlcpaaGreatGp
import Derived.BigQuiet
import Derived.Deep.CutBlock
import Derived.Deep.LoopGhost
import Derived.Test.YtknahaaefmlcpaaGreatGq
section
namespace Go.Proofs.YtknahaaefmlcpaaGreat
set_option maxRecDepth 100000
open Go.RowKit
set_option linter.unusedVariables false
set_option linter.unusedSimpArgs false
def GetM.eat (m : GetM) (L : List AN) : GetM × List AN := Mac.eat getMac m L
theorem GetM.eat_told {m : GetM} {T : List AnsV} {k : Nat} (hl : m.live = true) (hk : k < T.length) : m.eat (ans T k) = (m.step (gA T k).an).eat (ans T (k + 1)) := Go.Proofs.YtknahaaefmlcpaaGreat.eat_told (M := getMac) hl hk
theorem GetM.eat_end {m : GetM} {T : List AnsV} {k : Nat} (hk : T.length ≤ k) : m.eat (ans T k) = (m, []) := Go.Proofs.YtknahaaefmlcpaaGreat.eat_end (M := getMac) hk
theorem GetM.eat_done {m : GetM} (hl : m.live = false) (L : List AN) : m.eat L = (m, L) := Go.Proofs.YtknahaaefmlcpaaGreat.eat_done (M := getMac) hl L
def GEnd (B : Nat) (w : World) (tb : Nat) (tv : Value) (T : List AnsV) (m : GetM) : Prop := m.live = true ∧ ∃ s0 sl sc, Tp w tb tv T.length ⟨m.want.k, m.want.a, m.want.n, m.want.v, m.want.x, .slice s0 sl sc⟩ true ∧ RdB w (.slice s0 sl sc) m.want.b ∧ ∀ i, (Value.slice s0 sl sc).ownBlock = some i → B ≤ i
def TpAtO (M : Mac) (B : Nat) (w : World) (tb : Nat) (tv : Value) (T : List AnsV) (E : M.σ × List AN) : Prop :=
 (M.live E.1 = true ∧ E.2 = [] ∧ ∃ s0 sl sc, Tp w tb tv T.length ⟨(M.want E.1).k, (M.want E.1).a, (M.want E.1).n, (M.want E.1).v, (M.want E.1).x, .slice s0 sl sc⟩ true ∧ RdB w (.slice s0 sl sc) (M.want E.1).b ∧ ∀ i, (Value.slice s0 sl sc).ownBlock = some i → B ≤ i) ∨
 (M.live E.1 = false ∧ Tp w tb tv (T.length - E.2.length) accZ false)
theorem TpAtO.plain {M : Mac} {B : Nat} {w : World} {tb : Nat} {tv : Value} {T : List AnsV} {E : M.σ × List AN} (h : TpAtO M B w tb tv T E) : TpAt M w tb tv T E :=
 h.imp (fun ⟨h1, h2, s0, sl, sc, h3, h4, _⟩ => ⟨h1, h2, s0, sl, sc, h3, h4⟩) id
theorem TpAtO.mono {M : Mac} {B B' : Nat} {w : World} {tb : Nat} {tv : Value} {T : List AnsV} {E : M.σ × List AN} (h : TpAtO M B w tb tv T E) (hB : B' ≤ B) : TpAtO M B' w tb tv T E :=
 h.imp (fun ⟨h1, h2, s0, sl, sc, h3, h4, h5⟩ => ⟨h1, h2, s0, sl, sc, h3, h4, fun i hi => Nat.le_trans hB (h5 i hi)⟩) id
theorem GEnd.to {B : Nat} {w : World} {tb : Nat} {tv : Value} {T : List AnsV} {m : GetM} (h : GEnd B w tb tv T m) : TpAtO getMac B w tb tv T (m, []) := .inl ⟨h.1, rfl, h.2⟩
def gAt (C : GetC) (HD FI dn : Int) (out : List (Int × List Int)) (odd : Bool) : GetM := ⟨C, .rc, HD, FI, dn, out, odd, 10⟩
def RGe (B : Nat) (E : GetM × List AN) (w : World) (tb : Nat) (tv : Value) (T : List AnsV) (k : Nat) (m : GetM) (out : List (Int × List Int)) (ok : Value) : Prop :=
 (ok = .bool true ∧ Tp w tb tv k accZ false ∧ m.eat (ans T k) = E) ∨ (ok = .bool false ∧ k = T.length ∧ ∃ m' : GetM, m'.out = out ∧ m'.e = 10 ∧ E = (m', []) ∧ GEnd B w tb tv T m')
theorem RGe.below {B : Nat} {E : GetM × List AN} {w w' : World} {tb : Nat} {tv : Value} {T : List AnsV} {k : Nat} {m : GetM} {out : List (Int × List Int)} {ok : Value} (h : RGe B E w tb tv T k m out ok) (b : Below w.heap.size w w') : RGe B E w' tb tv T k m out ok := by
 rcases h with ⟨h1, h2, h3⟩ | ⟨h1, h2, m', h3, h3', h4, h5, s0, sl, sc, h6, h7, h8⟩
 ·exact .inl ⟨h1, Blk.below h2 b h2.lt, h3⟩
 ·exact .inr ⟨h1, h2, m', h3, h3', h4, h5, s0, sl, sc, Blk.below h6 b h6.lt, h7.below b, h8⟩
theorem RGe.done {B : Nat} {E : GetM × List AN} {w : World} {tb : Nat} {tv : Value} {T : List AnsV} {m m0 : GetM} {out : List (Int × List Int)} (hm : m0.eat (ans T T.length) = E) (ho : m0.out = out) (he : m0.e = 10) (hl : m0.live = true) (hw : m0.want.b = []) (ht : Tp w tb tv T.length m0.want.acc true) : RGe B E w tb tv T T.length m out (.bool false) :=
 .inr ⟨rfl, rfl, m0, ho, he, by rw [← hm]; exact GetM.eat_end (Nat.le_refl _), hl, none, 0, 0, ht, by rw [hw]; exact .inl ⟨rfl, rfl⟩, fun i hi => (nomatch hi)⟩
theorem catB_head (T : List AnsV) (k : Nat) : ∀ j, catB T k (j + 1) = (gA T k).b ++ catB T (k + 1) j
 | 0 => by simp [catB]
 | j + 1 => by
  rw [catB_succ, catB_head T k j, catB_succ, List.append_assoc, show k + (j + 1) = k + 1 + j by omega]
theorem eat_rd (C : GetC) (sz typ HD FI dn : Int) (out : List (Int × List Int)) (odd : Bool) (T : List AnsV) : ∀ (f n : Nat) (p : Int) (hv : List Int) (k : Nat), n ≤ f → n ≠ 0 → k ≤ T.length →
  (k + (n + 7) / 8 ≤ T.length → (GetM.mk C (.rd sz typ p n hv) HD FI dn out odd 10).eat (ans T k) = ((GetM.mk C .rc HD FI dn out odd 10).got sz typ (hv ++ catB T k ((n + 7) / 8))).eat (ans T (k + (n + 7) / 8))) ∧
  (T.length < k + (n + 7) / 8 → (GetM.mk C (.rd sz typ p n hv) HD FI dn out odd 10).eat (ans T k) = (GetM.mk C (.rd sz typ (p + 8 * ((T.length - k : Nat) : Int)) ((n - 8 * (T.length - k) : Nat) : Int) (hv ++ catB T k (T.length - k))) HD FI dn out odd 10, [])) := by
 intro f
 induction f with
 | zero => intro n p hv k h1 h2; omega
 | succ f ih =>
  intro n p hv k h1 h2 hk
  by_cases hkt : k < T.length
  ·rw [GetM.eat_told rfl hkt]
   have hst : GetM.step (GetM.mk C (.rd sz typ p n hv) HD FI dn out odd 10) (gA T k).an = if (n : Int) ≤ 8 then (GetM.mk C .rc HD FI dn out odd 10).got sz typ (hv ++ (gA T k).b) else GetM.mk C (.rd sz typ (p + 8) ((n : Int) - 8) (hv ++ (gA T k).b)) HD FI dn out odd 10 := rfl
   rw [hst]
   by_cases h8 : n ≤ 8
   ·rw [if_pos (by omega)]
    have e1 : (n + 7) / 8 = 1 := by omega
    rw [e1]
    refine ⟨fun _ => ?_, fun h => by omega⟩
    have e2 : catB T k 1 = (gA T k).b := by simp [catB]
    rw [e2]
   ·rw [if_neg (by omega)]
    obtain ⟨i1, i2⟩ := ih (n - 8) (p + 8) (hv ++ (gA T k).b) (k + 1) (by omega) (by omega) hkt
    have ec : ((n : Int) - 8) = ((n - 8 : Nat) : Int) := by omega
    have en : (n - 8 + 7) / 8 + 1 = (n + 7) / 8 := by omega
    rw [ec]
    refine ⟨fun h => ?_, fun h => ?_⟩
    ·rw [i1 (by omega), List.append_assoc]
     have e3 : (gA T k).b ++ catB T (k + 1) ((n - 8 + 7) / 8) = catB T k ((n + 7) / 8) := by
      rw [← en]
      exact (catB_head T k _).symm
     rw [e3, show k + 1 + (n - 8 + 7) / 8 = k + (n + 7) / 8 by omega]
    ·rw [i2 (by omega), List.append_assoc]
     have e3 : (gA T k).b ++ catB T (k + 1) (T.length - (k + 1)) = catB T k (T.length - k) := by
      rw [show T.length - k = T.length - (k + 1) + 1 by omega]
      exact (catB_head T k _).symm
     rw [e3, show p + 8 + 8 * ((T.length - (k + 1) : Nat) : Int) = p + 8 * ((T.length - k : Nat) : Int) by omega, show n - 8 - 8 * (T.length - (k + 1)) = n - 8 * (T.length - k) by omega]
  ·have e0 : T.length - k = 0 := by omega
   refine ⟨fun h => by omega, fun h => ?_⟩
   rw [GetM.eat_end (by omega), e0]
   simp [catB]
theorem eat_zr (C : GetC) (HD FI dn : Int) (out : List (Int × List Int)) (odd : Bool) (T : List AnsV) : ∀ (f n : Nat) (p : Int) (k : Nat), n ≤ f → n ≠ 0 → k ≤ T.length →
  (k + (n + 7) / 8 ≤ T.length → (GetM.mk C (.zr p n) HD FI dn out odd 10).eat (ans T k) = (GetM.mk C .st HD FI dn out odd 10).eat (ans T (k + (n + 7) / 8))) ∧
  (T.length < k + (n + 7) / 8 → (GetM.mk C (.zr p n) HD FI dn out odd 10).eat (ans T k) = (GetM.mk C (.zr (p + 8 * ((T.length - k : Nat) : Int)) ((n - 8 * (T.length - k) : Nat) : Int)) HD FI dn out odd 10, [])) := by
 intro f
 induction f with
 | zero => intro n p k h1 h2; omega
 | succ f ih =>
  intro n p k h1 h2 hk
  by_cases hkt : k < T.length
  ·rw [GetM.eat_told rfl hkt]
   have hst : GetM.step (GetM.mk C (.zr p n) HD FI dn out odd 10) (gA T k).an = if (n : Int) ≤ 8 then GetM.mk C .st HD FI dn out odd 10 else GetM.mk C (.zr (p + 8) ((n : Int) - 8)) HD FI dn out odd 10 := rfl
   rw [hst]
   by_cases h8 : n ≤ 8
   ·rw [if_pos (by omega)]
    have e1 : (n + 7) / 8 = 1 := by omega
    rw [e1]
    exact ⟨fun _ => rfl, fun h => by omega⟩
   ·rw [if_neg (by omega)]
    obtain ⟨i1, i2⟩ := ih (n - 8) (p + 8) (k + 1) (by omega) (by omega) hkt
    have ec : ((n : Int) - 8) = ((n - 8 : Nat) : Int) := by omega
    rw [ec]
    refine ⟨fun h => ?_, fun h => ?_⟩
    ·rw [i1 (by omega), show k + 1 + (n - 8 + 7) / 8 = k + (n + 7) / 8 by omega]
    ·rw [i2 (by omega), show p + 8 + 8 * ((T.length - (k + 1) : Nat) : Int) = p + 8 * ((T.length - k : Nat) : Int) by omega, show n - 8 - 8 * (T.length - (k + 1)) = n - 8 * (T.length - k) by omega]
  ·have e0 : T.length - k = 0 := by omega
   refine ⟨fun h => by omega, fun h => ?_⟩
   rw [GetM.eat_end (by omega), e0]
   simp
structure MsO (B : Nat) (w : World) (ov : Value) (out : List (Int × List Int)) : Prop where
 ex : ∃ es : List ((Int × List Int) × Value), es.map (·.1) = out ∧ w.ownsRow 0 84 2 ov es.length (es.flatMap msL) ∧ ∀ e ∈ es, RdB w e.2 e.1.2 ∧ ∀ i, e.2.ownBlock = some i → B ≤ i ∧ i < w.heap.size ∧ ov.ownBlock ≠ some i
 lo : ∀ i, ov.ownBlock = some i → B ≤ i
theorem MsO.nil (B : Nat) (w : World) : MsO B w (.slice none 0 0) [] := ⟨⟨[], rfl, World.ownsRow_nil _ _ _ _, fun e he => by cases he⟩, fun i hi => by cases hi⟩
theorem MsO.keep {B : Nat} {w w' : World} {K : Nat → Prop} {ov : Value} {out : List (Int × List Int)} (h : MsO B w ov out) (k : Keep K w w') (hd : ∀ i, B ≤ i → ¬ K i) : MsO B w' ov out := by
 obtain ⟨⟨es, h1, h2, h3⟩, h4⟩ := h
 have z := k.size
 exact ⟨⟨es, h1, ownsRow_keep h2 k (fun i hi => hd i (h4 i hi)), fun e he => ⟨(h3 e he).1.keepP k (fun i hi => hd i ((h3 e he).2 i hi).1), fun i hi => ⟨((h3 e he).2 i hi).1, Nat.lt_of_lt_of_le ((h3 e he).2 i hi).2.1 z, ((h3 e he).2 i hi).2.2⟩⟩⟩, h4⟩
theorem MsO.below {B : Nat} {w w' : World} {ov : Value} {out : List (Int × List Int)} (h : MsO B w ov out) (b : Below w.heap.size w w') : MsO B w' ov out := h.keep (K := fun _ => False) (Below.keeps b) (fun _ _ => id)
theorem MsO.ms {B : Nat} {w : World} {ov : Value} {out : List (Int × List Int)} (h : MsO B w ov out) : MsIn w (fun i => B ≤ i ∧ i < w.heap.size) (fun i => B ≤ i) ov out := by
 obtain ⟨⟨es, h1, h2, h3⟩, h4⟩ := h
 exact ⟨⟨es, h1, h2, fun e he => ⟨(h3 e he).1, fun i hi => ⟨((h3 e he).2 i hi).1, ((h3 e he).2 i hi).2.1⟩⟩⟩, h4⟩
theorem MsO.sl {B : Nat} {w : World} {ov : Value} {out : List (Int × List Int)} (h : MsO B w ov out) : ∃ a c, ov = .slice a out.length c := h.ms.sl
theorem MsO.push {B : Nat} {w w1 : World} {ov ov' dv : Value} {out : List (Int × List Int)} {t : Int} {d : List Int} {es : List ((Int × List Int) × Value)} (he : es.map (·.1) = out) (ho : w.ownsRow 0 84 2 ov es.length (es.flatMap msL)) (hes : ∀ e ∈ es, RdB w e.2 e.1.2 ∧ ∀ i, e.2.ownBlock = some i → B ≤ i ∧ i < w.heap.size ∧ ov.ownBlock ≠ some i) (hlo : ∀ i, ov.ownBlock = some i → B ≤ i) (hB : B ≤ w.heap.size)
  (hd : OwB 5 B w dv d) (k : Keep (fun i => ov.ownBlock = some i) w w1) (ho1 : w1.ownsRow 0 84 2 ov' (es.length + 1) (es.flatMap msL ++ msL ((t, d), dv))) (hv : ov'.ownBlock = ov.ownBlock ∨ ov'.ownBlock = some w.heap.size) : MsO B w1 ov' (out ++ [(t, d)]) := by
 have z := k.size
 have ne : ∀ i, dv.ownBlock = some i → ov.ownBlock ≠ some i := by
  intro i hi hvi
  rcases hd.2 with ⟨rfl, _⟩ | ⟨g1, c1, u1, rfl, _, e1, _⟩
  ·cases hi
  rcases ho.2 with ⟨rfl, _⟩ | ⟨g2, c2, u2, rfl, _, e2, _⟩
  ·cases hvi
  have a1 : g1 = i := Option.some.inj hi
  have a2 : g2 = i := Option.some.inj hvi
  subst a1 a2
  rw [e1] at e2
  simp only [Option.some.injEq, Obj.cells.injEq] at e2
  exact absurd e2.2.1 (by decide)
 have hov' : ∀ i, i < w.heap.size → ov.ownBlock ≠ some i → ov'.ownBlock ≠ some i := by
  intro i hi h1 h2
  rcases hv with e | e
  ·exact h1 (e ▸ h2)
  ·rw [e] at h2
   have := Option.some.inj h2
   omega
 refine ⟨⟨es ++ [((t, d), dv)], by simp [he], by simpa using ho1, ?_⟩, ?_⟩
 ·intro e hm
  rcases List.mem_append.1 hm with hm | hm
  ·obtain ⟨a, b⟩ := hes e hm
   exact ⟨a.keepP k (fun i hi => (b i hi).2.2), fun i hi => ⟨(b i hi).1, by have := (b i hi).2.1; omega, hov' i (b i hi).2.1 (b i hi).2.2⟩⟩
  ·obtain rfl := List.mem_singleton.1 hm
   have hdl : ∀ i, dv.ownBlock = some i → B ≤ i ∧ i < w.heap.size := fun i hi => World.ownsRow.lt hd i hi
   exact ⟨hd.rd.keepP k ne, fun i hi => ⟨(hdl i hi).1, by have := (hdl i hi).2; omega, hov' i (hdl i hi).2 (ne i hi)⟩⟩
 ·intro i hi
  rcases hv with e | e
  ·exact hlo i (e ▸ hi)
  ·rw [e] at hi
   have := Option.some.inj hi
   omega
theorem OwB.isSlB {B : Nat} {w : World} {v : Value} {l : List Int} (h : OwB 5 B w v l) : ∃ a n c, v = .slice a n c := own_isSl h
theorem MsIn.cell {w : World} {O R : Nat → Prop} {v : Value} {l : List (Int × List Int)} (h : MsIn w O R v l) {k : Nat} {t : Int} {d : List Int} (hk : l[k]? = some (t, d)) : ∃ g c s0 sl sc, v = .slice (some ⟨g, 0, none⟩) l.length c ∧ w.cell? ⟨g, k * 2, none⟩ = some (.int .i32 t) ∧ w.cell? ⟨g, k * 2 + 1, none⟩ = some (.slice s0 sl sc) ∧ RdB w (.slice s0 sl sc) d := by
 obtain ⟨⟨es, he, ho, hes⟩, _⟩ := h
 have hkl : k < l.length := (List.getElem?_eq_some_iff.1 hk).1
 have hel : es.length = l.length := by rw [← he, List.length_map]
 obtain ⟨e, hek⟩ : ∃ e, es[k]? = some e := ⟨_, List.getElem?_eq_getElem (by omega)⟩
 have h1 : e.1 = (t, d) := by
  rw [← he, List.getElem?_map, hek] at hk
  exact Option.some.inj hk
 obtain ⟨h2, _⟩ := hes e (List.mem_of_getElem? hek)
 obtain ⟨m1, m2⟩ := ms_at es k e hek
 obtain ⟨e1, e2⟩ := e
 dsimp only at h1 h2 m1 m2
 subst h1
 obtain ⟨sa, sl, sc, rfl⟩ := h2.isSl
 rcases ho.2 with ⟨_, h0⟩ | ⟨g, cap, cur, rfl, _⟩
 ·omega
 ·refine ⟨g, cap, sa, sl, sc, by rw [hel], ?_, ?_, h2⟩
  ·rw [World.ownsRow.cellAt ho _ (by omega), m1]
  ·rw [World.ownsRow.cellAt ho _ (by omega), m2]
set_option maxHeartbeats 2000000 in
theorem refSame_any {O1 R1 O2 R2 : Nat → Prop} {a b : Value} {l : List (Int × List Int)} (w : World) (h1 : MsIn w O1 R1 a l) (h2 : MsIn w O2 R2 b l) (hl : l.length ≤ 100000) :
  Calls Tryz.prog 49 #[a, b] w fun e w' => e = .returned (.bool true) ∧ Below w.heap.size w w' := by
 obtain ⟨a0, ac, rfl⟩ := h1.sl
 obtain ⟨b0, bc, rfl⟩ := h2.sl
 have H1 := Lib.hid h1
 have H2 := Lib.hid h2
 clear h1 h2
 go_enter Tryz.func49, Tryz.ntmps49
 go_wp2_with fail
 go_loopw [13] (fun i wr => ∃ k : Nat, k ≤ l.length ∧ i = .int .i64 k ∧ Below w.heap.size w wr) (fun i _ => l.length - (intOf i).toNat)
 case atStart => exact ⟨0, by omega, rfl, Below.refl _ _⟩
 case round =>
  obtain ⟨k, hk, rfl, hB⟩ := hrel
  by_cases hlt : k < l.length
  ·obtain ⟨x, hx⟩ : ∃ x, l[k]? = some x := ⟨_, List.getElem?_eq_getElem hlt⟩
   obtain ⟨t, d⟩ := x
   have M1 := H1.out.keep (M := fun _ => False) (Below.keeps hB) (fun _ _ => id) (fun _ _ => id)
   have M2 := H2.out.keep (M := fun _ => False) (Below.keeps hB) (fun _ _ => id) (fun _ _ => id)
   obtain ⟨g1, c1, s1, n1, d1, e1, p1, p2, r1⟩ := M1.cell hx
   obtain ⟨g2, c2, s2, n2, d2, e2, q1, q2, r2⟩ := M2.cell hx
   have e1a : a0 = some ⟨g1, 0, none⟩ := by injection e1
   have e2a : b0 = some ⟨g2, 0, none⟩ := by injection e2
   subst e1a e2a
   have cv1 := fun n => conv_rd (w := wr.drewN n) 22 9 Tryz.underlying22 Tryz.underlying9 (RdB.drewN n r1)
   have cv2 := fun n => conv_rd (w := wr.drewN n) 22 9 Tryz.underlying22 Tryz.underlying9 (RdB.drewN n r2)
   have l1 := World.block_lt_of_cell? _ _ p1
   have l2 := World.block_lt_of_cell? _ _ q1
   have HB := Lib.hid hB
   have hki : (k : Int) < (l.length : Int) := by omega
   have hk0 : (0 : Int) ≤ (k : Int) := by omega
   clear M1 M2 hx e1 e2 r1 r2 hB
   go_upto_region 6 with fail
   go_quiet (fail)
   go_wp2
   refine ⟨⟨k + 1, by omega, by go_num, ?_⟩, by simp [intOf]; omega⟩
   exact bel_drewN _ HB.out
  ·obtain rfl : k = l.length := by omega
   go_wp2
   go_ret
   exact ⟨rfl, hB⟩
theorem gAt_record {C : GetC} {HD FI dn : Int} {out : List (Int × List Int)} {odd : Bool} (h1 : (out.length : Int) < C.most) (h2 : FI + dn < C.s) : (gAt C HD FI dn out odd).record = gAt C HD FI dn out odd := by
 unfold GetM.record gAt GetM.left
 dsimp only
 rw [if_neg (by omega)]
theorem gAt_full {C : GetC} {HD FI dn : Int} {out : List (Int × List Int)} {odd : Bool} (h : ¬ ((out.length : Int) < C.most ∧ FI + dn < C.s)) : (gAt C HD FI dn out odd).record = (gAt C HD FI dn out odd).zero := by
 unfold GetM.record gAt GetM.left
 dsimp only
 rw [if_pos (by omega)]
def GetSaid (w : World) (tb : Nat) (tv : Value) (T : List AnsV) (E : GetM × List AN) (e : Ending) (w' : World) : Prop :=
 Keep (· = tb) w w' ∧ ∃ ov, e = .returned (.tuple #[ov, .int .i64 E.1.res.1, .int .i64 E.1.res.2]) ∧ MsIn w' (fun i => w.heap.size ≤ i ∧ i < w'.heap.size) (fun i => w.heap.size ≤ i) ov E.1.out ∧ TpAtO getMac w.heap.size w' tb tv T E
def XRg (E : GetM × List AN) (B : Nat) (C : GetC) (HD FI : Int) (tb : Nat) (tv : Value) (T : List AnsV) (ov ok dn ee : Value) (w : World) : Prop :=
 ∃ k out DN odd EV, dn = .int .i64 DN ∧ ee = .int .i64 EV ∧ EV = (if odd = true then 13 else 0) ∧ MsO B w ov out ∧ 0 ≤ DN ∧ FI + DN ≤ C.s ∧ k ≤ T.length ∧ RGe B E w tb tv T k (gAt C HD FI DN out odd).zero out ok
set_option maxHeartbeats 8000000 in
theorem refGet_ok (tb k0 : Nat) (tv : Value) (T : List AnsV) (b s most : Int) (w : World) (h : Tp w tb tv k0 accZ false) (hT : TOk w tb tv T) (hk : k0 ≤ T.length) (hu : ∀ i, i < T.length → inU (gA T i).v) (hlens : ∀ i, i < T.length → (gA T i).b.length ≤ 1000) (hok : (GetC.mk b s most).ok = true) (hm1 : most ≤ 9223372036854775807) :
  Calls Tryz.prog 108 #[.pointer (some ⟨tb, 0, none⟩), .agg #[.int .i64 b, .int .i64 s], .int .i64 most] w (GetSaid w tb tv T ((GetC.init ⟨b, s, most⟩).eat (ans T k0))) := by
 obtain ⟨C, hC⟩ : ∃ C, C = GetC.mk b s most := ⟨_, rfl⟩
 obtain ⟨o1, o2⟩ : rgOk b s = true ∧ 1 ≤ most := by
  unfold GetC.ok at hok
  simpa using hok
 have hinit : GetC.init C = ⟨C, .hd0, 0, 0, 0, [], false, 10⟩ := by
  rw [hC]
  unfold GetC.init
  rw [hok]
  rfl
 have HI := Lib.hid hinit
 obtain ⟨q0, q1, q2, q3, q4, q5⟩ := rgOk_bd o1
 obtain ⟨i0, hi, hz0, hz1, hz2⟩ := info_parts msinfo
 obtain ⟨E, hE⟩ : ∃ E, E = (GetC.init ⟨b, s, most⟩).eat (ans T k0) := ⟨_, rfl⟩
 rw [← hC] at hE
 have HE := Lib.hid hE
 have HCb := Lib.hid (show C.b = b ∧ C.s = s ∧ C.most = most from by rw [hC]; exact ⟨rfl, rfl, rfl⟩)
 have HT := Lib.hid hT
 have HU := Lib.hid hu
 have HLN := Lib.hid hlens
 have H := Lib.hid h
 have hlt := h.lt
 have RG := Lib.hid o1
 have hmost : ¬ most < 1 := by omega
 have Wbs : IntKind.i64.wrap (b + s) = b + s := IntWalk.i64_in _ ⟨by omega, by omega⟩
 have Wb16 : IntKind.i64.wrap (b + s + 16) = b + s + 16 := IntWalk.i64_in _ ⟨by omega, by omega⟩
 rw [← hC, ← hE]
 clear hinit hE hC hT hu hlens hok h o1 q0
 go_enter Tryz.func108, Tryz.ntmps108
 go_wp2_with fail
 refine (rRight_any b s _ (by omega) (by omega) (by omega) (by omega)).mono ?_
 rintro e w1 ⟨rfl, b1⟩
 rw [RG.out]
 have z1 := b1.size
 simp at z1
 have X1 := Lib.hid (Blk.below (Blk.made w #[.int .i64 b, .int .i64 s] 26) b1 (by simp))
 have B1 := Lib.hid (((Below.refl w.heap.size w).alloc (Nat.le_refl _) (.cells #[.int .i64 b, .int .i64 s] 26)).trans (b1.mono (by simp)))
 have H1 := Lib.hid (show Tp w1 tb tv k0 accZ false from Blk.below H.out B1.out hlt)
 have HT1 := Lib.hid (HT.out.below B1.out)
 have x0 := X1.out.cell 0
 have x1 := X1.out.cell 1
 simp only [List.getElem?_toArray, List.getElem?_cons_zero, List.getElem?_cons_succ] at x0 x1
 have hx : w.heap.size < w1.heap.size := by omega
 clear b1
 go_upto_region 4 with fail
 go_cut [10, 11] from 29 to 39 (fun hd ok wx => ∃ HD k, hd = .int .u64 HD ∧ inU HD ∧ k ≤ T.length ∧ Keep (· = tb) w1 wx ∧ RGe w1.heap.size E wx tb tv T k (gAt C HD (HD % s) 0 [] false).record [] ok)
 case first =>
  as_aux_lemma =>
  go_wp2_with fail
  refine (tLoad_any tb k0 tv T _ H1.out HT1.out hk (b + s + 16) 8).mono ?_
  rintro e w2 ⟨k2, hcase⟩
  rcases hcase with ⟨hkt, rfl, t2⟩ | ⟨hkt, rfl, t2⟩
  ·go_wp2_with fail
   go_meet
   refine ⟨_, k0 + 1, rfl, HU.out k0 hkt, hkt, k2, .inl ⟨rfl, t2, ?_⟩⟩
   rw [HE.out, HI.out, GetM.eat_told rfl hkt, ← HCb.out.2.1]
   rfl
  ·go_wp2_with fail
   go_meet
   refine ⟨0, T.length, rfl, ⟨Int.le_refl 0, by decide⟩, Nat.le_refl _, k2, RGe.done (m0 := ⟨C, .hd0, 0, 0, 0, [], false, 10⟩) ?_ rfl rfl rfl rfl ?_⟩
   ·rw [HE.out, HI.out, hkt]
   ·have he : (GetM.mk C .hd0 0 0 0 [] false 10).want.acc = ⟨1, b + s + 16, 8, 0, 0, .slice none 0 0⟩ := by
     unfold GetM.want AA.acc
     rw [HCb.out.1, HCb.out.2.1]
    rw [he]
    exact t2
 case rest =>
  as_aux_lemma =>
  obtain ⟨HD, k, rfl, hHD, hk1, k2, hrt⟩ := hcut
  have KC := Lib.hid k2
  have RT := Lib.hid hrt
  have XC := Lib.hid (X1.out.keep k2 (by show ¬ w.heap.size = tb; omega))
  have TC := Lib.hid (HT1.out.keep k2)
  have zc := k2.size
  have x0 := XC.out.cell 0
  have x1 := XC.out.cell 1
  have lx := XC.out.lt
  simp only [List.getElem?_cons_zero, List.getElem?_cons_succ] at x0 x1
  clear k2 hrt
  go_wp2_with fail
  refine (rPlace_any b s HD _ q1 q2 hHD.1 hHD.2).mono ?_
  rintro e w3 ⟨rfl, b3⟩
  obtain ⟨FI, hFI⟩ : ∃ FI, FI = HD % s := ⟨_, rfl⟩
  have f0 : 0 ≤ FI := by rw [hFI]; exact Int.emod_nonneg _ (by omega)
  have f1 : FI < s := by rw [hFI]; exact Int.emod_lt_of_pos _ (by omega)
  rw [← hFI] at RT ⊢
  have z3 := b3.size
  have RT := Lib.hid (RT.out.below b3)
  have XC := Lib.hid (XC.out.below b3 lx)
  have TC := Lib.hid (TC.out.below b3)
  have KC := Lib.hid (KC.out.trans (Below.keeps b3))
  have x0 := XC.out.cell 0
  have x1 := XC.out.cell 1
  have lx := XC.out.lt
  simp only [List.getElem?_cons_zero, List.getElem?_cons_succ] at x0 x1
  clear b3 hFI
  go_upto_block 0 with fail
  go_cut [9, 11, 13, 14, 15, 16, 17, 18, 19, 20, 21] from 43 to 122 (fun ov ok dn ee y15 y16 y17 y18 y19 y20 y21 wx => Keep (· = tb) w1 wx ∧ XRg E w1.heap.size C HD FI tb tv T ov ok dn ee wx)
  case first =>
   as_aux_lemma =>
   go_wp2_with fail
   go_loopg [9, 11, 13, 14] (T.length - k + 1) (fun gk ov ok dn ee wr => ∃ k DN out, gk + k = T.length + 1 ∧ k ≤ T.length ∧ dn = .int .i64 DN ∧ ee = .int .i64 0 ∧ 0 ≤ DN ∧ FI + DN ≤ s ∧ 8 * (out.length : Int) ≤ DN ∧ MsO w1.heap.size wr ov out ∧ Keep (· = tb) w1 wr ∧ RGe w1.heap.size E wr tb tv T k (gAt C HD FI DN out false).record out ok)
   case atStart => exact ⟨k, 0, [], by omega, hk1, rfl, rfl, by omega, by omega, by simp, MsO.nil _ _, KC.out, RT.out⟩
   case round =>
    clear RT KC XC TC x0 x1 lx hk1
    obtain ⟨k, DN, out, hgk, hk1, rfl, rfl, hd0, hd1, hol, hms, hkp, hrel⟩ := hrel
    have KC := Lib.hid hkp
    have XC := Lib.hid (X1.out.keep hkp (by show ¬ w.heap.size = tb; omega))
    have TC := Lib.hid (HT1.out.keep hkp)
    have zc := hkp.size
    have x0 := XC.out.cell 0
    have x1 := XC.out.cell 1
    have lx := XC.out.lt
    simp only [List.getElem?_cons_zero, List.getElem?_cons_succ] at x0 x1
    obtain ⟨oa, oc, rfl⟩ := hms.sl
    have MS := Lib.hid hms
    have HGK := Lib.hid hgk
    have Wf : IntKind.i64.wrap (FI + DN) = FI + DN := IntWalk.i64_in _ ⟨by omega, by omega⟩
    have Wa1 : IntKind.i64.wrap (b + FI) = b + FI := IntWalk.i64_in _ ⟨by omega, by omega⟩
    have Wa2 : IntKind.i64.wrap (b + FI + DN) = b + FI + DN := IntWalk.i64_in _ ⟨by omega, by omega⟩
    have Wl1 : IntKind.i64.wrap (s - FI) = s - FI := IntWalk.i64_in _ ⟨by omega, by omega⟩
    have Wl2 : IntKind.i64.wrap (s - FI - DN) = s - FI - DN := IntWalk.i64_in _ ⟨by omega, by omega⟩
    clear hkp hms hgk
    rcases hrel with ⟨rfl, htp, hE⟩ | ⟨rfl, hkT, m', hb1', hb2', hE, hend⟩
    ·have HTP := Lib.hid htp
     have HEE := Lib.hid hE
     clear htp hE
     by_cases hc1 : (out.length : Int) < most
     rotate_left
     ·as_aux_lemma =>
      go_wp2_with fail
      go_meet
      exact ⟨KC.out, k, out, DN, false, 0, rfl, rfl, rfl, MS.out, hd0, by rw [HCb.out.2.1]; exact hd1, hk1, .inl ⟨rfl, HTP.out, by rw [← gAt_full (by rw [HCb.out.2.2]; omega)]; exact HEE.out⟩⟩
     by_cases hc2 : FI + DN < s
     rotate_left
     ·as_aux_lemma =>
      go_wp2_with fail
      go_meet
      exact ⟨KC.out, k, out, DN, false, 0, rfl, rfl, rfl, MS.out, hd0, by rw [HCb.out.2.1]; exact hd1, hk1, .inl ⟨rfl, HTP.out, by rw [← gAt_full (by rw [HCb.out.2.1]; omega)]; exact HEE.out⟩⟩
     have hrec : (gAt C HD FI DN out false).record = gAt C HD FI DN out false := gAt_record (by rw [HCb.out.2.2]; exact hc1) (by rw [HCb.out.2.1]; exact hc2)
     have hE := HEE.out
     rw [hrec] at hE
     have HEE := Lib.hid hE
     clear hrec hE
     go_wp2_with fail
     refine (tLoad_any tb k tv T _ HTP.out TC.out hk1 (b + FI + DN) 8).mono ?_
     rintro e w4 ⟨k4, hcase⟩
     have z4 := k4.size
     have KC := Lib.hid (KC.out.trans k4)
     have TC := Lib.hid (TC.out.keep k4)
     have XC := Lib.hid (XC.out.keep k4 (by show ¬ w.heap.size = tb; omega))
     have MS := Lib.hid (MS.out.keep k4 (fun i h1 h2 => by omega))
     have x0 := XC.out.cell 0
     have x1 := XC.out.cell 1
     have lx := XC.out.lt
     simp only [List.getElem?_cons_zero, List.getElem?_cons_succ] at x0 x1
     clear k4 HTP
     rcases hcase with ⟨hkt, rfl, t4⟩ | ⟨hkt, rfl, t4⟩
     rotate_left
     ·as_aux_lemma =>
      subst hkt
      go_wp2_with fail
      refine (refSplit_any 0 _ (by decide) (by decide)).mono ?_
      rintro e w5 ⟨rfl, b5⟩
      go_wp2_with fail
      go_meet
      refine ⟨KC.out.trans (Below.keeps b5), T.length, out, DN, false, 0, rfl, rfl, rfl, MS.out.below b5, hd0, by rw [HCb.out.2.1]; exact hd1, Nat.le_refl _, RGe.below (RGe.done (m0 := gAt C HD FI DN out false) HEE.out rfl rfl rfl rfl ?_) b5⟩
      have he : (gAt C HD FI DN out false).want.acc = ⟨1, b + FI + DN, 8, 0, 0, .slice none 0 0⟩ := by
       unfold gAt GetM.want GetM.at AA.acc
       rw [HCb.out.1]
      rw [he]
      exact t4
     have hV := HU.out k hkt
     have hE := HEE.out
     rw [GetM.eat_told rfl hkt] at hE
     obtain ⟨V, hVV⟩ : ∃ V, V = (gA T k).an.v := ⟨_, rfl⟩
     have hst : (gAt C HD FI DN out false).step (gA T k).an = if loS V < 1 then (gAt C HD FI DN out false).zero else if loS V < 8 ∨ (gAt C HD FI DN out false).left < rsz (loS V) then (gAt C HD FI DN out true).zero else if hiS V = -1 then (gAt C HD FI (DN + rsz (loS V)) out false).record else if loS V - 8 < 1 then (gAt C HD FI DN out false).got (rsz (loS V)) (hiS V) [] else ⟨C, .rd (rsz (loS V)) (hiS V) (b + FI + DN + 8) (loS V - 8) [], HD, FI, DN, out, false, 10⟩ := by
      rw [hVV]
      show GetM.step _ _ = _
      unfold gAt GetM.step GetM.at
      dsimp only
      rw [HCb.out.1]
     rw [hst] at hE
     have hleft : (gAt C HD FI DN out false).left = s - FI - DN := by
      unfold gAt GetM.left
      dsimp only
      rw [HCb.out.2.1]
     rw [hleft] at hE
     have hV' : inU V := by rw [hVV]; exact hV
     have hVe : (gA T k).v = V := by rw [hVV]; rfl
     rw [hVe]
     have HEE := Lib.hid hE
     have HT4 := Lib.hid t4
     clear hE hst hleft hVV hVe t4 hV
     obtain ⟨L, hL⟩ : ∃ L, L = loS V := ⟨_, rfl⟩
     obtain ⟨Y, hY⟩ : ∃ Y, Y = hiS V := ⟨_, rfl⟩
     obtain ⟨l0, l1⟩ := loS_bdG V
     obtain ⟨y0, y1⟩ := hiS_bdG V
     go_wp2_with fail
     refine (refSplit_any V _ hV'.1 hV'.2).mono ?_
     rintro e w5 ⟨rfl, b5⟩
     rw [← hL, ← hY] at HEE
     rw [← hL] at l0 l1
     rw [← hY] at y0 y1
     rw [← hL, ← hY]
     have z5 := b5.size
     have KC := Lib.hid (KC.out.trans (Below.keeps b5))
     have TC := Lib.hid (TC.out.below b5)
     have HT5 := Lib.hid (show Tp w5 tb tv (k + 1) accZ false from Blk.below HT4.out b5 HT4.out.lt)
     have XC := Lib.hid (XC.out.below b5 lx)
     have MS := Lib.hid (MS.out.below b5)
     have x0 := XC.out.cell 0
     have x1 := XC.out.cell 1
     have lx := XC.out.lt
     simp only [List.getElem?_cons_zero, List.getElem?_cons_succ] at x0 x1
     clear b5 hL hY HT4
     by_cases hl1 : L < 1
     ·as_aux_lemma =>
      go_wp2_with fail
      go_meet
      refine ⟨KC.out, k + 1, out, DN, false, 0, rfl, rfl, rfl, MS.out, hd0, by rw [HCb.out.2.1]; exact hd1, hkt, .inl ⟨rfl, HT5.out, ?_⟩⟩
      have h9 := HEE.out
      rw [if_pos hl1] at h9
      exact h9
     have hE := HEE.out
     rw [if_neg hl1] at hE
     have HEE := Lib.hid hE
     clear hE
     have hsz : alV L 8 = rsz L := by rw [alV_8 (by omega) (by omega)]; unfold rsz; rw [show max L 0 = L by omega]
     have HSZ := Lib.hid hsz
     clear hsz
     have Wl : IntKind.i64.wrap L = L := IntWalk.i64_in _ ⟨by omega, by omega⟩
     obtain ⟨SZ, hSZ⟩ : ∃ SZ, SZ = rsz L := ⟨_, rfl⟩
     have s0 : L ≤ SZ ∧ SZ < L + 8 ∧ 8 ≤ SZ := by rw [hSZ]; unfold rsz; omega
     go_wp2_with fail
     refine (refAlign_any L 8 _ (by decide)).mono ?_
     rintro e w6 ⟨rfl, rfl⟩
     rw [HSZ.out]
     rw [← hSZ] at HEE ⊢
     clear hSZ HSZ
     by_cases hodd : L < 8 ∨ s - FI - DN < SZ
     ·as_aux_lemma =>
      have fin_ : XRg E w1.heap.size C HD FI tb tv T (.slice oa out.length oc) (.bool true) (.int .i64 DN) (.int .i64 13) w5 := by
       refine ⟨k + 1, out, DN, true, 13, rfl, rfl, rfl, MS.out, hd0, by rw [HCb.out.2.1]; exact hd1, hkt, .inl ⟨rfl, HT5.out, ?_⟩⟩
       have h9 := HEE.out
       rw [if_pos hodd] at h9
       exact h9
      by_cases h8 : L < 8
      ·go_wp2_with fail
       go_meet
       exact ⟨KC.out, fin_⟩
      ·have h9 : s - FI - DN < SZ := by omega
       go_wp2_with fail
       go_meet
       exact ⟨KC.out, fin_⟩
     have h8 : ¬ L < 8 := by omega
     have h9 : ¬ s - FI - DN < SZ := by omega
     have hE := HEE.out
     rw [if_neg hodd] at hE
     have HEE := Lib.hid hE
     have Wd : IntKind.i64.wrap (DN + SZ) = DN + SZ := IntWalk.i64_in _ ⟨by omega, by omega⟩
     clear hE hodd
     by_cases hp : Y = -1
     ·as_aux_lemma =>
      subst hp
      have h10 := HEE.out
      rw [if_pos rfl] at h10
      have HEE := Lib.hid h10
      clear h10
      go_wp2_with fail
      go_roundg (T.length - k)
      case measure => have := HGK.out; omega
      case rel => exact ⟨k + 1, DN + SZ, out, by omega, hkt, rfl, rfl, by omega, by omega, by omega, MS.out, KC.out, .inl ⟨rfl, HT5.out, HEE.out⟩⟩
     have hE := HEE.out
     rw [if_neg hp] at hE
     have HEE := Lib.hid hE
     clear hE
     have Wn : IntKind.i64.wrap (L - 8) = L - 8 := IntWalk.i64_in _ ⟨by omega, by omega⟩
     have Wp : IntKind.i64.wrap (b + FI + DN + 8) = b + FI + DN + 8 := IntWalk.i64_in _ ⟨by omega, by omega⟩
     have OUT := Lib.hid (show ∀ wo : World, Below w5.heap.size w5 wo → Calls Tryz.prog 149 #[.pointer (some ⟨tb, 0, none⟩), .int .i64 (b + FI + DN + 8), .int .i64 (L - 8)] wo fun e w' => Keep (· = tb) wo w' ∧ ∃ v, (∃ d k', k + 1 ≤ k' ∧ k' ≤ T.length ∧ e = .returned (.tuple #[v, .bool true]) ∧ OwB 5 wo.heap.size w' v d ∧ Tp w' tb tv k' accZ false ∧ ((gAt C HD FI DN out false).got SZ Y d).eat (ans T k') = E) ∨ (e = .returned (.tuple #[v, .bool false]) ∧ RGe w1.heap.size E w' tb tv T T.length (gAt C HD FI DN out false).zero out (.bool false)) from by
      intro wo bo
      have HTo : Tp wo tb tv (k + 1) accZ false := Blk.below HT5.out bo HT5.out.lt
      by_cases hn : L - 8 < 1
      ·refine (tOut_none tb (k + 1) tv T accZ (b + FI + DN + 8) (L - 8) 0 wo HTo hkt (by omega) (.inl hn)).mono ?_
       rintro e w7 ⟨k7, v, hcase⟩
       have h10 := HEE.out
       rw [if_pos hn] at h10
       rcases hcase with ⟨_, rfl, o7, t7⟩ | ⟨hbad, _⟩
       ·exact ⟨k7, v, .inl ⟨_, k + 1, Nat.le_refl _, hkt, rfl, o7, t7, h10⟩⟩
       ·omega
      ·obtain ⟨n, hnn⟩ : ∃ n : Nat, L - 8 = n := ⟨(L - 8).toNat, by omega⟩
       have h10 := HEE.out
       rw [if_neg hn, hnn] at h10
       rw [hnn]
       obtain ⟨r1, r2⟩ := eat_rd C SZ Y HD FI DN out false T n n (b + FI + DN + 8) [] (k + 1) (Nat.le_refl _) (by omega) hkt
       refine (tOut_row tb (k + 1) tv T accZ (b + FI + DN + 8) n wo HTo (TC.out.below bo) HLN.out hkt (by omega) (by omega) (by omega) (by omega)).mono ?_
       rintro e w7 ⟨k7, v, hcase⟩
       rcases hcase with ⟨hle, rfl, o7, t7⟩ | ⟨hgt, rfl, o7, t7⟩
       ·rw [r1 hle] at h10
        exact ⟨k7, v, .inl ⟨_, k + 1 + (n + 7) / 8, by omega, hle, rfl, o7, t7, h10⟩⟩
       ·rw [r2 hgt] at h10
        refine ⟨k7, v, .inr ⟨rfl, .inr ⟨rfl, rfl, _, rfl, rfl, h10.symm, rfl, none, 0, 0, t7, .inl ⟨rfl, rfl⟩, fun i hi => (nomatch hi)⟩⟩⟩)
     go_wp2_with fail
     refine (OUT.out _ (by first | exact Below.refl _ _ | exact (Below.refl _ _).alloc (Nat.le_refl _) _)).mono ?_
     rintro e w7 ⟨k7, v, hcase⟩
     have bo : Below w5.heap.size w5 (w5.alloc (Obj.cells #[] 5)) := (Below.refl _ _).alloc (Nat.le_refl _) _
     have z7 := k7.size
     simp at z7
     have KC := Lib.hid ((KC.out.trans (Below.keeps bo)).trans k7)
     have TC := Lib.hid ((TC.out.below bo).keep k7)
     have XC := Lib.hid ((XC.out.below bo lx).keep k7 (by show ¬ w.heap.size = tb; omega))
     have MS := Lib.hid ((MS.out.below bo).keep k7 (fun i h1 h2 => by omega))
     have x0 := XC.out.cell 0
     have x1 := XC.out.cell 1
     have lx := XC.out.lt
     simp only [List.getElem?_cons_zero, List.getElem?_cons_succ] at x0 x1
     clear k7 bo HEE HT5 OUT
     rcases hcase with ⟨d, k', hk2, hk3, rfl, o7, t7, h10⟩ | ⟨rfl, hr⟩
     rotate_left
     ·as_aux_lemma =>
      have HR := Lib.hid hr
      clear hr
      go_wp2_with fail
      go_meet
      exact ⟨KC.out, T.length, out, DN, false, 0, rfl, rfl, rfl, MS.out, hd0, by rw [HCb.out.2.1]; exact hd1, Nat.le_refl _, HR.out⟩
     as_aux_lemma =>
     have HEE := Lib.hid h10
     have HT7 := Lib.hid t7
     have O7 := Lib.hid (OwB.mono o7 (B' := w1.heap.size) (by have := KC.out.size; simp; omega))
     obtain ⟨va, vl, vc, rfl⟩ := OwB.isSlB o7
     obtain ⟨⟨es, he, ho, hes⟩, hlo⟩ := MS.out
     have hel : es.length = out.length := by rw [← he, List.length_map]
     have HES := Lib.hid (And.intro he (And.intro ho (And.intro hes hlo)))
     have HEL := Lib.hid hel
     have hol2 : es.length ≤ 1024 := by omega
     clear h10 t7 o7 he ho hes hlo
     have hnew := Blk.made w7 #[Value.int .i32 Y, Value.slice va vl vc] 84
     have bA : Below w7.heap.size w7 (w7.alloc (Obj.cells #[Value.int .i32 Y, Value.slice va vl vc] 84)) := (Below.refl _ _).alloc (Nat.le_refl _) _
     have HNW := Lib.hid hnew
     have BA := Lib.hid bA
     have HOA := Lib.hid (ownsRow_keep HES.out.2.1 (Below.keeps (M := fun _ => False) bA) (fun _ _ => id))
     have LA := Lib.hid (show ∀ u ∈ [Value.int .i32 Y, Value.slice va vl vc], u.oneCell' = true by intro u hu; simp at hu; rcases hu with rfl | rfl <;> rfl)
     clear hnew bA hel
     go_wp2_with (refine list_app1 rfl (.tmp 114) (.tmp 118) 66 84 rfl Tryz.underlying66 hi hz0 hz1 hz2 rfl (by decide) (.slice oa out.length oc) es.length (es.flatMap msL) rfl HOA.out w7.heap.size [Value.int .i32 Y, Value.slice va vl vc] rfl HNW.out rfl LA.out (by omega) (by unfold maxLen; omega) ?_)
     intro v8 w8 o8 g8 e8
     have K8 := grown_keep g8
     have z8 := K8.size
     simp at z8
     have KA := (Below.keeps (M := fun i => (Value.slice oa out.length oc).ownBlock = some i) BA.out).trans K8
     have P8 := MsO.push HES.out.1 (HOA.out) (fun e hm => ⟨(HES.out.2.2.1 e hm).1.below BA.out, fun i hi => ⟨((HES.out.2.2.1 e hm).2 i hi).1, by have := ((HES.out.2.2.1 e hm).2 i hi).2.1; simp; omega, ((HES.out.2.2.1 e hm).2 i hi).2.2⟩⟩) HES.out.2.2.2 (by have := KC.out.size; simp; omega) (ownsRow_keep O7.out (Below.keeps (M := fun _ => False) BA.out) (fun _ _ => id)) K8 (t := Y) (d := d) o8 (e8.imp id fun h => by rw [h]; simp)
     have T8 : Tp w8 tb tv k' accZ false := Blk.keep HT7.out KA (fun e => by have h1 := HES.out.2.2.2 tb e; omega)
     have KW : Keep (· = tb) w1 w8 := KC.out.then KA (fun i hi e => by have h1 := HES.out.2.2.2 i e; omega)
     have P8' := Lib.hid P8
     have T8' := Lib.hid T8
     have KW' := Lib.hid KW
     clear o8 g8 e8 K8 KA P8 T8 KW
     go_wp2_with fail
     go_roundg (T.length + 1 - k')
     case measure => have := HGK.out; omega
     case rel => exact ⟨k', DN + SZ, out ++ [(Y, d)], by omega, hk3, rfl, rfl, by omega, by omega, by simp; omega, P8'.out, KW'.out, .inl ⟨rfl, T8'.out, HEE.out⟩⟩
    ·as_aux_lemma =>
     have HRR := Lib.hid (show RGe w1.heap.size E wr tb tv T T.length (gAt C HD FI DN out false).zero out (.bool false) from .inr ⟨rfl, rfl, m', hb1', hb2', hE, hend⟩)
     clear hE hend hb1' hb2'
     go_wp2_with fail
     go_meet
     exact ⟨KC.out, T.length, out, DN, false, 0, rfl, rfl, rfl, MS.out, hd0, by rw [HCb.out.2.1]; exact hd1, Nat.le_refl _, HRR.out⟩
  case rest =>
   as_aux_lemma =>
   obtain ⟨hkp, k', out, DN, odd, EV, rfl, rfl, hev, hms, hd0, hd1, hk', hrt⟩ := hcut
   have HEV := Lib.hid hev
   clear hev
   rw [HCb.out.2.1] at hd1
   obtain ⟨oa, oc, rfl⟩ := hms.sl
   have KC := Lib.hid hkp
   have XC := Lib.hid (X1.out.keep hkp (by show ¬ w.heap.size = tb; omega))
   have TC := Lib.hid (HT1.out.keep hkp)
   have MS := Lib.hid hms
   have RT := Lib.hid hrt
   have zc := hkp.size
   have x0 := XC.out.cell 0
   have x1 := XC.out.cell 1
   have lx := XC.out.lt
   simp only [List.getElem?_cons_zero, List.getElem?_cons_succ] at x0 x1
   have Wa1 : IntKind.i64.wrap (b + FI) = b + FI := IntWalk.i64_in _ ⟨by omega, by omega⟩
   have Wu : IntKind.u64.wrap DN = DN := IntWalk.u64_in _ ⟨by omega, by omega⟩
   clear hkp hms hrt
   go_upto_region 22 with fail
   go_cut [127] from 123 to 149 (fun c wx => ∃ cb : Bool, c = .bool cb ∧ Below wc.heap.size wc wx ∧ (u11 = .bool false → cb = false) ∧ (u11 = .bool true → cb = decide (0 < DN)))
   case first =>
    as_aux_lemma =>
    rcases RT.out with ⟨rfl, htp, hE⟩ | ⟨rfl, hkT, m', hb1', hb2', hE, hend⟩
    ·clear htp hE
     by_cases hz : 0 < DN
     ·go_wp2_with fail
      go_meet
      exact ⟨true, by first | rfl | exact congrArg Value.bool (decide_eq_true hz), Below.refl _ _, nofun, fun _ => (decide_eq_true hz).symm⟩
     ·go_wp2_with fail
      go_meet
      exact ⟨false, by first | rfl | exact congrArg Value.bool (decide_eq_false (by omega)), Below.refl _ _, nofun, fun _ => (decide_eq_false (by omega)).symm⟩
    ·clear hend hE
     go_wp2_with fail
     go_meet
     exact ⟨false, rfl, Below.refl _ _, fun _ => rfl, nofun⟩
   case rest =>
   as_aux_lemma =>
   obtain ⟨cb, rfl, b3, hc1, hc2⟩ := hcut
   have C1 := Lib.hid hc1
   have C2 := Lib.hid hc2
   have RT := Lib.hid (RT.out.below b3)
   have XC := Lib.hid (XC.out.below b3 lx)
   have TC := Lib.hid (TC.out.below b3)
   have MS := Lib.hid (MS.out.below b3)
   have KC := Lib.hid (KC.out.trans (Below.keeps b3))
   have x0 := XC.out.cell 0
   have x1 := XC.out.cell 1
   have lx := XC.out.lt
   simp only [List.getElem?_cons_zero, List.getElem?_cons_succ] at x0 x1
   clear b3 hc1 hc2
   go_upto_if 127 with fail
   go_cut [11] from 123 to 149 (fun ok wx => ∃ k2, k2 ≤ T.length ∧ Keep (· = tb) wc wx ∧ RGe w1.heap.size E wx tb tv T k2 (gAt C HD FI DN out odd).stop out ok)
   case first =>
    as_aux_lemma =>
    rcases RT.out with ⟨rfl, htp, hE⟩ | ⟨rfl, hkT, m', hb1', hb2', hE, hend⟩
    ·by_cases hz : 0 < DN
     ·obtain rfl : cb = true := (C2.out rfl).trans (decide_eq_true hz)
      obtain ⟨n, hn⟩ : ∃ n : Nat, DN = n := ⟨DN.toNat, by omega⟩
      have h10 : (GetM.mk C (.zr (b + FI) n) HD FI DN out odd 10).eat (ans T k') = E := by
       rw [← hE]
       unfold GetM.zero gAt
       dsimp only
       rw [if_neg (by omega), HCb.out.1, hn]
      have HN := Lib.hid hn
      have HTP := Lib.hid htp
      have HEE := Lib.hid h10
      have ZR := Lib.hid (show Calls Tryz.prog 150 #[.pointer (some ⟨tb, 0, none⟩), .int .i64 (b + FI), .int .i64 DN] wc (InPostO wc tb k' tv T accZ (b + FI) (List.replicate n 0) (fun i => wc.heap.size ≤ i)) from by
       rw [hn]
       exact tZero_rowO tb k' tv T accZ (b + FI) n _ HTP.out TC.out hk' (by omega) (by omega) (by omega) (by omega))
      have hn1 : 1 ≤ n := by omega
      clear h10 hE htp hn
      go_wp2_with fail
      refine ZR.out.mono ?_
      rintro e w7 ⟨k7, hcase⟩
      obtain ⟨r1, r2⟩ := eat_zr C HD FI DN out odd T n n (b + FI) k' (Nat.le_refl _) (by omega) hk'
      have z7 := k7.size
      have XC := Lib.hid (XC.out.keep k7 (by show ¬ w.heap.size = tb; omega))
      have TC := Lib.hid (TC.out.keep k7)
      have x0 := XC.out.cell 0
      have x1 := XC.out.cell 1
      have lx := XC.out.lt
      simp only [List.getElem?_cons_zero, List.getElem?_cons_succ] at x0 x1
      have K7 := Lib.hid k7
      simp only [List.length_replicate] at hcase
      rcases hcase with ⟨hle, rfl, t7⟩ | ⟨hgt, rfl, s0, sl, sc, t7, r7, o7⟩
      ·have h10 := HEE.out
       rw [r1 hle] at h10
       have HEE := Lib.hid h10
       have HT7 := Lib.hid t7
       have Wst : IntKind.u64.wrap (HD + DN) = Go.Proofs.YtknahaaefmlcpaaGreat.u64 (HD + DN) := wrap_u64' _
       clear h10 t7 r1 r2 k7
       go_wp2_with fail
       refine (tStore_any tb (k' + (n + 7) / 8) tv T _ HT7.out TC.out hle (b + s + 16) 8 (Go.Proofs.YtknahaaefmlcpaaGreat.u64 (HD + DN))).mono ?_
       rintro e w8 ⟨k8, hcase⟩
       rcases hcase with ⟨hkt, rfl, t8⟩ | ⟨hkt, rfl, t8⟩
       ·go_wp2_with fail
        go_meet
        refine ⟨_, hkt, K7.out.trans k8, .inl ⟨rfl, t8, ?_⟩⟩
        have h10 := HEE.out
        rw [GetM.eat_told rfl hkt] at h10
        exact h10
       ·go_wp2_with fail
        go_meet
        refine ⟨T.length, Nat.le_refl _, K7.out.trans k8, RGe.done (m0 := ⟨C, .st, HD, FI, DN, out, odd, 10⟩) (by rw [← hkt]; exact HEE.out) rfl rfl rfl rfl ?_⟩
        have he : (GetM.mk C .st HD FI DN out odd 10).want.acc = ⟨2, b + s + 16, 8, Go.Proofs.YtknahaaefmlcpaaGreat.u64 (HD + DN), 0, .slice none 0 0⟩ := by
         unfold GetM.want AA.acc
         rw [HCb.out.1, HCb.out.2.1]
        rw [he]
        exact t8
      ·have h10 := HEE.out
       rw [r2 hgt] at h10
       have HEE := Lib.hid h10
       have HT7 := Lib.hid t7
       have HR7 := Lib.hid r7
       have HO7 := Lib.hid o7
       clear h10 t7 r1 r2 r7 k7 o7
       go_wp2_with fail
       go_meet
       refine ⟨T.length, Nat.le_refl _, K7.out, .inr ⟨rfl, rfl, _, rfl, rfl, HEE.out.symm, rfl, s0, sl, sc, HT7.out, ?_, fun i hi => Nat.le_trans KC.out.size (HO7.out i hi)⟩⟩
       have h11 := HR7.out
       have e1 : ((List.replicate n (0 : Int)).drop (8 * (T.length - k'))).take 8 = List.replicate (min ((n - 8 * (T.length - k') : Nat) : Int) 8).toNat 0 := by
        rw [List.drop_replicate, List.take_replicate]
        congr 1
        omega
       rw [e1] at h11
       exact h11
     ·obtain rfl : cb = false := (C2.out rfl).trans (decide_eq_false (by omega))
      have HTP := Lib.hid htp
      have h10 : (gAt C HD FI DN out odd).stop.eat (ans T k') = E := by
       rw [← hE]
       unfold GetM.zero gAt
       dsimp only
       rw [if_pos (by omega)]
      have HEE := Lib.hid h10
      clear htp h10 hE
      go_wp2_with fail
      go_meet
      exact ⟨k', hk', Keep.refl _ _, .inl ⟨rfl, HTP.out, HEE.out⟩⟩
    ·obtain rfl : cb = false := C1.out rfl
     have HRR := Lib.hid (show RGe w1.heap.size E wc tb tv T k' (gAt C HD FI DN out odd).stop out (.bool false) from .inr ⟨rfl, hkT, m', hb1', hb2', hE, hend⟩)
     clear hE hend hb1' hb2'
     go_wp2_with fail
     go_meet
     exact ⟨k', hk', Keep.refl _ _, HRR.out⟩
   case rest =>
    as_aux_lemma =>
    obtain ⟨k2, hk2, kp2, hrt⟩ := hcut
    have MS := Lib.hid (MS.out.keep kp2 (fun i h1 h2 => by omega))
    have KC := Lib.hid (KC.out.trans kp2)
    clear kp2 RT
    rcases hrt with ⟨rfl, htp, hE⟩ | ⟨rfl, hkT, m', hb1', hb2', hE, hend⟩
    ·rw [GetM.eat_done rfl] at hE
     have HEE := Lib.hid hE
     have HTP := Lib.hid htp
     have TT : TpAtO getMac w1.heap.size wc tb tv T E := by
      rw [← HEE.out]
      refine .inr ⟨rfl, ?_⟩
      rw [ans_len, show T.length - (T.length - k2) = k2 by omega]
      exact HTP.out
     have HTT := Lib.hid TT
     clear hE htp TT
     cases odd with
     | true =>
      obtain rfl : EV = 13 := HEV.out
      go_wp2
      go_ret3
      refine ⟨(Below.keeps B1.out).trans KC.out, _, ?_, by rw [← HEE.out]; exact MS.out.ms.mono (fun i hi => by omega) (fun i hi => by omega), HTT.out.mono B1.out.size⟩
      rw [← HEE.out]
      rfl
     | false =>
      obtain rfl : EV = 0 := HEV.out
      go_wp2
      go_ret3
      refine ⟨(Below.keeps B1.out).trans KC.out, _, ?_, by rw [← HEE.out]; exact MS.out.ms.mono (fun i hi => by omega) (fun i hi => by omega), HTT.out.mono B1.out.size⟩
      rw [← HEE.out]
      rfl
    ·have HEE := Lib.hid hE
     have HEN := Lib.hid hend
     have HO := Lib.hid hb1'
     have HE2 := Lib.hid hb2'
     clear hE hend hb1' hb2'
     go_wp2
     go_ret3
     refine ⟨(Below.keeps B1.out).trans KC.out, _, ?_, by rw [HEE.out]; rw [HO.out]; exact MS.out.ms.mono (fun i hi => by omega) (fun i hi => by omega), by rw [HEE.out]; exact HEN.out.to.mono B1.out.size⟩
     have hr : m'.res = (0, 10) := by
      unfold GetM.res
      rw [HE2.out]
      rfl
     rw [HEE.out, hr]
     rfl
set_option maxHeartbeats 1000000 in
theorem refGet_any (tb k0 : Nat) (tv : Value) (T : List AnsV) (b s most : Int) (w : World) (h : Tp w tb tv k0 accZ false) (hT : TOk w tb tv T) (hk : k0 ≤ T.length) (hu : ∀ i, i < T.length → inU (gA T i).v) (hlens : ∀ i, i < T.length → (gA T i).b.length ≤ 1000) (hb0 : -9223372036854775808 ≤ b) (hb1 : b ≤ 9223372036854775807) (hs0 : -9223372036854775808 ≤ s) (hs1 : s ≤ 9223372036854775807) (hm1 : most ≤ 9223372036854775807) :
  Calls Tryz.prog 108 #[.pointer (some ⟨tb, 0, none⟩), .agg #[.int .i64 b, .int .i64 s], .int .i64 most] w (GetSaid w tb tv T ((GetC.init ⟨b, s, most⟩).eat (ans T k0))) := by
 by_cases hok : (GetC.mk b s most).ok = true
 ·exact refGet_ok tb k0 tv T b s most w h hT hk hu hlens hok hm1
 have hok' : (GetC.mk b s most).ok = false := by simpa using hok
 have H := Lib.hid h
 have hlt := h.lt
 have hi : GetC.init ⟨b, s, most⟩ = ⟨⟨b, s, most⟩, .done, 0, 0, 0, [], false, 1⟩ := by unfold GetC.init; rw [hok']; rfl
 have FIN := Lib.hid (show ∀ w' : World, Below w.heap.size w w' → GetSaid w tb tv T ((GetC.init ⟨b, s, most⟩).eat (ans T k0)) (.returned (.tuple #[.slice none 0 0, .int .i64 0, .int .i64 1])) w' from by
  intro w' bb
  rw [hi, GetM.eat_done rfl]
  refine ⟨Below.keeps bb, _, rfl, (MsO.nil _ _).ms, .inr ⟨rfl, ?_⟩⟩
  rw [ans_len, show T.length - (T.length - k0) = k0 by omega]
  exact Blk.below H.out bb hlt)
 clear hi
 by_cases hg : rgOk b s = true
 ·have hm : most < 1 := by
   by_cases hlt1 : most < 1
   ·exact hlt1
   ·exact absurd (by unfold GetC.ok; simp [hg]; omega) hok
  have RG := Lib.hid hg
  clear hok hok' hg h hT
  go_enter Tryz.func108, Tryz.ntmps108
  go_wp2_with fail
  refine (rRight_any b s _ hb0 hb1 hs0 hs1).mono ?_
  rintro e w1 ⟨rfl, b1⟩
  rw [RG.out]
  go_wp2
  go_ret3
  exact FIN.out _ (((Below.refl w.heap.size w).alloc (Nat.le_refl _) _).trans (b1.mono (by simp)))
 ·have hg' : rgOk b s = false := by simpa using hg
  have RG := Lib.hid hg'
  clear hok hok' hg hg' h hT
  go_enter Tryz.func108, Tryz.ntmps108
  go_wp2_with fail
  refine (rRight_any b s _ hb0 hb1 hs0 hs1).mono ?_
  rintro e w1 ⟨rfl, b1⟩
  rw [RG.out]
  go_wp2
  go_ret3
  exact FIN.out _ (((Below.refl w.heap.size w).alloc (Nat.le_refl _) _).trans (b1.mono (by simp)))
theorem Blk.c6g {w : World} {b : Nat} {x0 x1 x2 x3 x4 x5 : Value} (h : Blk w b [x0, x1, x2, x3, x4, x5]) : w.cell? ⟨b, 0, none⟩ = some x0 ∧ w.cell? ⟨b, 1, none⟩ = some x1 ∧ w.cell? ⟨b, 2, none⟩ = some x2 ∧ w.cell? ⟨b, 3, none⟩ = some x3 ∧ w.cell? ⟨b, 4, none⟩ = some x4 ∧ w.cell? ⟨b, 5, none⟩ = some x5 :=
 ⟨h.cell 0, h.cell 1, h.cell 2, h.cell 3, h.cell 4, h.cell 5⟩
def GetM.told (m : GetM) (T : List AnsV) : GetM := T.foldl (fun m x => m.step x.an) m
end Go.Proofs.YtknahaaefmlcpaaGreat
end
