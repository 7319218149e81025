/- What a get makes of a tape. No program in sight but the tape's place in memory. Conditions: as each says. Rows of messages that nobody else holds. Conditions: as each says. The reference's Same: the same messages. Conditions: few messages. The contract of the reference's Get. Conditions: as it says. Contracts of the reference's Get of anything, and of law08.same. Conditions: as each says. The walk of the law RinggetSteps. Conditions: the numbers are in their kinds' ranges. -/
import Derived.Test.YtpicplkbblmbeaaGreatQc
import Derived.Test.YtpicplkbblmbeaaGreatGp
import Derived.BigQuiet
import Derived.Deep.CutBlock
import Derived.Deep.LoopGhost
import Derived.Test.YtpicplkbblmbeaaGreatGq
section
namespace Go.Proofs.YtpicplkbblmbeaaGreat
set_option maxRecDepth 100000
open Go.RowKit
set_option linter.unusedVariables false
set_option linter.unusedSimpArgs false
def GetM.eat (m : GetM) (L : List AN) : GetM × List AN := Mac.eat getMac m L
theorem GetM.eat_told {m : GetM} {T : List AnsV} {k : Nat} (hl : m.live = true) (hk : k < T.length) : m.eat (ans T k) = (m.step (gA T k).an).eat (ans T (k + 1)) := Go.Proofs.YtpicplkbblmbeaaGreat.eat_told (M := getMac) hl hk
theorem GetM.eat_end {m : GetM} {T : List AnsV} {k : Nat} (hk : T.length ≤ k) : m.eat (ans T k) = (m, []) := Go.Proofs.YtpicplkbblmbeaaGreat.eat_end (M := getMac) hk
theorem GetM.eat_done {m : GetM} (hl : m.live = false) (L : List AN) : m.eat L = (m, L) := Go.Proofs.YtpicplkbblmbeaaGreat.eat_done (M := getMac) hl L
/-- A get wants something, and the tape is at its end. -/
def GEnd (w : World) (tb : Nat) (tv : Value) (T : List AnsV) (m : GetM) : Prop := m.live = true ∧ ∃ s0 sl sc, Tp w tb tv T.length ⟨m.want.k, m.want.a, m.want.n, m.want.v, m.want.x, .slice s0 sl sc⟩ true ∧ RdB w (.slice s0 sl sc) m.want.b
theorem GEnd.to {w : World} {tb : Nat} {tv : Value} {T : List AnsV} {m : GetM} (h : GEnd w tb tv T m) : TpAt getMac w tb tv T (m, []) := .inl ⟨h.1, rfl, h.2⟩
/-- A get behind a record. -/
def gAt (C : GetC) (HD FI dn : Int) (out : List (Int × List Int)) (odd : Bool) : GetM := ⟨C, .rc, HD, FI, dn, out, odd, 10⟩
/-- Where the reference stands. -/
def RGe (E : GetM × List AN) (w : World) (tb : Nat) (tv : Value) (T : List AnsV) (k : Nat) (m : GetM) (out : List (Int × List Int)) (ok : Value) : Prop :=
  (ok = .bool true ∧ Tp w tb tv k accZ false ∧ m.eat (ans T k) = E) ∨ (ok = .bool false ∧ k = T.length ∧ ∃ m' : GetM, m'.out = out ∧ m'.e = 10 ∧ E = (m', []) ∧ GEnd w tb tv T m')
theorem RGe.below {E : GetM × List AN} {w w' : World} {tb : Nat} {tv : Value} {T : List AnsV} {k : Nat} {m : GetM} {out : List (Int × List Int)} {ok : Value} (h : RGe E w tb tv T k m out ok) (b : Below w.heap.size w w') : RGe E w' tb tv T k m out ok := by
  rcases h with ⟨h1, h2, h3⟩ | ⟨h1, h2, m', h3, h3', h4, h5, s0, sl, sc, h6, h7⟩
  · exact .inl ⟨h1, Blk.below h2 b h2.lt, h3⟩
  · exact .inr ⟨h1, h2, m', h3, h3', h4, h5, s0, sl, sc, Blk.below h6 b h6.lt, h7.below b⟩
theorem RGe.tpk {E : GetM × List AN} {w : World} {tb : Nat} {tv : Value} {T : List AnsV} {k : Nat} {m : GetM} {out : List (Int × List Int)} {ok : Value} (h : RGe E w tb tv T k m out ok) : tpK w tb = k := by
  rcases h with ⟨h1, h2, h3⟩ | ⟨h1, h2, m', h3, h3', h4, h5, s0, sl, sc, h6, h7⟩
  · exact h2.tpk
  · rw [h2]
    exact h6.tpk
theorem RGe.lt {E : GetM × List AN} {w : World} {tb : Nat} {tv : Value} {T : List AnsV} {k : Nat} {m : GetM} {out : List (Int × List Int)} {ok : Value} (h : RGe E w tb tv T k m out ok) : tb < w.heap.size := by
  rcases h with ⟨h1, h2, h3⟩ | ⟨h1, h2, m', h3, h3', h4, h5, s0, sl, sc, h6, h7⟩
  · exact h2.lt
  · exact h6.lt
theorem RGe.done {E : GetM × List AN} {w : World} {tb : Nat} {tv : Value} {T : List AnsV} {m m0 : GetM} {out : List (Int × List Int)} (hm : m0.eat (ans T T.length) = E) (ho : m0.out = out) (he : m0.e = 10) (hl : m0.live = true) (hw : m0.want.b = []) (ht : Tp w tb tv T.length m0.want.acc true) : RGe E w tb tv T T.length m out (.bool false) :=
  .inr ⟨rfl, rfl, m0, ho, he, by rw [← hm]; exact GetM.eat_end (Nat.le_refl _), hl, none, 0, 0, ht, by rw [hw]; exact .inl ⟨rfl, rfl⟩⟩
theorem catB_head (T : List AnsV) (k : Nat) : ∀ j, catB T k (j + 1) = (gA T k).b ++ catB T (k + 1) j
  | 0 => by simp [catB]
  | j + 1 => by
    rw [catB_succ, catB_head T k j, catB_succ, List.append_assoc, show k + (j + 1) = k + 1 + j by omega]
theorem eat_rd (C : GetC) (sz typ HD FI dn : Int) (out : List (Int × List Int)) (odd : Bool) (T : List AnsV) : ∀ (f n : Nat) (p : Int) (hv : List Int) (k : Nat), n ≤ f → n ≠ 0 → k ≤ T.length →
    (k + (n + 7) / 8 ≤ T.length → (GetM.mk C (.rd sz typ p n hv) HD FI dn out odd 10).eat (ans T k) = ((GetM.mk C .rc HD FI dn out odd 10).got sz typ (hv ++ catB T k ((n + 7) / 8))).eat (ans T (k + (n + 7) / 8))) ∧
    (T.length < k + (n + 7) / 8 → (GetM.mk C (.rd sz typ p n hv) HD FI dn out odd 10).eat (ans T k) = (GetM.mk C (.rd sz typ (p + 8 * ((T.length - k : Nat) : Int)) ((n - 8 * (T.length - k) : Nat) : Int) (hv ++ catB T k (T.length - k))) HD FI dn out odd 10, [])) := by
  intro f
  induction f with
  | zero => intro n p hv k h1 h2; omega
  | succ f ih =>
    intro n p hv k h1 h2 hk
    by_cases hkt : k < T.length
    · rw [GetM.eat_told rfl hkt]
      have hst : GetM.step (GetM.mk C (.rd sz typ p n hv) HD FI dn out odd 10) (gA T k).an = if (n : Int) ≤ 8 then (GetM.mk C .rc HD FI dn out odd 10).got sz typ (hv ++ (gA T k).b) else GetM.mk C (.rd sz typ (p + 8) ((n : Int) - 8) (hv ++ (gA T k).b)) HD FI dn out odd 10 := rfl
      rw [hst]
      by_cases h8 : n ≤ 8
      · rw [if_pos (by omega)]
        have e1 : (n + 7) / 8 = 1 := by omega
        rw [e1]
        refine ⟨fun _ => ?_, fun h => by omega⟩
        have e2 : catB T k 1 = (gA T k).b := by simp [catB]
        rw [e2]
      · rw [if_neg (by omega)]
        obtain ⟨i1, i2⟩ := ih (n - 8) (p + 8) (hv ++ (gA T k).b) (k + 1) (by omega) (by omega) hkt
        have ec : ((n : Int) - 8) = ((n - 8 : Nat) : Int) := by omega
        have en : (n - 8 + 7) / 8 + 1 = (n + 7) / 8 := by omega
        rw [ec]
        refine ⟨fun h => ?_, fun h => ?_⟩
        · rw [i1 (by omega), List.append_assoc]
          have e3 : (gA T k).b ++ catB T (k + 1) ((n - 8 + 7) / 8) = catB T k ((n + 7) / 8) := by
            rw [← en]
            exact (catB_head T k _).symm
          rw [e3, show k + 1 + (n - 8 + 7) / 8 = k + (n + 7) / 8 by omega]
        · rw [i2 (by omega), List.append_assoc]
          have e3 : (gA T k).b ++ catB T (k + 1) (T.length - (k + 1)) = catB T k (T.length - k) := by
            rw [show T.length - k = T.length - (k + 1) + 1 by omega]
            exact (catB_head T k _).symm
          rw [e3, show p + 8 + 8 * ((T.length - (k + 1) : Nat) : Int) = p + 8 * ((T.length - k : Nat) : Int) by omega, show n - 8 - 8 * (T.length - (k + 1)) = n - 8 * (T.length - k) by omega]
    · have e0 : T.length - k = 0 := by omega
      refine ⟨fun h => by omega, fun h => ?_⟩
      rw [GetM.eat_end (by omega), e0]
      simp [catB]
theorem eat_zr (C : GetC) (HD FI dn : Int) (out : List (Int × List Int)) (odd : Bool) (T : List AnsV) : ∀ (f n : Nat) (p : Int) (k : Nat), n ≤ f → n ≠ 0 → k ≤ T.length →
    (k + (n + 7) / 8 ≤ T.length → (GetM.mk C (.zr p n) HD FI dn out odd 10).eat (ans T k) = (GetM.mk C .st HD FI dn out odd 10).eat (ans T (k + (n + 7) / 8))) ∧
    (T.length < k + (n + 7) / 8 → (GetM.mk C (.zr p n) HD FI dn out odd 10).eat (ans T k) = (GetM.mk C (.zr (p + 8 * ((T.length - k : Nat) : Int)) ((n - 8 * (T.length - k) : Nat) : Int)) HD FI dn out odd 10, [])) := by
  intro f
  induction f with
  | zero => intro n p k h1 h2; omega
  | succ f ih =>
    intro n p k h1 h2 hk
    by_cases hkt : k < T.length
    · rw [GetM.eat_told rfl hkt]
      have hst : GetM.step (GetM.mk C (.zr p n) HD FI dn out odd 10) (gA T k).an = if (n : Int) ≤ 8 then GetM.mk C .st HD FI dn out odd 10 else GetM.mk C (.zr (p + 8) ((n : Int) - 8)) HD FI dn out odd 10 := rfl
      rw [hst]
      by_cases h8 : n ≤ 8
      · rw [if_pos (by omega)]
        have e1 : (n + 7) / 8 = 1 := by omega
        rw [e1]
        exact ⟨fun _ => rfl, fun h => by omega⟩
      · rw [if_neg (by omega)]
        obtain ⟨i1, i2⟩ := ih (n - 8) (p + 8) (k + 1) (by omega) (by omega) hkt
        have ec : ((n : Int) - 8) = ((n - 8 : Nat) : Int) := by omega
        rw [ec]
        refine ⟨fun h => ?_, fun h => ?_⟩
        · rw [i1 (by omega), show k + 1 + (n - 8 + 7) / 8 = k + (n + 7) / 8 by omega]
        · rw [i2 (by omega), show p + 8 + 8 * ((T.length - (k + 1) : Nat) : Int) = p + 8 * ((T.length - k : Nat) : Int) by omega, show n - 8 - 8 * (T.length - (k + 1)) = n - 8 * (T.length - k) by omega]
    · have e0 : T.length - k = 0 := by omega
      refine ⟨fun h => by omega, fun h => ?_⟩
      rw [GetM.eat_end (by omega), e0]
      simp
end Go.Proofs.YtpicplkbblmbeaaGreat
end
section
namespace Go.Proofs.YtpicplkbblmbeaaGreat
set_option maxRecDepth 100000
open Go.RowKit
set_option linter.unusedVariables false
set_option linter.unusedSimpArgs false
/-- A slice value owns a row of messages; all of it lies from block B on. -/
structure MsO (B : Nat) (w : World) (ov : Value) (out : List (Int × List Int)) : Prop where
  ex : ∃ es : List ((Int × List Int) × Value), es.map (·.1) = out ∧ w.ownsRow 0 88 2 ov es.length (es.flatMap msL) ∧ ∀ e ∈ es, RdB w e.2 e.1.2 ∧ ∀ i, e.2.ownBlock = some i → B ≤ i ∧ i < w.heap.size ∧ ov.ownBlock ≠ some i
  lo : ∀ i, ov.ownBlock = some i → B ≤ i
theorem MsO.nil (B : Nat) (w : World) : MsO B w (.slice none 0 0) [] := ⟨⟨[], rfl, World.ownsRow_nil _ _ _ _, fun e he => by cases he⟩, fun i hi => by cases hi⟩
theorem MsO.keep {B : Nat} {w w' : World} {K : Nat → Prop} {ov : Value} {out : List (Int × List Int)} (h : MsO B w ov out) (k : Keep K w w') (hd : ∀ i, B ≤ i → ¬ K i) : MsO B w' ov out := by
  obtain ⟨⟨es, h1, h2, h3⟩, h4⟩ := h
  have z := k.size
  exact ⟨⟨es, h1, ownsRow_keep h2 k (fun i hi => hd i (h4 i hi)), fun e he => ⟨(h3 e he).1.keepP k (fun i hi => hd i ((h3 e he).2 i hi).1), fun i hi => ⟨((h3 e he).2 i hi).1, Nat.lt_of_lt_of_le ((h3 e he).2 i hi).2.1 z, ((h3 e he).2 i hi).2.2⟩⟩⟩, h4⟩
theorem MsO.below {B : Nat} {w w' : World} {ov : Value} {out : List (Int × List Int)} (h : MsO B w ov out) (b : Below w.heap.size w w') : MsO B w' ov out := h.keep (K := fun _ => False) (Below.keeps b) (fun _ _ => id)
theorem MsO.ms {B : Nat} {w : World} {ov : Value} {out : List (Int × List Int)} (h : MsO B w ov out) : MsIn w (fun i => B ≤ i) (fun i => B ≤ i) ov out := by
  obtain ⟨⟨es, h1, h2, h3⟩, h4⟩ := h
  exact ⟨⟨es, h1, h2, fun e he => ⟨(h3 e he).1, fun i hi => ((h3 e he).2 i hi).1⟩⟩, h4⟩
theorem MsO.sl {B : Nat} {w : World} {ov : Value} {out : List (Int × List Int)} (h : MsO B w ov out) : ∃ a c, ov = .slice a out.length c := h.ms.sl
/-- What an append of one message leaves. -/
theorem MsO.push {B : Nat} {w w1 : World} {ov ov' dv : Value} {out : List (Int × List Int)} {t : Int} {d : List Int} {es : List ((Int × List Int) × Value)} (he : es.map (·.1) = out) (ho : w.ownsRow 0 88 2 ov es.length (es.flatMap msL)) (hes : ∀ e ∈ es, RdB w e.2 e.1.2 ∧ ∀ i, e.2.ownBlock = some i → B ≤ i ∧ i < w.heap.size ∧ ov.ownBlock ≠ some i) (hlo : ∀ i, ov.ownBlock = some i → B ≤ i) (hB : B ≤ w.heap.size)
    (hd : OwB 5 B w dv d) (k : Keep (fun i => ov.ownBlock = some i) w w1) (ho1 : w1.ownsRow 0 88 2 ov' (es.length + 1) (es.flatMap msL ++ msL ((t, d), dv))) (hv : ov'.ownBlock = ov.ownBlock ∨ ov'.ownBlock = some w.heap.size) : MsO B w1 ov' (out ++ [(t, d)]) := by
  have z := k.size
  have ne : ∀ i, dv.ownBlock = some i → ov.ownBlock ≠ some i := by
    intro i hi hvi
    rcases hd.2 with ⟨rfl, _⟩ | ⟨g1, c1, u1, rfl, _, e1, _⟩
    · cases hi
    rcases ho.2 with ⟨rfl, _⟩ | ⟨g2, c2, u2, rfl, _, e2, _⟩
    · cases hvi
    have a1 : g1 = i := Option.some.inj hi
    have a2 : g2 = i := Option.some.inj hvi
    subst a1 a2
    rw [e1] at e2
    simp only [Option.some.injEq, Obj.cells.injEq] at e2
    exact absurd e2.2.1 (by decide)
  have hov' : ∀ i, i < w.heap.size → ov.ownBlock ≠ some i → ov'.ownBlock ≠ some i := by
    intro i hi h1 h2
    rcases hv with e | e
    · exact h1 (e ▸ h2)
    · rw [e] at h2
      have := Option.some.inj h2
      omega
  refine ⟨⟨es ++ [((t, d), dv)], by simp [he], by simpa using ho1, ?_⟩, ?_⟩
  · intro e hm
    rcases List.mem_append.1 hm with hm | hm
    · obtain ⟨a, b⟩ := hes e hm
      exact ⟨a.keepP k (fun i hi => (b i hi).2.2), fun i hi => ⟨(b i hi).1, by have := (b i hi).2.1; omega, hov' i (b i hi).2.1 (b i hi).2.2⟩⟩
    · obtain rfl := List.mem_singleton.1 hm
      have hdl : ∀ i, dv.ownBlock = some i → B ≤ i ∧ i < w.heap.size := fun i hi => World.ownsRow.lt hd i hi
      exact ⟨hd.rd.keepP k ne, fun i hi => ⟨(hdl i hi).1, by have := (hdl i hi).2; omega, hov' i (hdl i hi).2 (ne i hi)⟩⟩
  · intro i hi
    rcases hv with e | e
    · exact hlo i (e ▸ hi)
    · rw [e] at hi
      have := Option.some.inj hi
      omega
theorem OwB.isSlB {B : Nat} {w : World} {v : Value} {l : List Int} (h : OwB 5 B w v l) : ∃ a n c, v = .slice a n c := own_isSl h
end Go.Proofs.YtpicplkbblmbeaaGreat
end
section
namespace Go.Proofs.YtpicplkbblmbeaaGreat
set_option maxRecDepth 100000
open Go.RowKit
set_option linter.unusedVariables false
set_option linter.unusedSimpArgs false
theorem MsIn.cell {w : World} {O R : Nat → Prop} {v : Value} {l : List (Int × List Int)} (h : MsIn w O R v l) {k : Nat} {t : Int} {d : List Int} (hk : l[k]? = some (t, d)) : ∃ g c s0 sl sc, v = .slice (some ⟨g, 0, none⟩) l.length c ∧ w.cell? ⟨g, k * 2, none⟩ = some (.int .i32 t) ∧ w.cell? ⟨g, k * 2 + 1, none⟩ = some (.slice s0 sl sc) ∧ RdB w (.slice s0 sl sc) d := by
  obtain ⟨⟨es, he, ho, hes⟩, _⟩ := h
  have hkl : k < l.length := (List.getElem?_eq_some_iff.1 hk).1
  have hel : es.length = l.length := by rw [← he, List.length_map]
  obtain ⟨e, hek⟩ : ∃ e, es[k]? = some e := ⟨_, List.getElem?_eq_getElem (by omega)⟩
  have h1 : e.1 = (t, d) := by
    rw [← he, List.getElem?_map, hek] at hk
    exact Option.some.inj hk
  obtain ⟨h2, _⟩ := hes e (List.mem_of_getElem? hek)
  obtain ⟨m1, m2⟩ := ms_at es k e hek
  obtain ⟨e1, e2⟩ := e
  dsimp only at h1 h2 m1 m2
  subst h1
  obtain ⟨sa, sl, sc, rfl⟩ := h2.isSl
  rcases ho.2 with ⟨_, h0⟩ | ⟨g, cap, cur, rfl, _⟩
  · omega
  · refine ⟨g, cap, sa, sl, sc, by rw [hel], ?_, ?_, h2⟩
    · rw [World.ownsRow.cellAt ho _ (by omega), m1]
    · rw [World.ownsRow.cellAt ho _ (by omega), m2]
set_option maxHeartbeats 2000000 in
theorem refSame_any {O1 R1 O2 R2 : Nat → Prop} {a b : Value} {l : List (Int × List Int)} (w : World) (h1 : MsIn w O1 R1 a l) (h2 : MsIn w O2 R2 b l) (hl : l.length ≤ 100000) :
    Calls Tryz.prog 54 #[a, b] w fun e w' => e = .returned (.bool true) ∧ Below w.heap.size w w' := by
  obtain ⟨a0, ac, rfl⟩ := h1.sl
  obtain ⟨b0, bc, rfl⟩ := h2.sl
  have H1 := Lib.hid h1
  have H2 := Lib.hid h2
  clear h1 h2
  go_enter Tryz.func54, Tryz.ntmps54
  go_wp2_with fail
  go_loopw [13] (fun i wr => ∃ k : Nat, k ≤ l.length ∧ i = .int .i64 k ∧ Below w.heap.size w wr) (fun i _ => l.length - (intOf i).toNat)
  case atStart => exact ⟨0, by omega, rfl, Below.refl _ _⟩
  case round =>
    obtain ⟨k, hk, rfl, hB⟩ := hrel
    by_cases hlt : k < l.length
    · obtain ⟨x, hx⟩ : ∃ x, l[k]? = some x := ⟨_, List.getElem?_eq_getElem hlt⟩
      obtain ⟨t, d⟩ := x
      have M1 := H1.out.keep (M := fun _ => False) (Below.keeps hB) (fun _ _ => id) (fun _ _ => id)
      have M2 := H2.out.keep (M := fun _ => False) (Below.keeps hB) (fun _ _ => id) (fun _ _ => id)
      obtain ⟨g1, c1, s1, n1, d1, e1, p1, p2, r1⟩ := M1.cell hx
      obtain ⟨g2, c2, s2, n2, d2, e2, q1, q2, r2⟩ := M2.cell hx
      have e1a : a0 = some ⟨g1, 0, none⟩ := by injection e1
      have e2a : b0 = some ⟨g2, 0, none⟩ := by injection e2
      subst e1a e2a
      have cv1 := fun n => conv_rd (w := wr.drewN n) 22 9 Tryz.underlying22 Tryz.underlying9 (RdB.drewN n r1)
      have cv2 := fun n => conv_rd (w := wr.drewN n) 22 9 Tryz.underlying22 Tryz.underlying9 (RdB.drewN n r2)
      have l1 := World.block_lt_of_cell? _ _ p1
      have l2 := World.block_lt_of_cell? _ _ q1
      have HB := Lib.hid hB
      have hki : (k : Int) < (l.length : Int) := by omega
      have hk0 : (0 : Int) ≤ (k : Int) := by omega
      clear M1 M2 hx e1 e2 r1 r2 hB
      go_upto_region 6 with fail
      go_quiet (fail)
      go_wp2
      refine ⟨⟨k + 1, by omega, by go_num, ?_⟩, by simp [intOf]; omega⟩
      exact bel_drewN _ HB.out
    · obtain rfl : k = l.length := by omega
      go_wp2
      go_ret
      exact ⟨rfl, hB⟩
end Go.Proofs.YtpicplkbblmbeaaGreat
end
section
namespace Go.Proofs.YtpicplkbblmbeaaGreat
set_option maxRecDepth 100000
open Go.RowKit
set_option linter.unusedVariables false
set_option linter.unusedSimpArgs false
theorem gAt_record {C : GetC} {HD FI dn : Int} {out : List (Int × List Int)} {odd : Bool} (h1 : (out.length : Int) < C.most) (h2 : FI + dn < C.s) : (gAt C HD FI dn out odd).record = gAt C HD FI dn out odd := by
  unfold GetM.record gAt GetM.left
  dsimp only
  rw [if_neg (by omega)]
theorem gAt_full {C : GetC} {HD FI dn : Int} {out : List (Int × List Int)} {odd : Bool} (h : ¬ ((out.length : Int) < C.most ∧ FI + dn < C.s)) : (gAt C HD FI dn out odd).record = (gAt C HD FI dn out odd).zero := by
  unfold GetM.record gAt GetM.left
  dsimp only
  rw [if_pos (by omega)]
/-- What the reference's Get makes. -/
def GetSaid (w : World) (tb : Nat) (tv : Value) (T : List AnsV) (E : GetM × List AN) (e : Ending) (w' : World) : Prop :=
  Keep (· = tb) w w' ∧ ∃ ov, e = .returned (.tuple #[ov, .int .i64 E.1.res.1, .int .i64 E.1.res.2]) ∧ MsIn w' (fun i => w.heap.size ≤ i) (fun i => w.heap.size ≤ i) ov E.1.out ∧ TpAt getMac w' tb tv T E
/-- Where the loop is at its end. -/
def XRg (E : GetM × List AN) (B : Nat) (C : GetC) (HD FI : Int) (tb : Nat) (tv : Value) (T : List AnsV) (ov ok dn ee : Value) (w : World) : Prop :=
  ∃ k out DN odd EV, dn = .int .i64 DN ∧ ee = .int .i64 EV ∧ EV = (if odd = true then 13 else 0) ∧ MsO B w ov out ∧ 0 ≤ DN ∧ FI + DN ≤ C.s ∧ k ≤ T.length ∧ RGe E w tb tv T k (gAt C HD FI DN out odd).zero out ok
set_option maxHeartbeats 8000000 in
theorem refGet_ok (tb k0 : Nat) (tv : Value) (T : List AnsV) (b s most : Int) (w : World) (h : Tp w tb tv k0 accZ false) (hT : TOk w tb tv T) (hk : k0 ≤ T.length) (hu : ∀ i, i < T.length → inU (gA T i).v) (hlens : ∀ i, i < T.length → (gA T i).b.length ≤ 1000) (hok : (GetC.mk b s most).ok = true) (hm1 : most ≤ 9223372036854775807) :
    Calls Tryz.prog 86 #[.pointer (some ⟨tb, 0, none⟩), .agg #[.int .i64 b, .int .i64 s], .int .i64 most] w (GetSaid w tb tv T ((GetC.init ⟨b, s, most⟩).eat (ans T k0))) := by
  obtain ⟨C, hC⟩ : ∃ C, C = GetC.mk b s most := ⟨_, rfl⟩
  obtain ⟨o1, o2⟩ : rgOk b s = true ∧ 1 ≤ most := by
    unfold GetC.ok at hok
    simpa using hok
  have hinit : GetC.init C = ⟨C, .hd0, 0, 0, 0, [], false, 10⟩ := by
    rw [hC]
    unfold GetC.init
    rw [hok]
    rfl
  have HI := Lib.hid hinit
  obtain ⟨q0, q1, q2, q3, q4, q5⟩ := rgOk_bd o1
  obtain ⟨i0, hi, hz0, hz1, hz2⟩ := info_parts msinfo
  obtain ⟨E, hE⟩ : ∃ E, E = (GetC.init ⟨b, s, most⟩).eat (ans T k0) := ⟨_, rfl⟩
  rw [← hC] at hE
  have HE := Lib.hid hE
  have HCb := Lib.hid (show C.b = b ∧ C.s = s ∧ C.most = most from by rw [hC]; exact ⟨rfl, rfl, rfl⟩)
  have HT := Lib.hid hT
  have HU := Lib.hid hu
  have HLN := Lib.hid hlens
  have H := Lib.hid h
  have hlt := h.lt
  have RG := Lib.hid o1
  have hmost : ¬ most < 1 := by omega
  have Wbs : IntKind.i64.wrap (b + s) = b + s := IntWalk.i64_in _ ⟨by omega, by omega⟩
  have Wb16 : IntKind.i64.wrap (b + s + 16) = b + s + 16 := IntWalk.i64_in _ ⟨by omega, by omega⟩
  rw [← hC, ← hE]
  clear hinit hE hC hT hu hlens hok h o1 q0
  go_enter Tryz.func86, Tryz.ntmps86
  go_wp2_with fail
  refine (rRight_any b s _ (by omega) (by omega) (by omega) (by omega)).mono ?_
  rintro e w1 ⟨rfl, b1⟩
  rw [RG.out]
  have z1 := b1.size
  simp at z1
  have X1 := Lib.hid (Blk.below (Blk.made w #[.int .i64 b, .int .i64 s] 26) b1 (by simp))
  have B1 := Lib.hid (((Below.refl w.heap.size w).alloc (Nat.le_refl _) (.cells #[.int .i64 b, .int .i64 s] 26)).trans (b1.mono (by simp)))
  have H1 := Lib.hid (show Tp w1 tb tv k0 accZ false from Blk.below H.out B1.out hlt)
  have HT1 := Lib.hid (HT.out.below B1.out)
  have x0 := X1.out.cell 0
  have x1 := X1.out.cell 1
  simp only [List.getElem?_toArray, List.getElem?_cons_zero, List.getElem?_cons_succ] at x0 x1
  have hx : w.heap.size < w1.heap.size := by omega
  clear b1
  go_upto_region 4 with fail
  go_cut [10, 11] from 29 to 39 (fun hd ok wx => ∃ HD k, hd = .int .u64 HD ∧ inU HD ∧ k ≤ T.length ∧ Keep (· = tb) w1 wx ∧ RGe E wx tb tv T k (gAt C HD (HD % s) 0 [] false).record [] ok)
  case first =>
    as_aux_lemma =>
    go_wp2_with fail
    refine (tLoad_any tb k0 tv T _ H1.out HT1.out hk (b + s + 16) 8).mono ?_
    rintro e w2 ⟨k2, hcase⟩
    rcases hcase with ⟨hkt, rfl, t2⟩ | ⟨hkt, rfl, t2⟩
    · go_wp2_with fail
      go_meet
      refine ⟨_, k0 + 1, rfl, HU.out k0 hkt, hkt, k2, .inl ⟨rfl, t2, ?_⟩⟩
      rw [HE.out, HI.out, GetM.eat_told rfl hkt, ← HCb.out.2.1]
      rfl
    · go_wp2_with fail
      go_meet
      refine ⟨0, T.length, rfl, ⟨Int.le_refl 0, by decide⟩, Nat.le_refl _, k2, RGe.done (m0 := ⟨C, .hd0, 0, 0, 0, [], false, 10⟩) ?_ rfl rfl rfl rfl ?_⟩
      · rw [HE.out, HI.out, hkt]
      · have he : (GetM.mk C .hd0 0 0 0 [] false 10).want.acc = ⟨1, b + s + 16, 8, 0, 0, .slice none 0 0⟩ := by
          unfold GetM.want AA.acc
          rw [HCb.out.1, HCb.out.2.1]
        rw [he]
        exact t2
  case rest =>
    as_aux_lemma =>
    obtain ⟨HD, k, rfl, hHD, hk1, k2, hrt⟩ := hcut
    have KC := Lib.hid k2
    have RT := Lib.hid hrt
    have XC := Lib.hid (X1.out.keep k2 (by show ¬ w.heap.size = tb; omega))
    have TC := Lib.hid (HT1.out.keep k2)
    have zc := k2.size
    have x0 := XC.out.cell 0
    have x1 := XC.out.cell 1
    have lx := XC.out.lt
    simp only [List.getElem?_cons_zero, List.getElem?_cons_succ] at x0 x1
    clear k2 hrt
    go_wp2_with fail
    refine (rPlace_any b s HD _ q1 q2 hHD.1 hHD.2).mono ?_
    rintro e w3 ⟨rfl, b3⟩
    obtain ⟨FI, hFI⟩ : ∃ FI, FI = HD % s := ⟨_, rfl⟩
    have f0 : 0 ≤ FI := by rw [hFI]; exact Int.emod_nonneg _ (by omega)
    have f1 : FI < s := by rw [hFI]; exact Int.emod_lt_of_pos _ (by omega)
    rw [← hFI] at RT ⊢
    have z3 := b3.size
    have RT := Lib.hid (RT.out.below b3)
    have XC := Lib.hid (XC.out.below b3 lx)
    have TC := Lib.hid (TC.out.below b3)
    have KC := Lib.hid (KC.out.trans (Below.keeps b3))
    have x0 := XC.out.cell 0
    have x1 := XC.out.cell 1
    have lx := XC.out.lt
    simp only [List.getElem?_cons_zero, List.getElem?_cons_succ] at x0 x1
    clear b3 hFI
    go_upto_block 0 with fail
    go_cut [9, 11, 13, 14, 15, 16, 17, 18, 19, 20, 21] from 43 to 122 (fun ov ok dn ee y15 y16 y17 y18 y19 y20 y21 wx => Keep (· = tb) w1 wx ∧ XRg E w1.heap.size C HD FI tb tv T ov ok dn ee wx)
    case first =>
      as_aux_lemma =>
      go_wp2_with fail
      go_loopg [9, 11, 13, 14] (T.length - k + 1) (fun gk ov ok dn ee wr => ∃ k DN out, gk + k = T.length + 1 ∧ k ≤ T.length ∧ dn = .int .i64 DN ∧ ee = .int .i64 0 ∧ 0 ≤ DN ∧ FI + DN ≤ s ∧ 8 * (out.length : Int) ≤ DN ∧ MsO w1.heap.size wr ov out ∧ Keep (· = tb) w1 wr ∧ RGe E wr tb tv T k (gAt C HD FI DN out false).record out ok)
      case atStart => exact ⟨k, 0, [], by omega, hk1, rfl, rfl, by omega, by omega, by simp, MsO.nil _ _, KC.out, RT.out⟩
      case round =>
        clear RT KC XC TC x0 x1 lx hk1
        obtain ⟨k, DN, out, hgk, hk1, rfl, rfl, hd0, hd1, hol, hms, hkp, hrel⟩ := hrel
        have KC := Lib.hid hkp
        have XC := Lib.hid (X1.out.keep hkp (by show ¬ w.heap.size = tb; omega))
        have TC := Lib.hid (HT1.out.keep hkp)
        have zc := hkp.size
        have x0 := XC.out.cell 0
        have x1 := XC.out.cell 1
        have lx := XC.out.lt
        simp only [List.getElem?_cons_zero, List.getElem?_cons_succ] at x0 x1
        obtain ⟨oa, oc, rfl⟩ := hms.sl
        have MS := Lib.hid hms
        have HGK := Lib.hid hgk
        have Wf : IntKind.i64.wrap (FI + DN) = FI + DN := IntWalk.i64_in _ ⟨by omega, by omega⟩
        have Wa1 : IntKind.i64.wrap (b + FI) = b + FI := IntWalk.i64_in _ ⟨by omega, by omega⟩
        have Wa2 : IntKind.i64.wrap (b + FI + DN) = b + FI + DN := IntWalk.i64_in _ ⟨by omega, by omega⟩
        have Wl1 : IntKind.i64.wrap (s - FI) = s - FI := IntWalk.i64_in _ ⟨by omega, by omega⟩
        have Wl2 : IntKind.i64.wrap (s - FI - DN) = s - FI - DN := IntWalk.i64_in _ ⟨by omega, by omega⟩
        clear hkp hms hgk
        rcases hrel with ⟨rfl, htp, hE⟩ | ⟨rfl, hkT, m', hb1', hb2', hE, hend⟩
        · have HTP := Lib.hid htp
          have HEE := Lib.hid hE
          clear htp hE
          by_cases hc1 : (out.length : Int) < most
          rotate_left
          · as_aux_lemma =>
            go_wp2_with fail
            go_meet
            exact ⟨KC.out, k, out, DN, false, 0, rfl, rfl, rfl, MS.out, hd0, by rw [HCb.out.2.1]; exact hd1, hk1, .inl ⟨rfl, HTP.out, by rw [← gAt_full (by rw [HCb.out.2.2]; omega)]; exact HEE.out⟩⟩
          by_cases hc2 : FI + DN < s
          rotate_left
          · as_aux_lemma =>
            go_wp2_with fail
            go_meet
            exact ⟨KC.out, k, out, DN, false, 0, rfl, rfl, rfl, MS.out, hd0, by rw [HCb.out.2.1]; exact hd1, hk1, .inl ⟨rfl, HTP.out, by rw [← gAt_full (by rw [HCb.out.2.1]; omega)]; exact HEE.out⟩⟩
          have hrec : (gAt C HD FI DN out false).record = gAt C HD FI DN out false := gAt_record (by rw [HCb.out.2.2]; exact hc1) (by rw [HCb.out.2.1]; exact hc2)
          have hE := HEE.out
          rw [hrec] at hE
          have HEE := Lib.hid hE
          clear hrec hE
          go_wp2_with fail
          refine (tLoad_any tb k tv T _ HTP.out TC.out hk1 (b + FI + DN) 8).mono ?_
          rintro e w4 ⟨k4, hcase⟩
          have z4 := k4.size
          have KC := Lib.hid (KC.out.trans k4)
          have TC := Lib.hid (TC.out.keep k4)
          have XC := Lib.hid (XC.out.keep k4 (by show ¬ w.heap.size = tb; omega))
          have MS := Lib.hid (MS.out.keep k4 (fun i h1 h2 => by omega))
          have x0 := XC.out.cell 0
          have x1 := XC.out.cell 1
          have lx := XC.out.lt
          simp only [List.getElem?_cons_zero, List.getElem?_cons_succ] at x0 x1
          clear k4 HTP
          rcases hcase with ⟨hkt, rfl, t4⟩ | ⟨hkt, rfl, t4⟩
          rotate_left
          · as_aux_lemma =>
            subst hkt
            go_wp2_with fail
            refine (refSplit_any 0 _ (by decide) (by decide)).mono ?_
            rintro e w5 ⟨rfl, b5⟩
            go_wp2_with fail
            go_meet
            refine ⟨KC.out.trans (Below.keeps b5), T.length, out, DN, false, 0, rfl, rfl, rfl, MS.out.below b5, hd0, by rw [HCb.out.2.1]; exact hd1, Nat.le_refl _, RGe.below (RGe.done (m0 := gAt C HD FI DN out false) HEE.out rfl rfl rfl rfl ?_) b5⟩
            have he : (gAt C HD FI DN out false).want.acc = ⟨1, b + FI + DN, 8, 0, 0, .slice none 0 0⟩ := by
              unfold gAt GetM.want GetM.at AA.acc
              rw [HCb.out.1]
            rw [he]
            exact t4
          have hV := HU.out k hkt
          have hE := HEE.out
          rw [GetM.eat_told rfl hkt] at hE
          obtain ⟨V, hVV⟩ : ∃ V, V = (gA T k).an.v := ⟨_, rfl⟩
          have hst : (gAt C HD FI DN out false).step (gA T k).an = if loS V < 1 then (gAt C HD FI DN out false).zero else if loS V < 8 ∨ (gAt C HD FI DN out false).left < rsz (loS V) then (gAt C HD FI DN out true).zero else if hiS V = -1 then (gAt C HD FI (DN + rsz (loS V)) out false).record else if loS V - 8 < 1 then (gAt C HD FI DN out false).got (rsz (loS V)) (hiS V) [] else ⟨C, .rd (rsz (loS V)) (hiS V) (b + FI + DN + 8) (loS V - 8) [], HD, FI, DN, out, false, 10⟩ := by
            rw [hVV]
            show GetM.step _ _ = _
            unfold gAt GetM.step GetM.at
            dsimp only
            rw [HCb.out.1]
          rw [hst] at hE
          have hleft : (gAt C HD FI DN out false).left = s - FI - DN := by
            unfold gAt GetM.left
            dsimp only
            rw [HCb.out.2.1]
          rw [hleft] at hE
          have hV' : inU V := by rw [hVV]; exact hV
          have hVe : (gA T k).v = V := by rw [hVV]; rfl
          rw [hVe]
          have HEE := Lib.hid hE
          have HT4 := Lib.hid t4
          clear hE hst hleft hVV hVe t4 hV
          obtain ⟨L, hL⟩ : ∃ L, L = loS V := ⟨_, rfl⟩
          obtain ⟨Y, hY⟩ : ∃ Y, Y = hiS V := ⟨_, rfl⟩
          obtain ⟨l0, l1⟩ := loS_bdG V
          obtain ⟨y0, y1⟩ := hiS_bdG V
          go_wp2_with fail
          refine (refSplit_any V _ hV'.1 hV'.2).mono ?_
          rintro e w5 ⟨rfl, b5⟩
          rw [← hL, ← hY] at HEE
          rw [← hL] at l0 l1
          rw [← hY] at y0 y1
          rw [← hL, ← hY]
          have z5 := b5.size
          have KC := Lib.hid (KC.out.trans (Below.keeps b5))
          have TC := Lib.hid (TC.out.below b5)
          have HT5 := Lib.hid (show Tp w5 tb tv (k + 1) accZ false from Blk.below HT4.out b5 HT4.out.lt)
          have XC := Lib.hid (XC.out.below b5 lx)
          have MS := Lib.hid (MS.out.below b5)
          have x0 := XC.out.cell 0
          have x1 := XC.out.cell 1
          have lx := XC.out.lt
          simp only [List.getElem?_cons_zero, List.getElem?_cons_succ] at x0 x1
          clear b5 hL hY HT4
          by_cases hl1 : L < 1
          · as_aux_lemma =>
            go_wp2_with fail
            go_meet
            refine ⟨KC.out, k + 1, out, DN, false, 0, rfl, rfl, rfl, MS.out, hd0, by rw [HCb.out.2.1]; exact hd1, hkt, .inl ⟨rfl, HT5.out, ?_⟩⟩
            have h9 := HEE.out
            rw [if_pos hl1] at h9
            exact h9
          have hE := HEE.out
          rw [if_neg hl1] at hE
          have HEE := Lib.hid hE
          clear hE
          have hsz : alV L 8 = rsz L := by rw [alV_8 (by omega) (by omega)]; unfold rsz; rw [show max L 0 = L by omega]
          have HSZ := Lib.hid hsz
          clear hsz
          have Wl : IntKind.i64.wrap L = L := IntWalk.i64_in _ ⟨by omega, by omega⟩
          obtain ⟨SZ, hSZ⟩ : ∃ SZ, SZ = rsz L := ⟨_, rfl⟩
          have s0 : L ≤ SZ ∧ SZ < L + 8 ∧ 8 ≤ SZ := by rw [hSZ]; unfold rsz; omega
          go_wp2_with fail
          refine (refAlign_any L 8 _ (by decide)).mono ?_
          rintro e w6 ⟨rfl, rfl⟩
          rw [HSZ.out]
          rw [← hSZ] at HEE ⊢
          clear hSZ HSZ
          by_cases hodd : L < 8 ∨ s - FI - DN < SZ
          · as_aux_lemma =>
            have fin_ : XRg E w1.heap.size C HD FI tb tv T (.slice oa out.length oc) (.bool true) (.int .i64 DN) (.int .i64 13) w5 := by
              refine ⟨k + 1, out, DN, true, 13, rfl, rfl, rfl, MS.out, hd0, by rw [HCb.out.2.1]; exact hd1, hkt, .inl ⟨rfl, HT5.out, ?_⟩⟩
              have h9 := HEE.out
              rw [if_pos hodd] at h9
              exact h9
            by_cases h8 : L < 8
            · go_wp2_with fail
              go_meet
              exact ⟨KC.out, fin_⟩
            · have h9 : s - FI - DN < SZ := by omega
              go_wp2_with fail
              go_meet
              exact ⟨KC.out, fin_⟩
          have h8 : ¬ L < 8 := by omega
          have h9 : ¬ s - FI - DN < SZ := by omega
          have hE := HEE.out
          rw [if_neg hodd] at hE
          have HEE := Lib.hid hE
          have Wd : IntKind.i64.wrap (DN + SZ) = DN + SZ := IntWalk.i64_in _ ⟨by omega, by omega⟩
          clear hE hodd
          by_cases hp : Y = -1
          · as_aux_lemma =>
            subst hp
            have h10 := HEE.out
            rw [if_pos rfl] at h10
            have HEE := Lib.hid h10
            clear h10
            go_wp2_with fail
            go_roundg (T.length - k)
            case measure => have := HGK.out; omega
            case rel => exact ⟨k + 1, DN + SZ, out, by omega, hkt, rfl, rfl, by omega, by omega, by omega, MS.out, KC.out, .inl ⟨rfl, HT5.out, HEE.out⟩⟩
          have hE := HEE.out
          rw [if_neg hp] at hE
          have HEE := Lib.hid hE
          clear hE
          have Wn : IntKind.i64.wrap (L - 8) = L - 8 := IntWalk.i64_in _ ⟨by omega, by omega⟩
          have Wp : IntKind.i64.wrap (b + FI + DN + 8) = b + FI + DN + 8 := IntWalk.i64_in _ ⟨by omega, by omega⟩
          have OUT := Lib.hid (show ∀ wo : World, Below w5.heap.size w5 wo → Calls Tryz.prog 150 #[.pointer (some ⟨tb, 0, none⟩), .int .i64 (b + FI + DN + 8), .int .i64 (L - 8)] wo fun e w' => Keep (· = tb) wo w' ∧ ∃ v, (∃ d k', k + 1 ≤ k' ∧ k' ≤ T.length ∧ e = .returned (.tuple #[v, .bool true]) ∧ OwB 5 wo.heap.size w' v d ∧ Tp w' tb tv k' accZ false ∧ ((gAt C HD FI DN out false).got SZ Y d).eat (ans T k') = E) ∨ (e = .returned (.tuple #[v, .bool false]) ∧ RGe E w' tb tv T T.length (gAt C HD FI DN out false).zero out (.bool false)) from by
            intro wo bo
            have HTo : Tp wo tb tv (k + 1) accZ false := Blk.below HT5.out bo HT5.out.lt
            by_cases hn : L - 8 < 1
            · refine (tOut_none tb (k + 1) tv T accZ (b + FI + DN + 8) (L - 8) 0 wo HTo hkt (by omega) (.inl hn)).mono ?_
              rintro e w7 ⟨k7, v, hcase⟩
              have h10 := HEE.out
              rw [if_pos hn] at h10
              rcases hcase with ⟨_, rfl, o7, t7⟩ | ⟨hbad, _⟩
              · exact ⟨k7, v, .inl ⟨_, k + 1, Nat.le_refl _, hkt, rfl, o7, t7, h10⟩⟩
              · omega
            · obtain ⟨n, hnn⟩ : ∃ n : Nat, L - 8 = n := ⟨(L - 8).toNat, by omega⟩
              have h10 := HEE.out
              rw [if_neg hn, hnn] at h10
              rw [hnn]
              obtain ⟨r1, r2⟩ := eat_rd C SZ Y HD FI DN out false T n n (b + FI + DN + 8) [] (k + 1) (Nat.le_refl _) (by omega) hkt
              refine (tOut_row tb (k + 1) tv T accZ (b + FI + DN + 8) n wo HTo (TC.out.below bo) HLN.out hkt (by omega) (by omega) (by omega) (by omega)).mono ?_
              rintro e w7 ⟨k7, v, hcase⟩
              rcases hcase with ⟨hle, rfl, o7, t7⟩ | ⟨hgt, rfl, o7, t7⟩
              · rw [r1 hle] at h10
                exact ⟨k7, v, .inl ⟨_, k + 1 + (n + 7) / 8, by omega, hle, rfl, o7, t7, h10⟩⟩
              · rw [r2 hgt] at h10
                refine ⟨k7, v, .inr ⟨rfl, .inr ⟨rfl, rfl, _, rfl, rfl, h10.symm, rfl, none, 0, 0, t7, .inl ⟨rfl, rfl⟩⟩⟩⟩)
          go_wp2_with fail
          refine (OUT.out _ (by first | exact Below.refl _ _ | exact (Below.refl _ _).alloc (Nat.le_refl _) _)).mono ?_
          rintro e w7 ⟨k7, v, hcase⟩
          have bo : Below w5.heap.size w5 (w5.alloc (Obj.cells #[] 5)) := (Below.refl _ _).alloc (Nat.le_refl _) _
          have z7 := k7.size
          simp at z7
          have KC := Lib.hid ((KC.out.trans (Below.keeps bo)).trans k7)
          have TC := Lib.hid ((TC.out.below bo).keep k7)
          have XC := Lib.hid ((XC.out.below bo lx).keep k7 (by show ¬ w.heap.size = tb; omega))
          have MS := Lib.hid ((MS.out.below bo).keep k7 (fun i h1 h2 => by omega))
          have x0 := XC.out.cell 0
          have x1 := XC.out.cell 1
          have lx := XC.out.lt
          simp only [List.getElem?_cons_zero, List.getElem?_cons_succ] at x0 x1
          clear k7 bo HEE HT5 OUT
          rcases hcase with ⟨d, k', hk2, hk3, rfl, o7, t7, h10⟩ | ⟨rfl, hr⟩
          rotate_left
          · as_aux_lemma =>
            have HR := Lib.hid hr
            clear hr
            go_wp2_with fail
            go_meet
            exact ⟨KC.out, T.length, out, DN, false, 0, rfl, rfl, rfl, MS.out, hd0, by rw [HCb.out.2.1]; exact hd1, Nat.le_refl _, HR.out⟩
          as_aux_lemma =>
          have HEE := Lib.hid h10
          have HT7 := Lib.hid t7
          have O7 := Lib.hid (OwB.mono o7 (B' := w1.heap.size) (by have := KC.out.size; simp; omega))
          obtain ⟨va, vl, vc, rfl⟩ := OwB.isSlB o7
          obtain ⟨⟨es, he, ho, hes⟩, hlo⟩ := MS.out
          have hel : es.length = out.length := by rw [← he, List.length_map]
          have HES := Lib.hid (And.intro he (And.intro ho (And.intro hes hlo)))
          have HEL := Lib.hid hel
          have hol2 : es.length ≤ 1024 := by omega
          clear h10 t7 o7 he ho hes hlo
          have hnew := Blk.made w7 #[Value.int .i32 Y, Value.slice va vl vc] 88
          have bA : Below w7.heap.size w7 (w7.alloc (Obj.cells #[Value.int .i32 Y, Value.slice va vl vc] 88)) := (Below.refl _ _).alloc (Nat.le_refl _) _
          have HNW := Lib.hid hnew
          have BA := Lib.hid bA
          have HOA := Lib.hid (ownsRow_keep HES.out.2.1 (Below.keeps (M := fun _ => False) bA) (fun _ _ => id))
          have LA := Lib.hid (show ∀ u ∈ [Value.int .i32 Y, Value.slice va vl vc], u.oneCell' = true by intro u hu; simp at hu; rcases hu with rfl | rfl <;> rfl)
          clear hnew bA hel
          go_wp2_with (refine list_app1 rfl (.tmp 114) (.tmp 118) 70 88 rfl Tryz.underlying70 hi hz0 hz1 hz2 rfl (by decide) (.slice oa out.length oc) es.length (es.flatMap msL) rfl HOA.out w7.heap.size [Value.int .i32 Y, Value.slice va vl vc] rfl HNW.out rfl LA.out (by omega) (by unfold maxLen; omega) ?_)
          intro v8 w8 o8 g8 e8
          have K8 := grown_keep g8
          have z8 := K8.size
          simp at z8
          have KA := (Below.keeps (M := fun i => (Value.slice oa out.length oc).ownBlock = some i) BA.out).trans K8
          have P8 := MsO.push HES.out.1 (HOA.out) (fun e hm => ⟨(HES.out.2.2.1 e hm).1.below BA.out, fun i hi => ⟨((HES.out.2.2.1 e hm).2 i hi).1, by have := ((HES.out.2.2.1 e hm).2 i hi).2.1; simp; omega, ((HES.out.2.2.1 e hm).2 i hi).2.2⟩⟩) HES.out.2.2.2 (by have := KC.out.size; simp; omega) (ownsRow_keep O7.out (Below.keeps (M := fun _ => False) BA.out) (fun _ _ => id)) K8 (t := Y) (d := d) o8 (e8.imp id fun h => by rw [h]; simp)
          have T8 : Tp w8 tb tv k' accZ false := Blk.keep HT7.out KA (fun e => by have h1 := HES.out.2.2.2 tb e; omega)
          have KW : Keep (· = tb) w1 w8 := KC.out.then KA (fun i hi e => by have h1 := HES.out.2.2.2 i e; omega)
          have P8' := Lib.hid P8
          have T8' := Lib.hid T8
          have KW' := Lib.hid KW
          clear o8 g8 e8 K8 KA P8 T8 KW
          go_wp2_with fail
          go_roundg (T.length + 1 - k')
          case measure => have := HGK.out; omega
          case rel => exact ⟨k', DN + SZ, out ++ [(Y, d)], by omega, hk3, rfl, rfl, by omega, by omega, by simp; omega, P8'.out, KW'.out, .inl ⟨rfl, T8'.out, HEE.out⟩⟩
        · as_aux_lemma =>
          have HRR := Lib.hid (show RGe E wr tb tv T T.length (gAt C HD FI DN out false).zero out (.bool false) from .inr ⟨rfl, rfl, m', hb1', hb2', hE, hend⟩)
          clear hE hend hb1' hb2'
          go_wp2_with fail
          go_meet
          exact ⟨KC.out, T.length, out, DN, false, 0, rfl, rfl, rfl, MS.out, hd0, by rw [HCb.out.2.1]; exact hd1, Nat.le_refl _, HRR.out⟩
    case rest =>
      as_aux_lemma =>
      obtain ⟨hkp, k', out, DN, odd, EV, rfl, rfl, hev, hms, hd0, hd1, hk', hrt⟩ := hcut
      have HEV := Lib.hid hev
      clear hev
      rw [HCb.out.2.1] at hd1
      obtain ⟨oa, oc, rfl⟩ := hms.sl
      have KC := Lib.hid hkp
      have XC := Lib.hid (X1.out.keep hkp (by show ¬ w.heap.size = tb; omega))
      have TC := Lib.hid (HT1.out.keep hkp)
      have MS := Lib.hid hms
      have RT := Lib.hid hrt
      have zc := hkp.size
      have x0 := XC.out.cell 0
      have x1 := XC.out.cell 1
      have lx := XC.out.lt
      simp only [List.getElem?_cons_zero, List.getElem?_cons_succ] at x0 x1
      have Wa1 : IntKind.i64.wrap (b + FI) = b + FI := IntWalk.i64_in _ ⟨by omega, by omega⟩
      have Wu : IntKind.u64.wrap DN = DN := IntWalk.u64_in _ ⟨by omega, by omega⟩
      clear hkp hms hrt
      go_upto_region 22 with fail
      go_cut [127] from 123 to 149 (fun c wx => ∃ cb : Bool, c = .bool cb ∧ Below wc.heap.size wc wx ∧ (u11 = .bool false → cb = false) ∧ (u11 = .bool true → cb = decide (0 < DN)))
      case first =>
        as_aux_lemma =>
        rcases RT.out with ⟨rfl, htp, hE⟩ | ⟨rfl, hkT, m', hb1', hb2', hE, hend⟩
        · clear htp hE
          by_cases hz : 0 < DN
          · go_wp2_with fail
            go_meet
            exact ⟨true, by first | rfl | exact congrArg Value.bool (decide_eq_true hz), Below.refl _ _, nofun, fun _ => (decide_eq_true hz).symm⟩
          · go_wp2_with fail
            go_meet
            exact ⟨false, by first | rfl | exact congrArg Value.bool (decide_eq_false (by omega)), Below.refl _ _, nofun, fun _ => (decide_eq_false (by omega)).symm⟩
        · clear hend hE
          go_wp2_with fail
          go_meet
          exact ⟨false, rfl, Below.refl _ _, fun _ => rfl, nofun⟩
      case rest =>
      as_aux_lemma =>
      obtain ⟨cb, rfl, b3, hc1, hc2⟩ := hcut
      have C1 := Lib.hid hc1
      have C2 := Lib.hid hc2
      have RT := Lib.hid (RT.out.below b3)
      have XC := Lib.hid (XC.out.below b3 lx)
      have TC := Lib.hid (TC.out.below b3)
      have MS := Lib.hid (MS.out.below b3)
      have KC := Lib.hid (KC.out.trans (Below.keeps b3))
      have x0 := XC.out.cell 0
      have x1 := XC.out.cell 1
      have lx := XC.out.lt
      simp only [List.getElem?_cons_zero, List.getElem?_cons_succ] at x0 x1
      clear b3 hc1 hc2
      go_upto_if 127 with fail
      go_cut [11] from 123 to 149 (fun ok wx => ∃ k2, k2 ≤ T.length ∧ Keep (· = tb) wc wx ∧ RGe E wx tb tv T k2 (gAt C HD FI DN out odd).stop out ok)
      case first =>
        as_aux_lemma =>
        rcases RT.out with ⟨rfl, htp, hE⟩ | ⟨rfl, hkT, m', hb1', hb2', hE, hend⟩
        · by_cases hz : 0 < DN
          · obtain rfl : cb = true := (C2.out rfl).trans (decide_eq_true hz)
            obtain ⟨n, hn⟩ : ∃ n : Nat, DN = n := ⟨DN.toNat, by omega⟩
            have h10 : (GetM.mk C (.zr (b + FI) n) HD FI DN out odd 10).eat (ans T k') = E := by
              rw [← hE]
              unfold GetM.zero gAt
              dsimp only
              rw [if_neg (by omega), HCb.out.1, hn]
            have HN := Lib.hid hn
            have HTP := Lib.hid htp
            have HEE := Lib.hid h10
            have ZR := Lib.hid (show Calls Tryz.prog 151 #[.pointer (some ⟨tb, 0, none⟩), .int .i64 (b + FI), .int .i64 DN] wc (InPost wc tb k' tv T accZ (b + FI) (List.replicate n 0)) from by
              rw [hn]
              exact tZero_row tb k' tv T accZ (b + FI) n _ HTP.out TC.out hk' (by omega) (by omega) (by omega) (by omega))
            have hn1 : 1 ≤ n := by omega
            clear h10 hE htp hn
            go_wp2_with fail
            refine ZR.out.mono ?_
            rintro e w7 ⟨k7, hcase⟩
            obtain ⟨r1, r2⟩ := eat_zr C HD FI DN out odd T n n (b + FI) k' (Nat.le_refl _) (by omega) hk'
            have z7 := k7.size
            have XC := Lib.hid (XC.out.keep k7 (by show ¬ w.heap.size = tb; omega))
            have TC := Lib.hid (TC.out.keep k7)
            have x0 := XC.out.cell 0
            have x1 := XC.out.cell 1
            have lx := XC.out.lt
            simp only [List.getElem?_cons_zero, List.getElem?_cons_succ] at x0 x1
            have K7 := Lib.hid k7
            simp only [List.length_replicate] at hcase
            rcases hcase with ⟨hle, rfl, t7⟩ | ⟨hgt, rfl, s0, sl, sc, t7, r7⟩
            · have h10 := HEE.out
              rw [r1 hle] at h10
              have HEE := Lib.hid h10
              have HT7 := Lib.hid t7
              have Wst : IntKind.u64.wrap (HD + DN) = Go.Proofs.YtpicplkbblmbeaaGreat.u64 (HD + DN) := wrap_u64' _
              clear h10 t7 r1 r2 k7
              go_wp2_with fail
              refine (tStore_any tb (k' + (n + 7) / 8) tv T _ HT7.out TC.out hle (b + s + 16) 8 (Go.Proofs.YtpicplkbblmbeaaGreat.u64 (HD + DN))).mono ?_
              rintro e w8 ⟨k8, hcase⟩
              rcases hcase with ⟨hkt, rfl, t8⟩ | ⟨hkt, rfl, t8⟩
              · go_wp2_with fail
                go_meet
                refine ⟨_, hkt, K7.out.trans k8, .inl ⟨rfl, t8, ?_⟩⟩
                have h10 := HEE.out
                rw [GetM.eat_told rfl hkt] at h10
                exact h10
              · go_wp2_with fail
                go_meet
                refine ⟨T.length, Nat.le_refl _, K7.out.trans k8, RGe.done (m0 := ⟨C, .st, HD, FI, DN, out, odd, 10⟩) (by rw [← hkt]; exact HEE.out) rfl rfl rfl rfl ?_⟩
                have he : (GetM.mk C .st HD FI DN out odd 10).want.acc = ⟨2, b + s + 16, 8, Go.Proofs.YtpicplkbblmbeaaGreat.u64 (HD + DN), 0, .slice none 0 0⟩ := by
                  unfold GetM.want AA.acc
                  rw [HCb.out.1, HCb.out.2.1]
                rw [he]
                exact t8
            · have h10 := HEE.out
              rw [r2 hgt] at h10
              have HEE := Lib.hid h10
              have HT7 := Lib.hid t7
              have HR7 := Lib.hid r7
              clear h10 t7 r1 r2 r7 k7
              go_wp2_with fail
              go_meet
              refine ⟨T.length, Nat.le_refl _, K7.out, .inr ⟨rfl, rfl, _, rfl, rfl, HEE.out.symm, rfl, s0, sl, sc, HT7.out, ?_⟩⟩
              have h11 := HR7.out
              have e1 : ((List.replicate n (0 : Int)).drop (8 * (T.length - k'))).take 8 = List.replicate (min ((n - 8 * (T.length - k') : Nat) : Int) 8).toNat 0 := by
                rw [List.drop_replicate, List.take_replicate]
                congr 1
                omega
              rw [e1] at h11
              exact h11
          · obtain rfl : cb = false := (C2.out rfl).trans (decide_eq_false (by omega))
            have HTP := Lib.hid htp
            have h10 : (gAt C HD FI DN out odd).stop.eat (ans T k') = E := by
              rw [← hE]
              unfold GetM.zero gAt
              dsimp only
              rw [if_pos (by omega)]
            have HEE := Lib.hid h10
            clear htp h10 hE
            go_wp2_with fail
            go_meet
            exact ⟨k', hk', Keep.refl _ _, .inl ⟨rfl, HTP.out, HEE.out⟩⟩
        · obtain rfl : cb = false := C1.out rfl
          have HRR := Lib.hid (show RGe E wc tb tv T k' (gAt C HD FI DN out odd).stop out (.bool false) from .inr ⟨rfl, hkT, m', hb1', hb2', hE, hend⟩)
          clear hE hend hb1' hb2'
          go_wp2_with fail
          go_meet
          exact ⟨k', hk', Keep.refl _ _, HRR.out⟩
      case rest =>
        as_aux_lemma =>
        obtain ⟨k2, hk2, kp2, hrt⟩ := hcut
        have MS := Lib.hid (MS.out.keep kp2 (fun i h1 h2 => by omega))
        have KC := Lib.hid (KC.out.trans kp2)
        clear kp2 RT
        rcases hrt with ⟨rfl, htp, hE⟩ | ⟨rfl, hkT, m', hb1', hb2', hE, hend⟩
        · rw [GetM.eat_done rfl] at hE
          have HEE := Lib.hid hE
          have HTP := Lib.hid htp
          have TT : TpAt getMac wc tb tv T E := by
            rw [← HEE.out]
            refine .inr ⟨rfl, ?_⟩
            rw [ans_len, show T.length - (T.length - k2) = k2 by omega]
            exact HTP.out
          have HTT := Lib.hid TT
          clear hE htp TT
          cases odd with
          | true =>
            obtain rfl : EV = 13 := HEV.out
            go_wp2
            go_ret3
            refine ⟨(Below.keeps B1.out).trans KC.out, _, ?_, by rw [← HEE.out]; exact MS.out.ms.mono (fun i hi => by omega) (fun i hi => by omega), HTT.out⟩
            rw [← HEE.out]
            rfl
          | false =>
            obtain rfl : EV = 0 := HEV.out
            go_wp2
            go_ret3
            refine ⟨(Below.keeps B1.out).trans KC.out, _, ?_, by rw [← HEE.out]; exact MS.out.ms.mono (fun i hi => by omega) (fun i hi => by omega), HTT.out⟩
            rw [← HEE.out]
            rfl
        · have HEE := Lib.hid hE
          have HEN := Lib.hid hend
          have HO := Lib.hid hb1'
          have HE2 := Lib.hid hb2'
          clear hE hend hb1' hb2'
          go_wp2
          go_ret3
          refine ⟨(Below.keeps B1.out).trans KC.out, _, ?_, by rw [HEE.out]; rw [HO.out]; exact MS.out.ms.mono (fun i hi => by omega) (fun i hi => by omega), by rw [HEE.out]; exact HEN.out.to⟩
          have hr : m'.res = (0, 10) := by
            unfold GetM.res
            rw [HE2.out]
            rfl
          rw [HEE.out, hr]
          rfl
end Go.Proofs.YtpicplkbblmbeaaGreat
end
section
namespace Go.Proofs.YtpicplkbblmbeaaGreat
set_option maxRecDepth 100000
open Go.RowKit
set_option linter.unusedVariables false
set_option linter.unusedSimpArgs false
theorem TOk.mkG {w0 w1 : World} {t0 : Option Addr} {c tb : Nat} {T : List AnsV} (hT : RdA w0 (.slice t0 T.length c) T) (hS : Sls T) (hTs : RdAs w0 T) (hlen : T.length ≤ 1000000) (b : Below w0.heap.size w0 w1) (ht : w0.heap.size ≤ tb) : TOk w1 tb (.slice t0 T.length c) T := by
  refine ⟨hT.below b, hS, hTs.below b, fun h0 e => ?_, fun i hi h0 e => ?_, hlen⟩
  · have := hT.blk (by omega) tb e
    omega
  · have := (hTs i hi).blk h0 tb e
    omega
theorem GetM.want_end {m : GetM} (h : m.live = false) : m.want = aaZ := by
  obtain ⟨c, pc, hd, first, dn, out, odd, e⟩ := m
  cases pc with
  | done => rfl
  | _ => cases h
theorem TpAt.allG {w : World} {tb : Nat} {tv : Value} {T : List AnsV} {E : GetM × List AN} (h : TpAt getMac w tb tv T E) :
    ∃ K s0 sl sc, Tp w tb tv K ⟨E.1.want.k, E.1.want.a, E.1.want.n, E.1.want.v, E.1.want.x, .slice s0 sl sc⟩ E.1.live ∧ RdB w (.slice s0 sl sc) E.1.want.b := by
  rcases h with ⟨h1, h2, s0, sl, sc, h3, h4⟩ | ⟨h1, h2⟩
  · have h1' : E.1.live = true := h1
    rw [h1']
    exact ⟨_, s0, sl, sc, h3, h4⟩
  · have h1' : E.1.live = false := h1
    rw [h1', GetM.want_end h1']
    exact ⟨_, none, 0, 0, h2, .inl ⟨rfl, rfl⟩⟩
set_option maxHeartbeats 1000000 in
theorem refGet_any (tb k0 : Nat) (tv : Value) (T : List AnsV) (b s most : Int) (w : World) (h : Tp w tb tv k0 accZ false) (hT : TOk w tb tv T) (hk : k0 ≤ T.length) (hu : ∀ i, i < T.length → inU (gA T i).v) (hlens : ∀ i, i < T.length → (gA T i).b.length ≤ 1000) (hb0 : -9223372036854775808 ≤ b) (hb1 : b ≤ 9223372036854775807) (hs0 : -9223372036854775808 ≤ s) (hs1 : s ≤ 9223372036854775807) (hm1 : most ≤ 9223372036854775807) :
    Calls Tryz.prog 86 #[.pointer (some ⟨tb, 0, none⟩), .agg #[.int .i64 b, .int .i64 s], .int .i64 most] w (GetSaid w tb tv T ((GetC.init ⟨b, s, most⟩).eat (ans T k0))) := by
  by_cases hok : (GetC.mk b s most).ok = true
  · exact refGet_ok tb k0 tv T b s most w h hT hk hu hlens hok hm1
  have hok' : (GetC.mk b s most).ok = false := by simpa using hok
  have H := Lib.hid h
  have hlt := h.lt
  have hi : GetC.init ⟨b, s, most⟩ = ⟨⟨b, s, most⟩, .done, 0, 0, 0, [], false, 1⟩ := by unfold GetC.init; rw [hok']; rfl
  have FIN := Lib.hid (show ∀ w' : World, Below w.heap.size w w' → GetSaid w tb tv T ((GetC.init ⟨b, s, most⟩).eat (ans T k0)) (.returned (.tuple #[.slice none 0 0, .int .i64 0, .int .i64 1])) w' from by
    intro w' bb
    rw [hi, GetM.eat_done rfl]
    refine ⟨Below.keeps bb, _, rfl, (MsO.nil _ _).ms, .inr ⟨rfl, ?_⟩⟩
    rw [ans_len, show T.length - (T.length - k0) = k0 by omega]
    exact Blk.below H.out bb hlt)
  clear hi
  by_cases hg : rgOk b s = true
  · have hm : most < 1 := by
      by_cases hlt1 : most < 1
      · exact hlt1
      · exact absurd (by unfold GetC.ok; simp [hg]; omega) hok
    have RG := Lib.hid hg
    clear hok hok' hg h hT
    go_enter Tryz.func86, Tryz.ntmps86
    go_wp2_with fail
    refine (rRight_any b s _ hb0 hb1 hs0 hs1).mono ?_
    rintro e w1 ⟨rfl, b1⟩
    rw [RG.out]
    go_wp2
    go_ret3
    exact FIN.out _ (((Below.refl w.heap.size w).alloc (Nat.le_refl _) _).trans (b1.mono (by simp)))
  · have hg' : rgOk b s = false := by simpa using hg
    have RG := Lib.hid hg'
    clear hok hok' hg hg' h hT
    go_enter Tryz.func86, Tryz.ntmps86
    go_wp2_with fail
    refine (rRight_any b s _ hb0 hb1 hs0 hs1).mono ?_
    rintro e w1 ⟨rfl, b1⟩
    rw [RG.out]
    go_wp2
    go_ret3
    exact FIN.out _ (((Below.refl w.heap.size w).alloc (Nat.le_refl _) _).trans (b1.mono (by simp)))
theorem Blk.c6g {w : World} {b : Nat} {x0 x1 x2 x3 x4 x5 : Value} (h : Blk w b [x0, x1, x2, x3, x4, x5]) : w.cell? ⟨b, 0, none⟩ = some x0 ∧ w.cell? ⟨b, 1, none⟩ = some x1 ∧ w.cell? ⟨b, 2, none⟩ = some x2 ∧ w.cell? ⟨b, 3, none⟩ = some x3 ∧ w.cell? ⟨b, 4, none⟩ = some x4 ∧ w.cell? ⟨b, 5, none⟩ = some x5 :=
  ⟨h.cell 0, h.cell 1, h.cell 2, h.cell 3, h.cell 4, h.cell 5⟩
set_option maxHeartbeats 4000000 in
theorem same08_any (b s most : Int) (t0 : Option Addr) (tc : Nat) (T : List AnsV) (O R : Nat → Prop) (q : Nat) (gv : Value) (m : GetM) (w : World) (hm : m = ((GetC.init ⟨b, s, most⟩).eat (ans T 0)).1) (h : GetI w O R q m gv) (hf : m.fine)
    (hT : RdA w (.slice t0 T.length tc) T) (hS : Sls T) (hTs : RdAs w T) (hlen : T.length ≤ 1000000) (hu : ∀ i, i < T.length → inU (gA T i).v) (hlens : ∀ i, i < T.length → (gA T i).b.length ≤ 1000) (hb0 : -9223372036854775808 ≤ b) (hb1 : b ≤ 9223372036854775807) (hs0 : -9223372036854775808 ≤ s) (hs1 : s ≤ 9223372036854775807) (hm1 : most ≤ 9223372036854775807) :
    Calls Tryz.prog 22 #[.pointer (some ⟨q, 0, none⟩), .slice t0 T.length tc, .agg #[.int .i64 b, .int .i64 s], .int .i64 most] w fun e w' => e = .returned (.bool true) ∧ Below w.heap.size w w' := by
  have HM := Lib.hid hm
  have HP := Lib.hid h
  have HF := Lib.hid hf
  have HT := Lib.hid hT
  have HS := Lib.hid hS
  have HTS := Lib.hid hTs
  have HU := Lib.hid hu
  have HLN := Lib.hid hlens
  clear hm h hf hT hS hTs hu hlens
  go_enter Tryz.func22, Tryz.ntmps22
  go_wp2_with fail
  obtain ⟨w1, hw1⟩ : ∃ w1, w1 = w.alloc (Obj.cells #[Value.int IntKind.i64 b, Value.int IntKind.i64 s] 26) := ⟨_, rfl⟩
  have b1 : Below w.heap.size w w1 := by rw [hw1]; exact (Below.refl _ _).alloc (Nat.le_refl _) _
  have z1 : w1.heap.size = w.heap.size + 1 := by rw [hw1]; simp
  rw [← hw1]
  have htp2 : Tp (w1.alloc (Obj.cells #[Value.slice t0 T.length tc, Value.int IntKind.i64 0, Value.int IntKind.i64 0, Value.int IntKind.i64 0, Value.int IntKind.i64 0, Value.int IntKind.u64 0, Value.int IntKind.u64 0, Value.slice none 0 0, Value.bool false] 105)) w1.heap.size (.slice t0 T.length tc) 0 accZ false := Blk.made w1 #[Value.slice t0 T.length tc, Value.int IntKind.i64 0, Value.int IntKind.i64 0, Value.int IntKind.i64 0, Value.int IntKind.i64 0, Value.int IntKind.u64 0, Value.int IntKind.u64 0, Value.slice none 0 0, Value.bool false] _
  have b2 : Below w.heap.size w (w1.alloc (Obj.cells #[Value.slice t0 T.length tc, Value.int IntKind.i64 0, Value.int IntKind.i64 0, Value.int IntKind.i64 0, Value.int IntKind.i64 0, Value.int IntKind.u64 0, Value.int IntKind.u64 0, Value.slice none 0 0, Value.bool false] 105)) := b1.alloc (by omega) _
  rw [← z1]
  have y1 : w.heap.size < w1.heap.size := by omega
  clear z1
  refine (refGet_any w1.heap.size 0 (.slice t0 T.length tc) T b s most _ htp2 (TOk.mkG HT.out HS.out HTS.out hlen b2 (by omega)) (Nat.zero_le _) HU.out HLN.out hb0 hb1 hs0 hs1 hm1).mono ?_
  rintro e w3 ⟨k3, ov, rfl, hms3, ht3⟩
  obtain ⟨K, u0, ul, uc, htp3, hrd3⟩ := ht3.allG
  rw [← HM.out] at htp3 hrd3 hms3 ⊢
  obtain ⟨va, vc, rfl⟩ := hms3.sl
  have z3 := k3.size
  rw [World.size_alloc] at z3
  have B3 := Lib.hid (b2.trans (k3.below (by simp; omega) (fun k h1 h2 => by omega)))
  have TP3 := Lib.hid htp3
  have RD3 := Lib.hid hrd3
  have MS3 := Lib.hid hms3
  have HP3 := Lib.hid (HP.out.keep (M := fun _ => False) (Below.keeps B3.out) (fun _ _ => id) (fun _ _ => id) id)
  obtain ⟨tb, htb⟩ : ∃ tb, tb = w1.heap.size := ⟨_, rfl⟩
  rw [← htb] at TP3 ⊢
  have ltb := TP3.out.lt
  clear b1 b2 htp2 k3 ht3 htp3 hrd3 hms3 hw1 htb
  go_wp2_with fail
  refine (gNext_any w3 HP3.out HF.out).mono ?_
  rintro e w4 ⟨x0, xl, xc, rfl, hr4, b4⟩
  unfold AA.V
  dsimp only
  have z4 := b4.size
  have TP4 := Lib.hid (TP3.out.below b4 ltb)
  have RD4 := Lib.hid (RD3.out.below b4)
  have RX4 := Lib.hid hr4
  have MS4 := Lib.hid (MS3.out.keep (M := fun _ => False) (Below.keeps b4) (fun _ _ => id) (fun _ _ => id))
  have HP4 := Lib.hid (HP3.out.keep (M := fun _ => False) (Below.keeps b4) (fun _ _ => id) (fun _ _ => id) id)
  have B4 := Lib.hid (B3.out.trans (b4.mono (by omega)))
  clear hr4 b4 TP3 RD3 HP3 B3 MS3
  go_wp2_with fail
  obtain ⟨w5, hw5⟩ : ∃ w5, w5 = w4.alloc (Obj.cells #[Value.int IntKind.i64 m.want.k, Value.int IntKind.i64 m.want.a, Value.int IntKind.i64 m.want.n, Value.int IntKind.u64 m.want.v, Value.int IntKind.u64 m.want.x, Value.slice x0 xl xc] 37) := ⟨_, rfl⟩
  have b5 : Below w4.heap.size w4 w5 := by rw [hw5]; exact (Below.refl _ _).alloc (Nat.le_refl _) _
  have HA5 := Lib.hid (show Blk w5 w4.heap.size [Value.int IntKind.i64 m.want.k, Value.int IntKind.i64 m.want.a, Value.int IntKind.i64 m.want.n, Value.int IntKind.u64 m.want.v, Value.int IntKind.u64 m.want.x, Value.slice x0 xl xc] by rw [hw5]; exact Blk.made w4 _ _)
  have z5 : w4.heap.size < w5.heap.size := by rw [hw5]; simp
  rw [← hw5]
  have TP5 := Lib.hid (TP4.out.below b5 (by omega))
  have RD5 := Lib.hid (RD4.out.below b5)
  have RX5 := Lib.hid (RX4.out.below b5)
  have MS5 := Lib.hid (MS4.out.keep (M := fun _ => False) (Below.keeps b5) (fun _ _ => id) (fun _ _ => id))
  have HP5 := Lib.hid (HP4.out.keep (M := fun _ => False) (Below.keeps b5) (fun _ _ => id) (fun _ _ => id) id)
  have B5 := Lib.hid (B4.out.trans (b5.mono (by omega)))
  clear hw5 b5 TP4 RD4 RX4 HP4 B4 MS4
  refine (gResult_any w5 HP5.out.at_).mono ?_
  rintro e w7 ⟨rfl, b7⟩
  have z7 := b7.size
  have HA7 := Lib.hid (HA5.out.below b7 (by omega))
  have TP7 := Lib.hid (TP5.out.below b7 (by omega))
  have RD7 := Lib.hid (RD5.out.below b7)
  have RX7 := Lib.hid (RX5.out.below b7)
  have MS7 := Lib.hid (MS5.out.keep (M := fun _ => False) (Below.keeps b7) (fun _ _ => id) (fun _ _ => id))
  have HP7 := Lib.hid (HP5.out.keep (M := fun _ => False) (Below.keeps b7) (fun _ _ => id) (fun _ _ => id) id)
  have B7 := Lib.hid (B5.out.trans (b7.mono (by omega)))
  clear b7 HA5 TP5 RD5 RX5 HP5 B5 MS5
  obtain ⟨ca0, ca1, ca2, ca3, ca4, ca5⟩ := Blk.c6g (w := w7) HA7.out
  obtain ⟨-, -, ct2, ct3, ct4, ct5, ct6, ct7, ct8⟩ := Tp.cells (w := w7) TP7.out
  have la := HA7.out.lt
  have lt := TP7.out.lt
  obtain ⟨AB, hAB⟩ : ∃ AB, AB = w4.heap.size := ⟨_, rfl⟩
  rw [← hAB] at la ca0 ca1 ca2 ca3 ca4 ca5 ⊢
  generalize hL : m.live = L at *
  generalize hP : m.res.1 = R1 at *
  generalize hC : m.res.2 = R2 at *
  clear hAB hL hP hC
  go_upto_region 5 with fail
  refine wp_region_held_drew (S := (fun w' => w'.cell? ⟨AB, 0, none⟩ = some (.int .i64 m.want.k) ∧ w'.cell? ⟨AB, 1, none⟩ = some (.int .i64 m.want.a) ∧ w'.cell? ⟨AB, 2, none⟩ = some (.int .i64 m.want.n) ∧ w'.cell? ⟨AB, 3, none⟩ = some (.int .u64 m.want.v) ∧ w'.cell? ⟨AB, 4, none⟩ = some (.int .u64 m.want.x) ∧ w'.cell? ⟨AB, 5, none⟩ = some (.slice x0 xl xc) ∧ w'.cell? ⟨tb, 2, none⟩ = some (.int .i64 m.want.k) ∧ w'.cell? ⟨tb, 3, none⟩ = some (.int .i64 m.want.a) ∧ w'.cell? ⟨tb, 4, none⟩ = some (.int .i64 m.want.n) ∧ w'.cell? ⟨tb, 5, none⟩ = some (.int .u64 m.want.v) ∧ w'.cell? ⟨tb, 6, none⟩ = some (.int .u64 m.want.x) ∧ w'.cell? ⟨tb, 7, none⟩ = some (.slice u0 ul uc) ∧ w'.cell? ⟨tb, 8, none⟩ = some (.bool L))) (by kernel_rfl) ?_ (fun hHeld => ?_)
  · try dsimp only
    first | exact ⟨ca0, ca1, ca2, ca3, ca4, ca5, ct2, ct3, ct4, ct5, ct6, ct7, ct8⟩ | go_keep
  refine wpAnyH_take (i := 0) (v := ?_) rfl (by kernel_rfl) (by kernel_rfl) (by kernel_rfl) (fun _ _ _ h => h) (Or.inl ⟨by rfl, ?_⟩) (by assumption) ?_
  rotate_left
  · intro w0 hSw
    (try dsimp only at hSw)
    go_simp
    try with_reducible rfl
  try simp only [Act.put, List.getElem_toArray, List.getElem_cons_zero, List.getElem_cons_succ, List.setIfInBounds_toArray, List.set_cons_zero, List.set_cons_succ]
  refine wpAnyH_take (i := 1) (v := ?_) rfl (by kernel_rfl) (by kernel_rfl) (by kernel_rfl) (fun _ _ _ h => h) (Or.inl ⟨by rfl, ?_⟩) (by assumption) ?_
  rotate_left
  · intro w0 hSw
    (try dsimp only at hSw)
    go_simp
    try with_reducible rfl
  try simp only [Act.put, List.getElem_toArray, List.getElem_cons_zero, List.getElem_cons_succ, List.setIfInBounds_toArray, List.set_cons_zero, List.set_cons_succ]
  refine wpAnyH_take (i := 2) (v := ?_) rfl (by kernel_rfl) (by kernel_rfl) (by kernel_rfl) (fun _ _ _ h => h) (Or.inl ⟨by rfl, ?_⟩) (by assumption) ?_
  rotate_left
  · intro w0 hSw
    (try dsimp only at hSw)
    go_simp
    try with_reducible rfl
  try simp only [Act.put, List.getElem_toArray, List.getElem_cons_zero, List.getElem_cons_succ, List.setIfInBounds_toArray, List.set_cons_zero, List.set_cons_succ]
  refine wpAnyH_take (i := 3) (v := ?_) rfl (by kernel_rfl) (by kernel_rfl) (by kernel_rfl) (fun _ _ _ h => h) (Or.inl ⟨by rfl, ?_⟩) (by assumption) ?_
  rotate_left
  · intro w0 hSw
    (try dsimp only at hSw)
    go_simp
    try with_reducible rfl
  try simp only [Act.put, List.getElem_toArray, List.getElem_cons_zero, List.getElem_cons_succ, List.setIfInBounds_toArray, List.set_cons_zero, List.set_cons_succ]
  refine wpAnyH_take (i := 4) (v := ?_) rfl (by kernel_rfl) (by kernel_rfl) (by kernel_rfl) (fun _ _ _ h => h) (Or.inl ⟨by rfl, ?_⟩) (by assumption) ?_
  rotate_left
  · intro w0 hSw
    (try dsimp only at hSw)
    go_simp
    try with_reducible rfl
  try simp only [Act.put, List.getElem_toArray, List.getElem_cons_zero, List.getElem_cons_succ, List.setIfInBounds_toArray, List.set_cons_zero, List.set_cons_succ]
  refine wpAnyH_take (i := 5) (v := ?_) rfl (by kernel_rfl) (by kernel_rfl) (by kernel_rfl) (fun _ _ _ h => h) (Or.inl ⟨by rfl, ?_⟩) (by assumption) ?_
  rotate_left
  · intro w0 hSw
    (try dsimp only at hSw)
    go_simp
    try with_reducible rfl
  try simp only [Act.put, List.getElem_toArray, List.getElem_cons_zero, List.getElem_cons_succ, List.setIfInBounds_toArray, List.set_cons_zero, List.set_cons_succ]
  refine wpAnyH_take (i := 6) (v := ?_) rfl (by kernel_rfl) (by kernel_rfl) (by kernel_rfl) (fun _ _ _ h => h) (Or.inl ⟨by rfl, ?_⟩) (by assumption) ?_
  rotate_left
  · intro w0 hSw
    (try dsimp only at hSw)
    go_simp
    try with_reducible rfl
  try simp only [Act.put, List.getElem_toArray, List.getElem_cons_zero, List.getElem_cons_succ, List.setIfInBounds_toArray, List.set_cons_zero, List.set_cons_succ]
  refine wpAnyH_take (i := 7) (v := ?_) rfl (by kernel_rfl) (by kernel_rfl) (by kernel_rfl) (fun _ _ _ h => h) (Or.inl ⟨by rfl, ?_⟩) (by assumption) ?_
  rotate_left
  · intro w0 hSw
    (try dsimp only at hSw)
    go_simp
    try with_reducible rfl
  try simp only [Act.put, List.getElem_toArray, List.getElem_cons_zero, List.getElem_cons_succ, List.setIfInBounds_toArray, List.set_cons_zero, List.set_cons_succ]
  refine wpAnyH_take (i := 8) (v := ?_) rfl (by kernel_rfl) (by kernel_rfl) (by kernel_rfl) (fun _ _ _ h => h) (Or.inl ⟨by rfl, ?_⟩) (by assumption) ?_
  rotate_left
  · intro w0 hSw
    (try dsimp only at hSw)
    go_simp
    try with_reducible rfl
  try simp only [Act.put, List.getElem_toArray, List.getElem_cons_zero, List.getElem_cons_succ, List.setIfInBounds_toArray, List.set_cons_zero, List.set_cons_succ]
  refine wpAnyH_take (i := 9) (v := ?_) rfl (by kernel_rfl) (by kernel_rfl) (by kernel_rfl) (fun _ _ _ h => h) (Or.inl ⟨by rfl, ?_⟩) (by assumption) ?_
  rotate_left
  · intro w0 hSw
    (try dsimp only at hSw)
    go_simp
    try with_reducible rfl
  try simp only [Act.put, List.getElem_toArray, List.getElem_cons_zero, List.getElem_cons_succ, List.setIfInBounds_toArray, List.set_cons_zero, List.set_cons_succ]
  refine wpAnyH_take (i := 10) (v := ?_) rfl (by kernel_rfl) (by kernel_rfl) (by kernel_rfl) (fun _ _ _ h => h) (Or.inl ⟨by rfl, ?_⟩) (by assumption) ?_
  rotate_left
  · intro w0 hSw
    (try dsimp only at hSw)
    go_simp
    try with_reducible rfl
  try simp only [Act.put, List.getElem_toArray, List.getElem_cons_zero, List.getElem_cons_succ, List.setIfInBounds_toArray, List.set_cons_zero, List.set_cons_succ]
  refine wpAnyH_take (i := 11) (v := ?_) rfl (by kernel_rfl) (by kernel_rfl) (by kernel_rfl) (fun _ _ _ h => h) (Or.inl ⟨by rfl, ?_⟩) (by assumption) ?_
  rotate_left
  · intro w0 hSw
    (try dsimp only at hSw)
    go_simp
    try with_reducible rfl
  try simp only [Act.put, List.getElem_toArray, List.getElem_cons_zero, List.getElem_cons_succ, List.setIfInBounds_toArray, List.set_cons_zero, List.set_cons_succ]
  refine wpAnyH_ready (rs := [12]) (by kernel_rfl) (by simp) ?_
  refine AllReadyH.cons rfl (fun K hK => ?_) AllReadyH.nil
  go_simp
  go_at_call 52
  refine (sameAcc_true m.want.k m.want.a m.want.n m.want.v m.want.x _ _ _ _ _ _ m.want.b _ (RdB.drewN 1 RX7.out) (RdB.drewN 1 RD7.out)).mono ?_
  rintro r w8 ⟨rfl, b8⟩
  have ha8 := fun o => b8.cell (p := ⟨AB, o, none⟩) (by simpa using la)
  have ht8 := fun o => b8.cell (p := ⟨tb, o, none⟩) (by simpa using lt)
  have z8 := b8.size
  simp at z8
  have BB8 := Lib.hid ((bel_drewN 1 (Below.refl w7.heap.size w7)).trans b8)
  have HP8 := Lib.hid (HP7.out.keep (M := fun _ => False) (Below.keeps BB8.out) (fun _ _ => id) (fun _ _ => id) id)
  have MS8 := Lib.hid (MS7.out.keep (M := fun _ => False) (Below.keeps BB8.out) (fun _ _ => id) (fun _ _ => id))
  go_wp2_with fail
  refine hK.out _ _ ?_ (fun hHeld => ?_)
  · try dsimp only
    first | exact ⟨ca0, ca1, ca2, ca3, ca4, ca5, ct2, ct3, ct4, ct5, ct6, ct7, ct8⟩ | go_keep
  clear hK K
  try simp only [Act.put, List.getElem_toArray, List.getElem_cons_zero, List.getElem_cons_succ, List.setIfInBounds_toArray, List.set_cons_zero, List.set_cons_succ]
  refine wpAnyH_take (i := 13) (v := ?_) rfl (by kernel_rfl) (by kernel_rfl) (by kernel_rfl) (fun _ _ _ h => h) (Or.inl ⟨by rfl, ?_⟩) (by assumption) ?_
  rotate_left
  · intro w0 hSw
    (try dsimp only at hSw)
    go_simp
    try with_reducible rfl
  try simp only [Act.put, List.getElem_toArray, List.getElem_cons_zero, List.getElem_cons_succ, List.setIfInBounds_toArray, List.set_cons_zero, List.set_cons_succ]
  refine wpAnyH_take (i := 14) (v := ?_) rfl (by kernel_rfl) (by kernel_rfl) (by kernel_rfl) (fun _ _ _ h => h) (Or.inl ⟨by rfl, ?_⟩) (by assumption) ?_
  rotate_left
  · intro w0 hSw
    (try dsimp only at hSw)
    go_simp
    try with_reducible rfl
  try simp only [Act.put, List.getElem_toArray, List.getElem_cons_zero, List.getElem_cons_succ, List.setIfInBounds_toArray, List.set_cons_zero, List.set_cons_succ]
  refine wpAnyH_take (i := 15) (v := ?_) rfl (by kernel_rfl) (by kernel_rfl) (by kernel_rfl) (fun _ _ _ h => h) (Or.inl ⟨by rfl, ?_⟩) (by assumption) ?_
  rotate_left
  · intro w0 hSw
    (try dsimp only at hSw)
    go_simp
    try with_reducible rfl
  try simp only [Act.put, List.getElem_toArray, List.getElem_cons_zero, List.getElem_cons_succ, List.setIfInBounds_toArray, List.set_cons_zero, List.set_cons_succ]
  refine wpAnyH_take (i := 16) (v := ?_) rfl (by kernel_rfl) (by kernel_rfl) (by kernel_rfl) (fun _ _ _ h => h) (Or.inl ⟨by rfl, ?_⟩) (by assumption) ?_
  rotate_left
  · intro w0 hSw
    (try dsimp only at hSw)
    go_simp
    try with_reducible rfl
  try simp only [Act.put, List.getElem_toArray, List.getElem_cons_zero, List.getElem_cons_succ, List.setIfInBounds_toArray, List.set_cons_zero, List.set_cons_succ]
  refine wpAnyH_take (i := 17) (v := ?_) rfl (by kernel_rfl) (by kernel_rfl) (by kernel_rfl) (fun _ _ _ h => h) (Or.inl ⟨by rfl, ?_⟩) (by assumption) ?_
  rotate_left
  · intro w0 hSw
    (try dsimp only at hSw)
    go_simp
    try with_reducible rfl
  try simp only [Act.put, List.getElem_toArray, List.getElem_cons_zero, List.getElem_cons_succ, List.setIfInBounds_toArray, List.set_cons_zero, List.set_cons_succ]
  refine wpAnyH_take (i := 18) (v := ?_) rfl (by kernel_rfl) (by kernel_rfl) (by kernel_rfl) (fun _ _ _ h => h) (Or.inl ⟨by rfl, ?_⟩) (by assumption) ?_
  rotate_left
  · intro w0 hSw
    (try dsimp only at hSw)
    go_simp
    try with_reducible rfl
  try simp only [Act.put, List.getElem_toArray, List.getElem_cons_zero, List.getElem_cons_succ, List.setIfInBounds_toArray, List.set_cons_zero, List.set_cons_succ]
  refine wpAnyH_take (i := 19) (v := ?_) rfl (by kernel_rfl) (by kernel_rfl) (by kernel_rfl) (fun _ _ _ h => h) (Or.inl ⟨by rfl, ?_⟩) (by assumption) ?_
  rotate_left
  · intro w0 hSw
    (try dsimp only at hSw)
    go_simp
    try with_reducible rfl
  try simp only [Act.put, List.getElem_toArray, List.getElem_cons_zero, List.getElem_cons_succ, List.setIfInBounds_toArray, List.set_cons_zero, List.set_cons_succ]
  refine wpAnyH_take (i := 20) (v := ?_) rfl (by kernel_rfl) (by kernel_rfl) (by kernel_rfl) (fun _ _ _ h => h) (Or.inl ⟨by rfl, ?_⟩) (by assumption) ?_
  rotate_left
  · intro w0 hSw
    (try dsimp only at hSw)
    go_simp
    try with_reducible rfl
  try simp only [Act.put, List.getElem_toArray, List.getElem_cons_zero, List.getElem_cons_succ, List.setIfInBounds_toArray, List.set_cons_zero, List.set_cons_succ]
  refine wpAnyH_take (i := 21) (v := ?_) rfl (by kernel_rfl) (by kernel_rfl) (by kernel_rfl) (fun _ _ _ h => h) (Or.inl ⟨by rfl, ?_⟩) (by assumption) ?_
  rotate_left
  · intro w0 hSw
    (try dsimp only at hSw)
    go_simp
    try with_reducible rfl
  try simp only [Act.put, List.getElem_toArray, List.getElem_cons_zero, List.getElem_cons_succ, List.setIfInBounds_toArray, List.set_cons_zero, List.set_cons_succ]
  refine wpAnyH_take (i := 22) (v := ?_) rfl (by kernel_rfl) (by kernel_rfl) (by kernel_rfl) (fun _ _ _ h => h) (Or.inl ⟨by rfl, ?_⟩) (by assumption) ?_
  rotate_left
  · intro w0 hSw
    (try dsimp only at hSw)
    go_simp
    try with_reducible rfl
  try simp only [Act.put, List.getElem_toArray, List.getElem_cons_zero, List.getElem_cons_succ, List.setIfInBounds_toArray, List.set_cons_zero, List.set_cons_succ]
  refine wpAnyH_take (i := 23) (v := ?_) rfl (by kernel_rfl) (by kernel_rfl) (by kernel_rfl) (fun _ _ _ h => h) (Or.inl ⟨by rfl, ?_⟩) (by assumption) ?_
  rotate_left
  · intro w0 hSw
    (try dsimp only at hSw)
    go_simp
    try with_reducible rfl
  try simp only [Act.put, List.getElem_toArray, List.getElem_cons_zero, List.getElem_cons_succ, List.setIfInBounds_toArray, List.set_cons_zero, List.set_cons_succ]
  refine wpAnyH_take (i := 24) (v := ?_) rfl (by kernel_rfl) (by kernel_rfl) (by kernel_rfl) (fun _ _ _ h => h) (Or.inl ⟨by rfl, ?_⟩) (by assumption) ?_
  rotate_left
  · intro w0 hSw
    (try dsimp only at hSw)
    go_simp
    try with_reducible rfl
  try simp only [Act.put, List.getElem_toArray, List.getElem_cons_zero, List.getElem_cons_succ, List.setIfInBounds_toArray, List.set_cons_zero, List.set_cons_succ]
  refine wpAnyH_take (i := 25) (v := ?_) rfl (by kernel_rfl) (by kernel_rfl) (by kernel_rfl) (fun _ _ _ h => h) (Or.inl ⟨by rfl, ?_⟩) (by assumption) ?_
  rotate_left
  · intro w0 hSw
    (try dsimp only at hSw)
    go_simp
    try with_reducible rfl
  try simp only [Act.put, List.getElem_toArray, List.getElem_cons_zero, List.getElem_cons_succ, List.setIfInBounds_toArray, List.set_cons_zero, List.set_cons_succ]
  refine wpAnyH_take (i := 27) (v := ?_) rfl (by kernel_rfl) (by kernel_rfl) (by kernel_rfl) (fun _ _ _ h => h) (Or.inl ⟨by rfl, ?_⟩) (by assumption) ?_
  rotate_left
  · intro w0 hSw
    (try dsimp only at hSw)
    go_simp
    try with_reducible rfl
  try simp only [Act.put, List.getElem_toArray, List.getElem_cons_zero, List.getElem_cons_succ, List.setIfInBounds_toArray, List.set_cons_zero, List.set_cons_succ]
  refine wpAnyH_ready (rs := [26]) (by kernel_rfl) (by simp) ?_
  refine AllReadyH.cons rfl (fun K hK => ?_) AllReadyH.nil
  go_simp
  go_at_call 82
  refine (gMessages_any w8 HP8.out (by have := HF.out.lo; omega) (fun x hx => by have := HF.out.ds x hx; omega)).mono ?_
  rintro r w9 ⟨gv9, rfl, ms9, b9⟩
  have ha9 := fun o => (b9.cell (p := ⟨AB, o, none⟩) (by show AB < _; omega)).trans (ha8 o)
  have ht9 := fun o => (b9.cell (p := ⟨tb, o, none⟩) (by show tb < _; omega)).trans (ht8 o)
  have z9 := b9.size
  have BB9 := Lib.hid (BB8.out.trans (b9.mono (by omega)))
  have MS9 := Lib.hid (MS8.out.keep (M := fun _ => False) (Below.keeps b9) (fun _ _ => id) (fun _ _ => id))
  have MG9 := Lib.hid ms9
  go_wp2_with fail
  refine hK.out _ _ ?_ (fun hHeld => ?_)
  · try dsimp only
    first | exact ⟨ca0, ca1, ca2, ca3, ca4, ca5, ct2, ct3, ct4, ct5, ct6, ct7, ct8⟩ | go_keep
  clear hK K
  try simp only [Act.put, List.getElem_toArray, List.getElem_cons_zero, List.getElem_cons_succ, List.setIfInBounds_toArray, List.set_cons_zero, List.set_cons_succ]
  refine wpAnyH_ready (rs := [28]) (by kernel_rfl) (by simp) ?_
  refine AllReadyH.cons rfl (fun K hK => ?_) AllReadyH.nil
  go_simp
  go_at_call 54
  refine (refSame_any w9 MG9.out MS9.out (by have := HF.out.lo; omega)).mono ?_
  rintro r w10 ⟨rfl, b10⟩
  have ha10 := fun o => (b10.cell (p := ⟨AB, o, none⟩) (by show AB < _; omega)).trans (ha9 o)
  have ht10 := fun o => (b10.cell (p := ⟨tb, o, none⟩) (by show tb < _; omega)).trans (ht9 o)
  have BB := Lib.hid (BB9.out.trans (b10.mono (by omega)))
  go_wp2_with fail
  refine hK.out _ _ ?_ (fun hHeld => ?_)
  · try dsimp only
    first | exact ⟨ca0, ca1, ca2, ca3, ca4, ca5, ct2, ct3, ct4, ct5, ct6, ct7, ct8⟩ | go_keep
  clear hK K
  try simp only [Act.put, List.getElem_toArray, List.getElem_cons_zero, List.getElem_cons_succ, List.setIfInBounds_toArray, List.set_cons_zero, List.set_cons_succ]
  refine wpAnyH_take (i := 29) (v := ?_) rfl (by kernel_rfl) (by kernel_rfl) (by kernel_rfl) (fun _ _ _ h => h) (Or.inl ⟨by rfl, ?_⟩) (by assumption) ?_
  rotate_left
  · intro w0 hSw
    (try dsimp only at hSw)
    go_simp
    try with_reducible rfl
  try simp only [Act.put, List.getElem_toArray, List.getElem_cons_zero, List.getElem_cons_succ, List.setIfInBounds_toArray, List.set_cons_zero, List.set_cons_succ]
  refine wpAnyH_take (i := 30) (v := ?_) rfl (by kernel_rfl) (by kernel_rfl) (by kernel_rfl) (fun _ _ _ h => h) (Or.inl ⟨by rfl, ?_⟩) (by assumption) ?_
  rotate_left
  · intro w0 hSw
    (try dsimp only at hSw)
    go_simp
    try with_reducible rfl
  try simp only [Act.put, List.getElem_toArray, List.getElem_cons_zero, List.getElem_cons_succ, List.setIfInBounds_toArray, List.set_cons_zero, List.set_cons_succ]
  refine wpAnyH_done (by kernel_rfl) ?_ _
  go_wp2
  go_ret
  exact ⟨rfl, B7.out.trans (BB.out.mono (by omega))⟩
end Go.Proofs.YtpicplkbblmbeaaGreat
end
section
namespace Go.Proofs.YtpicplkbblmbeaaGreat
set_option maxRecDepth 100000
open Go.RowKit
set_option linter.unusedVariables false
set_option linter.unusedSimpArgs false
theorem gTakeE_any {O R : Nat → Prop} {q : Nat} {m : GetM} {ov : Value} (v : Int) (d : Bool) (s0 : Option Addr) (sl sc : Nat) (w : World) (h : GetI w O R q m ov) (hl : m.live = false) :
    Calls Tryz.prog 23 #[.pointer (some ⟨q, 0, none⟩), .agg #[.int .u64 v, .bool d, .slice s0 sl sc]] w fun e w' => e = .returned (.tuple #[]) ∧ Below w.heap.size w w' := by
  refine gTake_of v d s0 sl sc (fun w' => Below w.heap.size w w') w h.lt (fun w1 b1 => ?_)
  have hA := (h.below b1).at_
  obtain ⟨c, pc, hd, first, dn, out, odd, e⟩ := m
  cases pc with
  | done =>
    obtain ⟨t, hm, ht⟩ := hA
    have ht' : t = .nilFunc := ht
    subst ht'
    refine (cTake_end q _ _ v d s0 sl sc w1 hm).mono ?_
    rintro e w2 ⟨rfl, b2⟩
    exact ⟨rfl, b1.trans (b2.mono b1.size), Below.keeps b2⟩
  | _ => cases hl
theorem GetM.step_end {m : GetM} (h : m.live = false) (x : AN) : m.step x = m := by
  obtain ⟨c, pc, hd, first, dn, out, odd, e⟩ := m
  cases pc with
  | done => rfl
  | _ => cases h
theorem gTake_ff {F : Nat → Prop} {q : Nat} {m : GetM} (x : AN) (s0 : Option Addr) (sl sc : Nat) (w : World) (h : GetF w F q m) (hx : inU x.v) (hxb : x.b.length ≤ 1000) (hr : RdB w (.slice s0 sl sc) x.b) :
    Calls Tryz.prog 23 #[.pointer (some ⟨q, 0, none⟩), .agg #[.int .u64 x.v, .bool x.d, .slice s0 sl sc]] w fun e w' => e = .returned (.tuple #[]) ∧ ∃ F', GetF w' F' q (m.step x) ∧ (∀ i, F' i → F i ∨ w.heap.size ≤ i) ∧ Keep F w w' := by
  by_cases hl : m.live = true
  · exact gTake_f x s0 sl sc w h hl hx hxb hr
  · have hl' : m.live = false := by simpa using hl
    obtain ⟨_, _, _, O, R, ov, _, hI⟩ := id h
    refine (gTakeE_any x.v x.d s0 sl sc w hI hl').mono ?_
    rintro e w' ⟨rfl, bb⟩
    exact ⟨rfl, F, by rw [GetM.step_end hl']; exact h.below bb, fun i hi => .inl hi, Below.keeps bb⟩
theorem rdA_capG {w : World} {a : Option Addr} {n c : Nat} {T : List AnsV} (h : RdA w (.slice a n c) T) : T.length ≤ c ∧ n = T.length := by
  rcases h with ⟨e, rfl⟩ | ⟨a', cap, e, rfl, hm⟩ | ⟨b, off, cap, e, hc, hm, hcell⟩
  · cases e; exact ⟨Nat.zero_le _, rfl⟩
  · cases e; exact ⟨Nat.zero_le _, rfl⟩
  · cases e; exact ⟨hc, rfl⟩
theorem take_snocG (T : List AnsV) (i : Nat) (h : i < T.length) : T.take (i + 1) = T.take i ++ [gA T i] := by
  rw [List.take_add_one, List.getElem?_eq_getElem h]
  simp [gA, h]
/-- A get that was told answers. -/
def GetM.told (m : GetM) (T : List AnsV) : GetM := T.foldl (fun m x => m.step x.an) m
theorem GetM.told_snoc (m : GetM) (T : List AnsV) (x : AnsV) : m.told (T ++ [x]) = (m.told T).step x.an := by simp [GetM.told]
theorem GetM.told_end {m : GetM} (h : m.live = false) (T : List AnsV) : m.told T = m := by
  induction T with
  | nil => rfl
  | cons x r ih =>
    show GetM.told (m.step x.an) r = m
    rw [GetM.step_end h]
    exact ih
theorem GetM.eat_map (m : GetM) (T : List AnsV) : (m.eat (T.map AnsV.an)).1 = m.told T := by
  induction T generalizing m with
  | nil => rfl
  | cons x r ih =>
    rw [List.map_cons]
    unfold GetM.eat
    by_cases hl : m.live = true
    · have h9 := ih (m.step x.an)
      unfold GetM.eat at h9
      show (if getMac.live m = true then Mac.eat getMac (getMac.step m x.an) (r.map AnsV.an) else (m, x.an :: r.map AnsV.an)).1 = _
      rw [if_pos (show getMac.live m = true from hl)]
      exact h9
    · have hl' : m.live = false := by simpa using hl
      show (if getMac.live m = true then Mac.eat getMac (getMac.step m x.an) (r.map AnsV.an) else (m, x.an :: r.map AnsV.an)).1 = _
      rw [if_neg (show ¬ getMac.live m = true from hl)]
      exact (GetM.told_end hl' (x :: r)).symm
theorem GetM.eat_ans (m : GetM) (T : List AnsV) : (m.eat (ans T 0)).1 = m.told T := by
  unfold ans
  rw [List.drop_zero]
  exact GetM.eat_map m T
set_option maxHeartbeats 1000000 in
theorem steps08_early (b s most : Int) (t0 : Option Addr) (tn tc : Nat) (w : World) (c1 : (60 : Int) < (tn : Int)) :
    Calls Tryz.prog 4 #[.agg #[.int .i64 b, .int .i64 s], .int .i64 most, .slice t0 tn tc] w fun r w' => r = .returned (.bool true) ∧ Below w.heap.size w w' := by
  go_enter Tryz.func4, Tryz.ntmps4
  go_wp2_with fail
  refine (fixed08_any _).mono ?_
  rintro r w1 ⟨rfl, b1⟩
  go_wp2
  go_ret
  exact ⟨rfl, ((Below.refl w.heap.size w).alloc (Nat.le_refl _) _).trans (b1.mono (by simp))⟩
set_option maxHeartbeats 4000000 in
theorem steps08_main (b s most : Int) (t0 : Option Addr) (tn tc : Nat) (T : List AnsV) (w : World) (hT : RdA w (.slice t0 tn tc) T) (hS : Sls T) (hTs : RdAs w T) (hu : ∀ i, i < T.length → inU (gA T i).v)
    (hb0 : -9223372036854775808 ≤ b) (hb1 : b ≤ 9223372036854775807) (hs0 : -9223372036854775808 ≤ s) (hs1 : s ≤ 9223372036854775807) (hm0 : -9223372036854775808 ≤ most) (hm1 : most ≤ 9223372036854775807) (c1 : ¬ (60 : Int) < (tn : Int)) :
    Calls Tryz.prog 4 #[.agg #[.int .i64 b, .int .i64 s], .int .i64 most, .slice t0 tn tc] w fun r w' => r = .returned (.bool true) ∧ Below w.heap.size w w' := by
  obtain ⟨htc, htl⟩ := rdA_capG hT
  subst htl
  have htl9 : T.length ≤ 60 := by omega
  have HT := Lib.hid hT
  have HS := Lib.hid hS
  have HTS := Lib.hid hTs
  have HU := Lib.hid hu
  clear hT hS hTs hu
  go_enter Tryz.func4, Tryz.ntmps4
  go_wp2_with fail
  obtain ⟨wz, hwz⟩ : ∃ wz, wz = w.alloc (Obj.cells #[Value.int IntKind.i64 b, Value.int IntKind.i64 s] 26) := ⟨_, rfl⟩
  have bz : Below w.heap.size w wz := by rw [hwz]; exact (Below.refl _ _).alloc (Nat.le_refl _) _
  have XZ := Lib.hid (show Blk wz w.heap.size [Value.int IntKind.i64 b, Value.int IntKind.i64 s] by rw [hwz]; exact Blk.made w _ _)
  have zz : w.heap.size < wz.heap.size := by rw [hwz]; simp
  rw [← hwz]
  refine (fixed08_any _).mono ?_
  rintro r w1 ⟨rfl, b1⟩
  have z1 := b1.size
  have B1 := Lib.hid (bz.trans (b1.mono (by omega)))
  have X1 := Lib.hid (XZ.out.below b1 zz)
  have y0 := X1.out.cell 0
  have y1 := X1.out.cell 1
  have lx1 : w.heap.size < w1.heap.size := by omega
  simp only [List.getElem?_cons_zero, List.getElem?_cons_succ] at y0 y1
  clear b1 bz hwz XZ
  go_wp2_with fail
  refine (gNew_f b s most w1 hb0 hb1 hs0 hs1).mono ?_
  rintro r w3 ⟨q, rfl, hq, hF, b3⟩
  have z3 := b3.size
  have HF3 := Lib.hid hF
  have X3 := Lib.hid (X1.out.below b3 lx1)
  have B3 := Lib.hid (B1.out.trans (b3.mono (by omega)))
  clear b3 hF y0 y1
  obtain ⟨m0, hm0'⟩ : ∃ m0, m0 = GetC.init ⟨b, s, most⟩ := ⟨_, rfl⟩
  rw [← hm0'] at HF3
  have HM0 := Lib.hid hm0'
  clear hm0'
  go_wp2_with fail
  go_loopw [19] (fun i wx => ∃ (j : Nat) (F : Nat → Prop), j ≤ T.length ∧ i = .int .i64 j ∧ (∀ i, i < j → (gA T i).b.length ≤ 100) ∧ GetF wx F q (m0.told (T.take j)) ∧ (∀ i, F i → w.heap.size < i) ∧ Blk wx w.heap.size [Value.int IntKind.i64 b, Value.int IntKind.i64 s] ∧ Below w.heap.size w wx) (fun i _ => T.length - (intOf i).toNat)
  case atStart => exact ⟨0, _, by omega, rfl, fun i hi => absurd hi (Nat.not_lt_zero _), HF3.out, fun i hi => by omega, X3.out, B3.out⟩
  case round =>
    obtain ⟨j, F, hj, rfl, hbs, hF, hF0, hX, hbel⟩ := hrel
    have zx := hbel.size
    have BX := Lib.hid hbel
    have XX := Lib.hid hX
    have HFF := Lib.hid hF
    have HF0 := Lib.hid hF0
    have HBS := Lib.hid hbs
    have lx := hX.lt
    have x0 := hX.cell 0
    have x1 := hX.cell 1
    simp only [List.getElem?_cons_zero, List.getElem?_cons_succ] at x0 x1
    have hlj : (T.take j).length = j := by simp; omega
    have same := fun (O R : Nat → Prop) (gv : Value) (m : GetM) (hm : m = m0.told (T.take j)) (hf : m.fine) (w' : World) (bw : Below w.heap.size w w') (h : GetI w' O R q m gv) => same08_any b s most t0 tc (T.take j) O R q gv m w' (by rw [GetM.eat_ans, ← HM0.out]; exact hm) h hf (by rw [hlj]; exact rdA_take (HT.out.below bw) j hj) (fun i hi => by rw [gA_take _ _ _ (by omega)]; exact HS.out i (by omega)) ((HTS.out.below bw).take j) (by omega) (fun i hi => by rw [gA_take _ _ _ (by omega)]; exact HU.out i (by omega)) (fun i hi => by rw [gA_take _ _ _ (by omega)]; have := HBS.out i (by omega); omega) hb0 hb1 hs0 hs1 hm1
    rw [hlj] at same
    have SM := Lib.hid same
    clear hF hF0 hX hbel same hlj hbs
    obtain ⟨_, _, hfine, O, R, gv, _, hI⟩ := HFF.out
    have HI := Lib.hid hI
    have HFN := Lib.hid hfine
    clear hI hfine
    by_cases hjT : j < T.length
    · have hjt : (j : Int) < (T.length : Int) := by omega
      have hjc : j ≤ tc := by omega
      obtain ⟨bk, off, rfl, hcell⟩ : ∃ b off, t0 = some ⟨b, off, none⟩ ∧ ∀ i, i < T.length → wr.cell? ⟨b, off + i * 3, none⟩ = some (.int .u64 (gA T i).v) ∧ wr.cell? ⟨b, off + i * 3 + 1, none⟩ = some (.bool (gA T i).d) ∧ wr.cell? ⟨b, off + i * 3 + 2, none⟩ = some (gA T i).s := by
        rcases HT.out.below BX.out with ⟨_, e⟩ | ⟨_, _, _, e, _⟩ | ⟨b, off, cap, e1, e2, e3, e4⟩
        · rw [e] at hjT; cases hjT
        · rw [e] at hjT; cases hjT
        · cases e1
          exact ⟨b, off, rfl, e4⟩
      obtain ⟨y0, y1, y2⟩ := hcell j hjT
      obtain ⟨sa, sn, scc, hsv⟩ := HS.out j hjT
      have hrj : RdB w (.slice sa sn scc) (gA T j).b := by rw [← hsv]; exact HTS.out j hjT
      rw [hsv] at y2
      have hsn : sn = (gA T j).b.length := rd_len hrj
      have HSN := Lib.hid hsn
      have HRJ := Lib.hid hrj
      clear hcell hsv hsn hrj
      by_cases hbig : (100 : Int) < (sn : Int)
      · as_aux_lemma =>
        go_wp2
        go_ret
        exact ⟨rfl, BX.out⟩
      go_upto_region 11 with fail
      go_region_held3 (fun w' => w'.cell? ⟨w.heap.size, 0, none⟩ = some (.int .i64 b) ∧ w'.cell? ⟨w.heap.size, 1, none⟩ = some (.int .i64 s)) (first | go_keep | trivial)
        (first
          | (go_at_call 22; refine (SM.out O R gv _ rfl HFN.out _ (bel_drewN 1 BX.out) (HI.out.below (bel_drewN 1 (Below.refl _ _)))).mono ?_; rintro r w5 ⟨rfl, b5⟩; have hc := fun o => b5.cell (p := ⟨w.heap.size, o, none⟩) (by simpa using lx)))
      all_goals
        clear hc
        have HI5 := Lib.hid (HFF.out.below ((bel_drewN 1 (Below.refl _ _)).trans b5))
        have B5 := Lib.hid (BX.out.trans (((bel_drewN 1 (Below.refl wr.heap.size wr)).trans b5).mono zx))
        have X5 := Lib.hid (XX.out.below ((bel_drewN 1 (Below.refl _ _)).trans b5) lx)
        have z5 := b5.size
        simp at z5
        have lbk := World.block_lt_of_cell? _ _ y0
        have v0 := (((bel_drewN 1 (Below.refl wr.heap.size wr)).trans b5).cell (p := ⟨bk, off + j * 3, none⟩) lbk).trans y0
        have v1 := (((bel_drewN 1 (Below.refl wr.heap.size wr)).trans b5).cell (p := ⟨bk, off + j * 3 + 1, none⟩) lbk).trans y1
        have v2 := (((bel_drewN 1 (Below.refl wr.heap.size wr)).trans b5).cell (p := ⟨bk, off + j * 3 + 2, none⟩) lbk).trans y2
        clear b5 x0 x1 y0 y1 y2
        go_wp2_with fail
        refine (gTake_ff (gA T j).an sa sn scc _ HI5.out (HU.out j hjT) (by show (gA T j).b.length ≤ 1000; have := HSN.out; omega) (HRJ.out.below B5.out)).mono ?_
        rintro r w6 ⟨rfl, F', hF', hFF', k6⟩
        have HF6 := Lib.hid hF'
        have HX6 := Lib.hid (X5.out.keep k6 (fun h9 => absurd (HF0.out _ h9) (Nat.lt_irrefl _)))
        have B6 := Lib.hid (B5.out.trans (k6.below (by omega) (fun k h1 h2 => by have := HF0.out k h2; omega)))
        have HFX := Lib.hid hFF'
        clear hF' hFF' k6 v0 v1 v2
        go_wp2
        refine ⟨⟨j + 1, F', hjT, by go_num, fun i hi => ?_, ?_, fun i hi => ?_, HX6.out, B6.out⟩, by simp [intOf]; omega⟩
        · by_cases hij : i = j
          · subst hij
            have := HSN.out
            omega
          · exact HBS.out i (by omega)
        · rw [take_snocG T j hjT, GetM.told_snoc]
          exact HF6.out
        · rcases HFX.out i hi with h9 | h9
          · exact HF0.out i h9
          · omega
    · obtain rfl : j = T.length := by omega
      go_wp2_with fail
      refine (SM.out O R gv _ rfl HFN.out _ BX.out HI.out).mono ?_
      rintro r w5 ⟨rfl, b5⟩
      go_wp2
      go_ret
      exact ⟨rfl, BX.out.trans (b5.mono zx)⟩
theorem i64_bdG {a : Int} (h : (Lit.int .i64 a).wf = true) : -9223372036854775808 ≤ a ∧ a ≤ 9223372036854775807 := by
  simpa [Lit.wf, IntKind.min, IntKind.max, IntKind.signed, IntKind.bits] using h
theorem u64_bdG {a : Int} (h : (Lit.int .u64 a).wf = true) : inU a := by
  unfold inU
  simpa [Lit.wf, IntKind.min, IntKind.max, IntKind.signed, IntKind.bits] using h
theorem steps08_said (b s : Int) (wb : (Lit.int .i64 b).wf = true) (ws : (Lit.int .i64 s).wf = true) (most : Int) (wt : (Lit.int .i64 most).wf = true) (t0 : Option Addr) (tn tc : Nat) (T : List AnsV) (w : World) (hT : RdA w (.slice t0 tn tc) T) (hA : AnsIs w T) :
    Calls Tryz.prog 4 #[.agg #[.int .i64 b, .int .i64 s], .int .i64 most, .slice t0 tn tc] w fun r w' => r = .returned (.bool true) ∧ Below w.heap.size w w' := by
  have bb := i64_bdG wb
  have bs := i64_bdG ws
  have bt := i64_bdG wt
  by_cases he : (60 : Int) < (tn : Int)
  · exact steps08_early b s most t0 tn tc w he
  · exact steps08_main b s most t0 tn tc T w hT (fun i hi => (hA i hi).1) (fun i hi => (hA i hi).2.1) (fun i hi => u64_bdG (hA i hi).2.2.2) bb.1 bb.2 bs.1 bs.2 bt.1 bt.2 he
end Go.Proofs.YtpicplkbblmbeaaGreat
end
