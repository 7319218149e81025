/- Chains over a tape: what they make of it. No program in sight but the tape's place in memory. Conditions: as each says. -/
import Derived.Test.YtknahaaefmlcpaaGreatEg
import Derived.Test.YtknahaaefmlcpaaGreatQe
import Derived.Test.YtknahaaefmlcpaaGreatEf
import Derived.Test.YtknahaaefmlcpaaGreatDk
import Derived.Test.YtknahaaefmlcpaaGreatDs
import Derived.Test.YtknahaaefmlcpaaGreatDt
import Derived.Test.YtknahaaefmlcpaaGreatDy
import Derived.Deep.DeepCutAuto
section
namespace Go.Proofs.YtknahaaefmlcpaaGreat
set_option maxRecDepth 100000
open Go.RowKit
set_option linter.unusedVariables false
set_option linter.unusedSimpArgs false
inductive ChP.Eat {M : Mac} (c : ChP M) : Option M.σ × c.τ → List AN → (Option M.σ × c.τ) × List AN → Prop
 | none (t : c.τ) (L : List AN) : Eat c (none, t) L ((none, t), L)
 | wait (m : M.σ) (t : c.τ) (h : M.live m = true) : Eat c (some m, t) [] ((some m, t), [])
 | told (m : M.σ) (t : c.τ) (x : AN) (L : List AN) (E : (Option M.σ × c.τ) × List AN) (h : M.live m = true) (k : Eat c (some (M.step m x), t) L E) : Eat c (some m, t) (x :: L) E
 | dead (m : M.σ) (t : c.τ) (L : List AN) (E : (Option M.σ × c.τ) × List AN) (h : M.live m = false) (k : Eat c (c.mo (c.en m t)) L E) : Eat c (some m, t) L E
theorem ChP.Eat.eat {M : Mac} {c : ChP M} (hall : ∀ m t, c.fin (c.settle (c.fu t) (some m, t))) {f : Option M.σ × c.τ} {L : List AN} {E : (Option M.σ × c.τ) × List AN} (h : c.Eat f L E) : ∀ n, c.fin (c.settle n f) → Mac.eat c.mac (c.settle n f) L = E := by
 induction h with
 | none t L =>
  intro n _
  rw [c.settle_none]
  exact eat_done (M := c.mac) rfl L
 | wait m t h =>
  intro n _
  rw [c.settle_live _ _ _ h]
  rfl
 | told m t x L E h k ih =>
  intro n _
  rw [c.settle_live _ _ _ h]
  have e : Mac.eat c.mac (some m, t) (x :: L) = Mac.eat c.mac (c.mac.step (some m, t) x) L := by
   conv => lhs; unfold Mac.eat
   exact if_pos rfl
  rw [e]
  exact ih (c.fu t) (hall _ _)
 | dead m t L E h k ih =>
  intro n hf
  cases n with
  | zero =>
   have := hf m rfl
   rw [h] at this
   cases this
  | succ n =>
   rw [c.settle_dead _ _ _ h] at hf ⊢
   exact ih n hf
theorem ChP.Eat.of {M : Mac} {c : ChP M} {t : c.τ} {E : (Option M.σ × c.τ) × List AN} : ∀ (L : List AN) (m m' : M.σ) (L' : List AN), Mac.eat M m L = (m', L') → c.Eat (some m', t) L' E → c.Eat (some m, t) L E := by
 intro L
 induction L with
 | nil =>
  intro m m' L' h k
  have : (m, ([] : List AN)) = (m', L') := h
  cases this
  exact k
 | cons x L ih =>
  intro m m' L' h k
  by_cases hl : M.live m = true
  ·have e : Mac.eat M m (x :: L) = Mac.eat M (M.step m x) L := by
    conv => lhs; unfold Mac.eat
    exact if_pos hl
   rw [e] at h
   exact .told _ _ _ _ _ hl (ih _ _ _ h k)
  ·rw [eat_done (by simpa using hl)] at h
   cases h
   exact k
theorem eat_left {M : Mac} {T : List AnsV} : ∀ (j k : Nat) (m m' : M.σ) (L' : List AN), k ≤ T.length → T.length - k = j → Mac.eat M m (ans T k) = (m', L') → (∃ k', k' ≤ T.length ∧ L' = ans T k') ∧ (M.live m' = true → L' = []) := by
 intro j
 induction j with
 | zero =>
  intro k m m' L' hk hj h
  rw [eat_end (by omega)] at h
  cases h
  exact ⟨⟨k, hk, (ans_nil (by omega)).symm⟩, fun _ => rfl⟩
 | succ j ih =>
  intro k m m' L' hk hj h
  by_cases hl : M.live m = true
  ·rw [eat_told hl (by omega)] at h
   exact ih (k + 1) _ _ _ (by omega) (by omega) h
  ·have hl' : M.live m = false := by simpa using hl
   rw [eat_done hl'] at h
   cases h
   exact ⟨⟨k, hk, rfl⟩, fun h => by rw [hl'] at h; cases h⟩
theorem eat_keeps {M : Mac} (Q : M.σ → Prop) (hs : ∀ m x, M.live m = true → Q m → Q (M.step m x)) : ∀ (L : List AN) (m : M.σ), Q m → Q (Mac.eat M m L).1 := by
 intro L
 induction L with
 | nil => intro m h; exact h
 | cons x L ih =>
  intro m h
  by_cases hl : M.live m = true
  ·have e : Mac.eat M m (x :: L) = Mac.eat M (M.step m x) L := by
    conv => lhs; unfold Mac.eat
    exact if_pos hl
   rw [e]
   exact ih _ (hs _ _ hl h)
  ·rw [eat_done (by simpa using hl)]
   exact h
def FixM.bz (m : FixM) : Prop := (m.live = true ∧ m.e = 10 ∧ m.n = 0) ∨ (m.live = false ∧ m.e ≠ 10)
theorem FixM.bz_stop (m : FixM) : m.stop.bz := .inr ⟨rfl, by show (0 : Int) ≠ 10; decide⟩
theorem FixM.bz_ahead {m : FixM} (a : Int) (h : m.e = 10 ∧ m.n = 0) : (m.ahead a).bz := by
 unfold FixM.ahead
 split
 ·exact m.bz_stop
 ·exact .inl ⟨rfl, h⟩
theorem FixM.bz_back {m : FixM} (a f : Int) (h : m.e = 10 ∧ m.n = 0) : (m.back a f).bz := by
 unfold FixM.back
 split
 ·exact .inl ⟨rfl, h⟩
 ·exact .inl ⟨rfl, h⟩
theorem FixM.bz_step {m : FixM} {x : AN} (hl : m.live = true) (h : m.bz) : (m.step x).bz := by
 have hh : m.e = 10 ∧ m.n = 0 := by
  rcases h with h | h
  ·exact h.2
  ·rw [hl] at h
   cases h.1
 obtain ⟨c, pc, fi, la, n, e⟩ := m
 cases pc with
 | done => cases hl
 | h0 => exact .inl ⟨rfl, hh⟩
 | t0 h0 =>
  show (FixM.begin _ h0 x.v).bz
  unfold FixM.begin
  split
  ·exact FixM.bz_stop _
  ·exact .inl ⟨rfl, hh⟩
 | lk =>
  simp only [FixM.step]
  split
  ·exact FixM.bz_stop _
  split
  ·exact .inl ⟨rfl, hh⟩
  ·exact FixM.bz_ahead _ hh
 | ah a =>
  simp only [FixM.step]
  split
  ·exact FixM.bz_ahead _ hh
  ·exact FixM.bz_back _ _ hh
 | bk a f =>
  simp only [FixM.step]
  split
  ·exact FixM.bz_stop _
  ·exact FixM.bz_back _ _ hh
 | pd n => exact FixM.bz_stop _
theorem FixC.bz_init (c : FixC) : c.init.bz := by
 unfold FixC.init
 by_cases h : rgOk c.b c.s = true
 ·rw [if_pos h, if_pos h]
  exact .inl ⟨rfl, rfl, rfl⟩
 ·rw [if_neg h, if_neg h]
  exact .inr ⟨rfl, by show (1 : Int) ≠ 10; decide⟩
def GetM.bz (m : GetM) : Prop := (m.live = true ∧ m.e = 10) ∨ (m.live = false ∧ m.e ≠ 10)
theorem GetM.bz_stop (m : GetM) : m.stop.bz := .inr ⟨rfl, by show (if m.odd = true then (13 : Int) else 0) ≠ 10; split <;> decide⟩
theorem GetM.bz_zero {m : GetM} (h : m.e = 10) : m.zero.bz := by
 unfold GetM.zero
 split
 ·exact m.bz_stop
 ·exact .inl ⟨rfl, h⟩
theorem GetM.bz_record {m : GetM} (h : m.e = 10) : m.record.bz := by
 unfold GetM.record
 split
 ·exact GetM.bz_zero h
 ·exact .inl ⟨rfl, h⟩
theorem GetM.bz_step {m : GetM} {x : AN} (hl : m.live = true) (h : m.bz) : (m.step x).bz := by
 have hh : m.e = 10 := by
  rcases h with h | h
  ·exact h.2
  ·rw [hl] at h
   cases h.1
 obtain ⟨c, pc, hd, fi, dn, out, odd, e⟩ := m
 cases pc with
 | done => cases hl
 | hd0 => exact GetM.bz_record hh
 | rc =>
  simp only [GetM.step]
  split
  ·exact GetM.bz_zero hh
  split
  ·exact GetM.bz_zero hh
  split
  ·exact GetM.bz_record hh
  split
  ·exact GetM.bz_record hh
  ·exact .inl ⟨rfl, hh⟩
 | rd sz typ p n hv =>
  simp only [GetM.step]
  split
  ·exact GetM.bz_record hh
  ·exact .inl ⟨rfl, hh⟩
 | zr p n =>
  simp only [GetM.step]
  split
  ·exact .inl ⟨rfl, hh⟩
  ·exact .inl ⟨rfl, hh⟩
 | st => exact GetM.bz_stop _
theorem GetC.bz_init (c : GetC) : c.init.bz := by
 unfold GetC.init
 by_cases h : c.ok = true
 ·rw [if_pos h, if_pos h]
  exact .inl ⟨rfl, rfl⟩
 ·rw [if_neg h, if_neg h]
  exact .inr ⟨rfl, by show (1 : Int) ≠ 10; decide⟩
def PutM.bz (m : PutM) : Prop := (m.live = true ∧ m.e = 10) ∨ (m.live = false ∧ m.e ≠ 10)
theorem PutM.bz_gapped {m : PutM} (t : Int) (h : m.e = 10) : (m.gapped t).bz := by
 unfold PutM.gapped
 split
 ·exact .inl ⟨rfl, h⟩
 split
 ·exact .inl ⟨rfl, h⟩
 ·exact .inl ⟨rfl, h⟩
theorem PutM.bz_step {m : PutM} {x : AN} (hl : m.live = true) (h : m.bz) : (m.step x).bz := by
 have hh : m.e = 10 := by
  rcases h with h | h
  ·exact h.2
  ·rw [hl] at h
   cases h.1
 obtain ⟨c, pc, hd, pos, cl, e⟩ := m
 cases pc with
 | done => cases hl
 | hd0 => exact .inl ⟨rfl, hh⟩
 | tl =>
  simp only [PutM.step]
  split
  ·exact PutM.bz_gapped _ hh
  ·exact .inl ⟨rfl, hh⟩
 | rm t =>
  simp only [PutM.step]
  split
  ·exact .inl ⟨rfl, hh⟩
  ·exact .inr ⟨rfl, by show (5 : Int) ≠ 10; decide⟩
 | rs t v => exact PutM.bz_gapped _ hh
 | ph t =>
  simp only [PutM.step]
  split
  ·exact .inl ⟨rfl, hh⟩
  ·exact .inr ⟨rfl, by show (5 : Int) ≠ 10; decide⟩
 | ps t v => exact .inl ⟨rfl, hh⟩
 | cs t pad =>
  simp only [PutM.step]
  split
  ·refine .inl ⟨?_, hh⟩
   show (match (if pad = 0 then PPc.wh _ else PPc.pd t) with | .done => false | _ => true) = true
   split <;> simp_all
   split at * <;> simp_all
  ·exact .inl ⟨rfl, hh⟩
 | pd t => exact .inl ⟨rfl, hh⟩
 | wh a =>
  simp only [PutM.step]
  split
  ·exact .inl ⟨rfl, hh⟩
  ·exact .inl ⟨rfl, hh⟩
 | wb a p l =>
  simp only [PutM.step]
  split
  ·exact .inl ⟨rfl, hh⟩
  ·exact .inl ⟨rfl, hh⟩
 | fi a => exact .inr ⟨rfl, by show (0 : Int) ≠ 10; decide⟩
theorem PutC.bz_init (c : PutC) : c.init.bz := by
 unfold PutC.init PutC.e0 PutC.ok
 by_cases h : (rgOk c.b c.s && decide (1 ≤ c.typ)) = true
 ·rw [h]
  simp only [Bool.true_and, if_true]
  by_cases h2 : (c.d.length : Int) ≤ c.s / 8
  ·simp only [h2, decide_true, if_true]
   exact .inl ⟨rfl, rfl⟩
  ·simp only [h2, decide_false, if_false]
   exact .inr ⟨rfl, by show (4 : Int) ≠ 10; decide⟩
 ·have h' : (rgOk c.b c.s && decide (1 ≤ c.typ)) = false := by simpa using h
  rw [h']
  exact .inr ⟨rfl, by show (1 : Int) ≠ 10; decide⟩
theorem TpAt.wait {M : Mac} {c : ChP M} {w : World} {tb : Nat} {tv : Value} {T : List AnsV} {m : M.σ} {L : List AN} {t : c.τ} (h : TpAt M w tb tv T (m, L)) (hl : M.live m = true) : TpAt c.mac w tb tv T ((some m, t), []) := by
 rcases h with ⟨h1, h2, s0, sl, sc, h3, h4⟩ | ⟨h1, _⟩
 ·exact .inl ⟨rfl, rfl, s0, sl, sc, h3, h4⟩
 ·have h1 : M.live m = false := h1
  rw [hl] at h1
  cases h1
theorem TpAt.dead {M : Mac} {w : World} {tb k : Nat} {tv : Value} {T : List AnsV} {m : M.σ} (hk : k ≤ T.length) (h : TpAt M w tb tv T (m, ans T k)) (hl : M.live m = false) : Tp w tb tv k accZ false := by
 rcases h with ⟨h1, _⟩ | ⟨_, h2⟩
 ·have h1 : M.live m = true := h1
  rw [hl] at h1
  cases h1
 ·have h2 : Tp w tb tv (T.length - (ans T k).length) accZ false := h2
  rw [ans_len, show T.length - (T.length - k) = k by omega] at h2
  exact h2
theorem TpAt.none {M : Mac} {c : ChP M} {w : World} {tb k : Nat} {tv : Value} {T : List AnsV} {t : c.τ} (hk : k ≤ T.length) (h : Tp w tb tv k accZ false) : TpAt c.mac w tb tv T ((none, t), ans T k) := by
 refine .inr ⟨rfl, ?_⟩
 show Tp w tb tv (T.length - (ans T k).length) accZ false
 rw [ans_len, show T.length - (T.length - k) = k by omega]
 exact h
theorem wrap_wrap (x : Int) : IntKind.i64.wrap (IntKind.i64.wrap x) = IntKind.i64.wrap x := by
 rw [IntKind.wrap_i64 (IntKind.i64.wrap x), IntKind.wrap_i64 x]
 omega
structure ChT {M : Mac} (c : ChP M) (t0 : c.τ) (k0 : Nat) (w : World) (tb : Nat) (tv : Value) (T : List AnsV) (k : Nat) (t : c.τ) : Prop where
 tp : Tp w tb tv k accZ false
 kl : k ≤ T.length
 go : ∀ E, c.Eat (c.mo t) (ans T k) E → c.Eat (c.mo t0) (ans T k0) E
theorem ChT.below {M : Mac} {c : ChP M} {t0 : c.τ} {k0 : Nat} {w w' : World} {tb : Nat} {tv : Value} {T : List AnsV} {k : Nat} {t : c.τ} (h : ChT c t0 k0 w tb tv T k t) (b : Below w.heap.size w w') : ChT c t0 k0 w' tb tv T k t := ⟨Blk.below h.tp b h.tp.lt, h.kl, h.go⟩
theorem ChT.next {M : Mac} {c : ChP M} {t0 : c.τ} {k0 : Nat} {w w' : World} {tb : Nat} {tv : Value} {T : List AnsV} {k : Nat} {t t1 : c.τ} {m : M.σ} (h : ChT c t0 k0 w tb tv T k t) (hm : c.mo t = (some m, t1)) (ht : TpAt M w' tb tv T (Mac.eat M m (ans T k))) :
  (M.live (Mac.eat M m (ans T k)).1 = true ∧ c.Eat (c.mo t0) (ans T k0) ((some (Mac.eat M m (ans T k)).1, t1), []) ∧ TpAt c.mac w' tb tv T ((some (Mac.eat M m (ans T k)).1, t1), [])) ∨
  (M.live (Mac.eat M m (ans T k)).1 = false ∧ ∃ k', ChT c t0 k0 w' tb tv T k' (c.en (Mac.eat M m (ans T k)).1 t1)) := by
 obtain ⟨m', L', he⟩ : ∃ m' L', Mac.eat M m (ans T k) = (m', L') := ⟨_, _, rfl⟩
 obtain ⟨⟨k', hk', hL⟩, hlv⟩ := eat_left _ k m m' L' h.kl rfl he
 rw [he] at ht ⊢
 by_cases hl : M.live m' = true
 ·obtain rfl := hlv hl
  refine .inl ⟨hl, h.go _ ?_, ht.wait hl⟩
  rw [hm]
  exact ChP.Eat.of _ _ _ _ he (.wait _ _ hl)
 ·have hl' : M.live m' = false := by simpa using hl
  subst hL
  exact .inr ⟨hl', k', TpAt.dead hk' ht hl', hk', fun E hE => h.go E (by rw [hm]; exact ChP.Eat.of _ _ _ _ he (.dead _ _ _ _ hl' hE))⟩
theorem ChT.last {M : Mac} {c : ChP M} {t0 : c.τ} {k0 : Nat} {w : World} {tb : Nat} {tv : Value} {T : List AnsV} {k : Nat} {t t1 : c.τ} (h : ChT c t0 k0 w tb tv T k t) (hm : c.mo t = (none, t1)) : c.Eat (c.mo t0) (ans T k0) ((none, t1), ans T k) ∧ TpAt c.mac w tb tv T ((none, t1), ans T k) :=
 ⟨h.go _ (by rw [hm]; exact .none _ _), TpAt.none h.kl h.tp⟩
set_option maxHeartbeats 4000000 in
theorem refMend_any {tb k0 : Nat} {tv : Value} {T : List AnsV} {b s tm : Int} {w : World} (h : Tp w tb tv k0 accZ false) (hT : TOk w tb tv T) (hk : k0 ≤ T.length) (hu : ∀ i, i < T.length → inU (gA T i).v) (hb0 : -9223372036854775808 ≤ b) (hb1 : b ≤ 9223372036854775807) (hs0 : -9223372036854775808 ≤ s) (hs1 : s ≤ 9223372036854775807) :
  Calls Tryz.prog 46 #[.pointer (some ⟨tb, 0, none⟩), .agg #[.int .i64 b, .int .i64 s], .int .i64 tm] w fun e w' => Keep (· = tb) w w' ∧ ∃ cur t L, menC.Eat (menC.mo (⟨b, s, min tm 64, 0⟩ : MenT)) (ans T k0) ((cur, t), L) ∧ e = .returned (.int .i64 (MenT.sum t)) ∧ TpAt menC.mac w' tb tv T ((cur, t), L) := by
 have HF : Hid (ChT menC (⟨b, s, min tm 64, 0⟩ : MenT) k0 w tb tv T k0 (⟨b, s, min tm 64, 0⟩ : MenT)) := Lib.hid ⟨h, hk, fun E hE => hE⟩
 obtain ⟨C, hC⟩ : ∃ C, C = min tm 64 := ⟨_, rfl⟩
 rw [← hC] at HF ⊢
 have HCC := Lib.hid hC
 have HT := Lib.hid hT
 have HU := Lib.hid hu
 have hlt := h.lt
 have hC6 : C ≤ 64 := by omega
 clear h hT hu hk hC
 go_enter Tryz.func46, Tryz.ntmps46
 go_wp2_with fail
 obtain ⟨w1, hw1⟩ : ∃ w1, w1 = w.alloc (Obj.cells #[.int .i64 b, .int .i64 s] 26) := ⟨_, rfl⟩
 have b1 : Below w.heap.size w w1 := by rw [hw1]; go_grown
 have R1 := Lib.hid (show Blk w1 w.heap.size [.int .i64 b, .int .i64 s] by rw [hw1]; exact Blk.made _ _ _)
 have F1 := Lib.hid (HF.out.below b1)
 have T1 := Lib.hid (HT.out.below b1)
 have B1 := Lib.hid b1
 have z1 := R1.out.lt
 rw [← hw1]
 clear hw1 b1 HF HT
 go_loopg [7, 8] ((C.toNat) + 1) (fun gk sv iv wr => ∃ (i : Nat) (S : Int) (k : Nat), gk + i = C.toNat + 1 ∧ i ≤ C.toNat ∧ sv = .int .i64 S ∧ iv = .int .i64 i ∧ IntKind.i64.wrap S = S ∧ ChT menC (⟨b, s, C, 0⟩ : MenT) k0 wr tb tv T k (⟨b, s, C - i, S⟩ : MenT) ∧ Keep (· = tb) w1 wr)
 case atStart => exact ⟨0, 0, k0, by omega, by omega, rfl, rfl, by decide, by simpa using F1.out, Keep.refl _ _⟩
 case round =>
  obtain ⟨i, S, k, hgk, hi, rfl, rfl, hS, hF, hK⟩ := hrel
  have R2 := Lib.hid (R1.out.keep hK (by omega))
  have T2 := Lib.hid (T1.out.keep hK)
  have HF := Lib.hid hF
  have HK := Lib.hid ((Below.keeps (M := (· = tb)) B1.out).trans hK)
  have HK1 := Lib.hid hK
  have HGK := Lib.hid hgk
  have r0 := R2.out.cell 0
  have r1 := R2.out.cell 1
  have lr := R2.out.lt
  simp only [List.getElem?_cons_zero, List.getElem?_cons_succ] at r0 r1
  have W1 : IntKind.i64.wrap ((i : Int) + 1) = (i : Int) + 1 := IntWalk.i64_in _ ⟨by omega, by omega⟩
  clear hF hK hgk
  go_upto_region 3 with fail
  go_cut [14] (fun cv wx => cv = .bool (decide ((i : Int) < C)) ∧ wx = wr)
  case first =>
   rcases Int.lt_trichotomy tm 64 with h0 | h0 | h0
   ·obtain rfl : C = tm := by have := HCC.out; omega
    have h1 : ¬ (64 : Int) < C := by omega
    have h2 : C ≤ 64 := by omega
    go_wp2_with fail
    all_goals (go_meet; exact ⟨rfl, rfl⟩)
   ·subst h0
    obtain rfl : C = 64 := by have := HCC.out; omega
    go_wp2_with fail
    all_goals (go_meet; exact ⟨rfl, rfl⟩)
   ·obtain rfl : C = 64 := by have := HCC.out; omega
    have h1 : ¬ tm < (64 : Int) := by omega
    have h2 : ¬ tm ≤ 64 := by omega
    go_wp2_with fail
    all_goals (go_meet; exact ⟨rfl, rfl⟩)
  case rest =>
   obtain ⟨rfl, rfl⟩ := hcut
   by_cases hiC : (i : Int) < C
   ·have hd : decide ((i : Int) < C) = true := decide_eq_true hiC
    have HFX := Lib.hid (refFix_any HF.out.tp T2.out HF.out.kl HU.out hb0 hb1 hs0 hs1)
    have hmo : menC.mo (⟨b, s, C - i, S⟩ : MenT) = (some (FixC.init ⟨b, s⟩), (⟨b, s, C - i - 1, S⟩ : MenT)) := if_neg (show ¬ (C - (i : Int) < 1) by omega)
    have HMO := Lib.hid hmo
    clear hmo
    rw [hd]
    go_wp2_with fail
    refine HFX.out.mono ?_
    rintro e w3 ⟨k3, rfl, hat⟩
    have hbz := eat_keeps (M := fixMac) FixM.bz (fun m x hl h => FixM.bz_step hl h) (ans T k) _ (FixC.bz_init ⟨b, s⟩)
    have hnx := HF.out.next HMO.out hat
    obtain ⟨m', hm'⟩ : ∃ m' : FixM, m' = (Mac.eat fixMac (FixC.init ⟨b, s⟩) (ans T k)).1 := ⟨_, rfl⟩
    rw [← hm'] at hbz hnx ⊢
    have KE := Lib.hid (HK.out.trans k3)
    have KP := Lib.hid (HK1.out.trans k3)
    have HNX := Lib.hid hnx
    have HBZ := Lib.hid hbz
    obtain ⟨n, hn⟩ : ∃ n, n = m'.n := ⟨_, rfl⟩
    obtain ⟨er, her⟩ : ∃ er, er = m'.e := ⟨_, rfl⟩
    obtain ⟨S', hS'⟩ : ∃ S', S' = IntKind.i64.wrap (S + n) := ⟨_, rfl⟩
    have WS := hS'.symm
    have HN := Lib.hid hn
    have HER := Lib.hid her
    have HSS := Lib.hid hS'
    rw [← hn, ← her]
    clear hat hm' hbz hnx hn her hS' k3 HFX r0 r1 HF
    rcases HNX.out with ⟨hl, hE, hat⟩ | ⟨hl, k', hc⟩
    ·have he : er = 10 := by
      rw [HER.out]
      rcases HBZ.out with h | h
      ·exact h.2.1
      ·exact absurd h.1 (by rw [show m'.live = true from hl]; decide)
     have hn0 : n = 0 := by
      rw [HN.out]
      rcases HBZ.out with h | h
      ·exact h.2.2
      ·exact absurd h.1 (by rw [show m'.live = true from hl]; decide)
     have hSS : S' = S := by rw [HSS.out, hn0, Int.add_zero]; exact hS
     have HE := Lib.hid (And.intro hE hat)
     subst he
     clear hE hat
     go_wp2
     go_ret
     exact ⟨KE.out, _, _, _, HE.out.1, by first | rfl | rw [hSS], HE.out.2⟩
    ·have he : ¬ er = 10 := by
      rw [HER.out]
      rcases HBZ.out with h | h
      ·exact absurd h.1 (by rw [show m'.live = false from hl]; decide)
      ·exact h.2
     have HCT := Lib.hid hc
     clear hc
     go_wp2_with fail
     go_roundg (C.toNat - i)
     case measure => have := HGK.out; omega
     case rel =>
      refine ⟨i + 1, S', k', by omega, by omega, rfl, by go_num, by rw [HSS.out]; exact wrap_wrap _, ?_, KP.out⟩
      have h9 := HCT.out
      have e9 : menC.en m' (⟨b, s, C - i - 1, S⟩ : MenT) = (⟨b, s, C - ((i + 1 : Nat) : Int), S'⟩ : MenT) := by
       show (⟨b, s, C - i - 1, IntKind.i64.wrap (S + m'.n)⟩ : MenT) = _
       rw [← HN.out, ← HSS.out]
       congr 1
       omega
      rw [e9] at h9
      exact h9
   ·have hd : decide ((i : Int) < C) = false := decide_eq_false hiC
    have hmo : menC.mo (⟨b, s, C - i, S⟩ : MenT) = (none, (⟨b, s, C - i, S⟩ : MenT)) := if_pos (show (C - (i : Int) < 1) by omega)
    have HL := Lib.hid (HF.out.last hmo)
    rw [hd]
    clear hmo r0 r1
    go_wp2
    go_ret
    exact ⟨HK.out, _, _, _, HL.out.1, rfl, HL.out.2⟩
structure MsL (B : Nat) (w : World) (out : List (Int × List Int)) (ov : Value) : Prop where
 ms : ∃ O R, MsIn w O R ov out ∧ (∀ i, O i ∨ R i → B ≤ i ∧ i < w.heap.size) ∧ ∀ i, O i → ¬ R i
theorem MsL.keep {B : Nat} {w w' : World} {K : Nat → Prop} {out : List (Int × List Int)} {ov : Value} (h : MsL B w out ov) (k : Keep K w w') (hd : ∀ i, B ≤ i → ¬ K i) : MsL B w' out ov := by
 obtain ⟨⟨O, R, h1, h2, h3⟩⟩ := h
 exact ⟨⟨O, R, h1.keep k (fun i hi => hd i (h2 i (.inl hi)).1) (fun i hi => hd i (h2 i (.inr hi)).1), fun i hi => ⟨(h2 i hi).1, Nat.lt_of_lt_of_le (h2 i hi).2 k.size⟩, h3⟩⟩
theorem TpAtO.keep {M : Mac} {B : Nat} {w w' : World} {K : Nat → Prop} {tb : Nat} {tv : Value} {T : List AnsV} {E : M.σ × List AN} (h : TpAtO M B w tb tv T E) (k : Keep K w w') (ht : ¬ K tb) (hd : ∀ i, B ≤ i → ¬ K i) : TpAt M w' tb tv T E :=
 h.imp (fun ⟨h1, h2, s0, sl, sc, h3, h4, h5⟩ => ⟨h1, h2, s0, sl, sc, Blk.keep h3 k ht, h4.keepP k (fun i hi => hd i (h5 i hi))⟩) (fun ⟨h1, h2⟩ => ⟨h1, Blk.keep h2 k ht⟩)
theorem eat_keepsT {M : Mac} {T : List AnsV} (Q : M.σ → Prop) (hs : ∀ i m, i < T.length → M.live m = true → Q m → Q (M.step m (gA T i).an)) : ∀ (j k : Nat) (m : M.σ), T.length - k = j → Q m → Q (Mac.eat M m (ans T k)).1 := by
 intro j
 induction j with
 | zero =>
  intro k m hj hf
  rw [eat_end (by omega)]
  exact hf
 | succ j ih =>
  intro k m hj hf
  by_cases hl : M.live m = true
  ·rw [eat_told hl (by omega)]
   exact ih (k + 1) _ (by omega) (hs k m (by omega) hl hf)
  ·rw [eat_done (by simpa using hl)]
   exact hf
theorem get_small {T : List AnsV} (hu : ∀ i, i < T.length → inU (gA T i).v) (hlens : ∀ i, i < T.length → (gA T i).b.length ≤ 1000) (k : Nat) (m : GetM) (h : m.fine) : GetM.fine (Mac.eat getMac m (ans T k)).1 :=
 eat_keepsT (M := getMac) GetM.fine (fun i m hi hl hf => GetM.fine.step hf hl (hu i hi) (hlens i hi)) _ k m rfl h
theorem get_fine_init (c : GetC) : c.init.fine := by
 by_cases h : c.ok = true
 ·have : c.init = ⟨c, .hd0, 0, 0, 0, [], false, 10⟩ := by unfold GetC.init; rw [if_pos h, if_pos h]
  rw [this]
  exact ⟨fun _ => h, ⟨rfl, rfl⟩, by show (0 : Nat) ≤ 1024; decide, fun x hx => (List.not_mem_nil hx).elim⟩
 ·have : c.init = ⟨c, .done, 0, 0, 0, [], false, 1⟩ := by unfold GetC.init; rw [if_neg h, if_neg h]
  rw [this]
  exact ⟨nofun, trivial, by show (0 : Nat) ≤ 1024; decide, fun x hx => (List.not_mem_nil hx).elim⟩
set_option maxHeartbeats 4000000 in
theorem refDrain_any {tb k0 : Nat} {tv : Value} {T : List AnsV} {b s tm mo : Int} {w : World} (h : Tp w tb tv k0 accZ false) (hT : TOk w tb tv T) (hk : k0 ≤ T.length) (hu : ∀ i, i < T.length → inU (gA T i).v) (hlens : ∀ i, i < T.length → (gA T i).b.length ≤ 1000) (hb0 : -9223372036854775808 ≤ b) (hb1 : b ≤ 9223372036854775807) (hs0 : -9223372036854775808 ≤ s) (hs1 : s ≤ 9223372036854775807) (hm1 : mo ≤ 9223372036854775807) :
  Calls Tryz.prog 45 #[.pointer (some ⟨tb, 0, none⟩), .agg #[.int .i64 b, .int .i64 s], .int .i64 tm, .int .i64 mo] w fun e w' => Keep (· = tb) w w' ∧ ∃ cur t L ov, draC.Eat (draC.mo (⟨b, s, min tm 64, mo, []⟩ : DraT)) (ans T k0) ((cur, t), L) ∧ e = .returned ov ∧ MsL w.heap.size w' (DraT.out t ++ draRest cur) ov ∧ (DraT.out t ++ draRest cur).length ≤ 65536 ∧ TpAt draC.mac w' tb tv T ((cur, t), L) := by
 have HF : Hid (ChT draC (⟨b, s, min tm 64, mo, []⟩ : DraT) k0 w tb tv T k0 (⟨b, s, min tm 64, mo, []⟩ : DraT)) := Lib.hid ⟨h, hk, fun E hE => hE⟩
 obtain ⟨C, hC⟩ : ∃ C, C = min tm 64 := ⟨_, rfl⟩
 rw [← hC] at HF ⊢
 have HCC := Lib.hid hC
 have HT := Lib.hid hT
 have HU := Lib.hid hu
 have HLS := Lib.hid hlens
 have hlt := h.lt
 have hC6 : C ≤ 64 := by omega
 clear h hT hu hk hC hlens
 go_enter Tryz.func45, Tryz.ntmps45
 go_wp2_with fail
 obtain ⟨w1, hw1⟩ : ∃ w1, w1 = w.alloc (Obj.cells #[.int .i64 b, .int .i64 s] 26) := ⟨_, rfl⟩
 have b1 : Below w.heap.size w w1 := by rw [hw1]; go_grown
 have R1 := Lib.hid (show Blk w1 w.heap.size [.int .i64 b, .int .i64 s] by rw [hw1]; exact Blk.made _ _ _)
 have F1 := Lib.hid (HF.out.below b1)
 have T1 := Lib.hid (HT.out.below b1)
 have B1 := Lib.hid b1
 have z1 := R1.out.lt
 have z11 : w1.heap.size = w.heap.size + 1 := by rw [hw1]; simp
 rw [← hw1]
 clear hw1 b1 HF HT
 go_loopg [9, 10] ((C.toNat) + 1) (fun gk ov iv wr => ∃ (i : Nat) (out : List (Int × List Int)) (k : Nat), gk + i = C.toNat + 1 ∧ i ≤ C.toNat ∧ MsL (w.heap.size + 1) wr out ov ∧ iv = .int .i64 i ∧ out.length ≤ 1024 * i ∧ ChT draC (⟨b, s, C, mo, []⟩ : DraT) k0 wr tb tv T k (⟨b, s, C - i, mo, out⟩ : DraT) ∧ Keep (· = tb) w1 wr)
 case atStart => exact ⟨0, [], k0, by omega, by omega, ⟨⟨fun _ => False, fun _ => False, MsIn.none2 _ _ _, fun i h => h.elim False.elim False.elim, fun i h => h.elim⟩⟩, rfl, by simp, by simpa using F1.out, Keep.refl _ _⟩
 case round =>
  obtain ⟨i, out, k, hgk, hi, hms, rfl, hol, hF, hK⟩ := hrel
  have zr := hK.size
  have R2 := Lib.hid (R1.out.keep hK (by omega))
  have T2 := Lib.hid (T1.out.keep hK)
  have HF := Lib.hid hF
  have HK := Lib.hid ((Below.keeps (M := (· = tb)) B1.out).trans hK)
  have HK1 := Lib.hid hK
  have HGK := Lib.hid hgk
  have HOL := Lib.hid hol
  have r0 := R2.out.cell 0
  have r1 := R2.out.cell 1
  have lr := R2.out.lt
  simp only [List.getElem?_cons_zero, List.getElem?_cons_succ] at r0 r1
  have W1 : IntKind.i64.wrap ((i : Int) + 1) = (i : Int) + 1 := IntWalk.i64_in _ ⟨by omega, by omega⟩
  obtain ⟨va, vn, vc, rfl⟩ : ∃ a n c, u9 = .slice a n c := by
   obtain ⟨⟨O, R, h1, _⟩⟩ := hms
   obtain ⟨a, c, e⟩ := h1.sl
   exact ⟨_, _, _, e⟩
  have HMS := Lib.hid hms
  clear hF hK hgk hms hol
  go_upto_region 3 with fail
  go_cut [17] (fun cv wx => cv = .bool (decide ((i : Int) < C)) ∧ wx = wr)
  case first =>
   rcases Int.lt_trichotomy tm 64 with h0 | h0 | h0
   ·obtain rfl : C = tm := by have := HCC.out; omega
    have h1 : ¬ (64 : Int) < C := by omega
    have h2 : C ≤ 64 := by omega
    go_wp2_with fail
    all_goals (go_meet; exact ⟨rfl, rfl⟩)
   ·subst h0
    obtain rfl : C = 64 := by have := HCC.out; omega
    go_wp2_with fail
    all_goals (go_meet; exact ⟨rfl, rfl⟩)
   ·obtain rfl : C = 64 := by have := HCC.out; omega
    have h1 : ¬ tm < (64 : Int) := by omega
    have h2 : ¬ tm ≤ 64 := by omega
    go_wp2_with fail
    all_goals (go_meet; exact ⟨rfl, rfl⟩)
  case rest =>
   obtain ⟨rfl, rfl⟩ := hcut
   by_cases hiC : (i : Int) < C
   ·have hd : decide ((i : Int) < C) = true := decide_eq_true hiC
    have HFX := Lib.hid (refGet_any tb k tv T b s mo _ HF.out.tp T2.out HF.out.kl HU.out HLS.out hb0 hb1 hs0 hs1 hm1)
    have hmo : draC.mo (⟨b, s, C - i, mo, out⟩ : DraT) = (some (GetC.init ⟨b, s, mo⟩), (⟨b, s, C - i - 1, mo, out⟩ : DraT)) := if_neg (show ¬ (C - (i : Int) < 1) by omega)
    have HMO := Lib.hid hmo
    clear hmo
    rw [hd]
    go_wp2_with fail
    refine HFX.out.mono ?_
    rintro e w3 ⟨k3, ov2, rfl, hms2, hat⟩
    have hbz := eat_keeps (M := getMac) GetM.bz (fun m x hl h => GetM.bz_step hl h) (ans T k) _ (GetC.bz_init ⟨b, s, mo⟩)
    have hfn := get_small HU.out HLS.out k _ (get_fine_init ⟨b, s, mo⟩)
    have HATO := Lib.hid hat
    obtain ⟨m', hm'⟩ : ∃ m' : GetM, m' = (Mac.eat getMac (GetC.init ⟨b, s, mo⟩) (ans T k)).1 := ⟨_, rfl⟩
    have hms3 : MsIn w3 (fun i => wc.heap.size ≤ i ∧ i < w3.heap.size) (fun i => wc.heap.size ≤ i) ov2 m'.out := by rw [hm']; exact hms2
    rw [← hm'] at hbz hfn
    have HM' := Lib.hid hm'
    rw [show ((GetC.init ⟨b, s, mo⟩).eat (ans T k)).1 = m' from hm'.symm]
    have z3 := k3.size
    have KE := Lib.hid (HK.out.trans k3)
    have KP := Lib.hid (HK1.out.trans k3)
    have HBZ := Lib.hid hbz
    have HFN := Lib.hid hfn
    obtain ⟨ga, gc, rfl⟩ := hms3.sl
    obtain ⟨n2, hn2⟩ : ∃ n2, n2 = m'.out.length := ⟨_, rfl⟩
    have HN2 := Lib.hid hn2
    obtain ⟨q1, hq1⟩ : ∃ q1, q1 = m'.res.1 := ⟨_, rfl⟩
    obtain ⟨er, her⟩ : ∃ er, er = m'.res.2 := ⟨_, rfl⟩
    have hre : er = m'.e := by
     rw [her]
     unfold GetM.res
     split
     ·rfl
     ·rename_i h
      have : m'.e = 0 := by simpa using h
      exact this.symm
    have HER := Lib.hid hre
    rw [← hq1, ← her]
    have HMS3 := Lib.hid hms3
    obtain ⟨⟨O, R, hmo, hor, hdj⟩⟩ := HMS.out
    have hvn : vn = out.length := by
     obtain ⟨a, c, e⟩ := hmo.sl
     cases e
     rfl
    subst hvn
    have HMO2 := Lib.hid (hmo.keep k3 (fun i hi => by have := hor i (.inl hi); show ¬ i = tb; omega) (fun i hi => by have := hor i (.inr hi); show ¬ i = tb; omega))
    have HOR := Lib.hid hor
    have HDJ := Lib.hid hdj
    clear hmo hor hdj
    clear hat hm' hbz hfn hms2 hms3 k3 HFX r0 r1 hq1 her hre hn2
    go_wp2_with (refine list_appMs2 rfl (.tmp 28) (.tmp 29) rfl (O := O) (R := R) (O2 := fun i => wc.heap.size ≤ i ∧ i < w3.heap.size) (R2 := fun i => wc.heap.size ≤ i) (v := .slice va out.length vc) (v2 := .slice ga m'.out.length gc) (l := out) (l2 := m'.out) rfl rfl HMO2.out HMS3.out (by have := HFN.out.lo; have := HOL.out; omega) (fun i hi hr => hi.elim (fun h => HDJ.out i h hr) (fun h => by have := HOR.out i (.inr hr); omega)) ?_)
    intro v4 w4 ms4 k4
    obtain ⟨xa, xn, xc, rfl⟩ : ∃ a n c, v4 = .slice a n c := by
     obtain ⟨a, c, e⟩ := ms4.sl
     exact ⟨_, _, _, e⟩
    have z4 := k4.size
    have nRtb : ¬ R tb := fun h => by have := HOR.out tb (.inr h); omega
    have HM4 : Hid (MsL (w.heap.size + 1) w4 (out ++ m'.out) (.slice xa xn xc)) := Lib.hid ⟨⟨_, _, ms4, by
     rintro j ((h | h) | (h | h))
     ·have := HOR.out j (.inl h); omega
     ·omega
     ·have := HOR.out j (.inr h); omega
     ·omega, by
     rintro j (h | h) (g | g)
     ·exact HDJ.out j h g
     ·have := HOR.out j (.inl h); omega
     ·have := HOR.out j (.inr g); omega
     ·omega⟩⟩
    have hlen4 : (out ++ m'.out).length ≤ 1024 * (i + 1) := by
     rw [List.length_append]
     have := HFN.out.lo
     have := HOL.out
     omega
    have HLEN := Lib.hid hlen4
    have K4 : Hid (Keep (· = tb) w1 w4) := Lib.hid (KP.out.then k4 (fun j hj h => by have := HOR.out j (.inr h); omega))
    have KE4 : Hid (Keep (· = tb) w w4) := Lib.hid (KE.out.then k4 (fun j hj h => by have := HOR.out j (.inr h); omega))
    have lq : tb < w3.heap.size := by omega
    have hat4 := HATO.out.keep k4 nRtb (fun j hj hr => by have := HOR.out j (.inr hr); omega)
    have hnx := HF.out.next HMO.out hat4
    have hnx2 : (GetM.live m' = true ∧ draC.Eat (draC.mo (⟨b, s, C, mo, []⟩ : DraT)) (ans T k0) ((some m', (⟨b, s, C - i - 1, mo, out⟩ : DraT)), []) ∧ TpAt draC.mac w4 tb tv T ((some m', (⟨b, s, C - i - 1, mo, out⟩ : DraT)), [])) ∨ (GetM.live m' = false ∧ ∃ k', ChT draC (⟨b, s, C, mo, []⟩ : DraT) k0 w4 tb tv T k' (draC.en m' (⟨b, s, C - i - 1, mo, out⟩ : DraT))) := by
     rw [HM'.out]
     exact hnx
    have HNX := Lib.hid hnx2
    clear ms4 k4 hlen4 nRtb hat4 hnx hnx2
    rcases HNX.out with ⟨hl, hE, hat⟩ | ⟨hl, k', hc⟩
    ·have he : er = 10 := by
      rw [HER.out]
      rcases HBZ.out with h | h
      ·exact h.2
      ·exact absurd h.1 (by rw [hl]; decide)
     have HE := Lib.hid (And.intro hE hat)
     subst he
     clear hE hat
     go_wp2
     go_ret
     refine ⟨KE4.out, _, _, _, _, HE.out.1, rfl, ?_, ?_, HE.out.2⟩
     ·obtain ⟨⟨O9, R9, h1, h2, h3⟩⟩ := HM4.out
      exact ⟨⟨O9, R9, h1, fun i hi => ⟨by have := h2 i hi; omega, (h2 i hi).2⟩, h3⟩⟩
     ·have := HLEN.out
      show (out ++ m'.out).length ≤ 65536
      omega
    ·have he : ¬ er = 10 := by
      rw [HER.out]
      rcases HBZ.out with h | h
      ·exact absurd h.1 (by rw [hl]; decide)
      ·exact h.2
     have HCT := Lib.hid hc
     clear hc
     go_wp2_with fail
     go_roundg (C.toNat - i)
     case measure => have := HGK.out; omega
     case rel =>
      refine ⟨i + 1, out ++ m'.out, k', by omega, by omega, HM4.out, by go_num, HLEN.out, ?_, K4.out⟩
      have h9 := HCT.out
      have e9 : draC.en m' (⟨b, s, C - i - 1, mo, out⟩ : DraT) = (⟨b, s, C - ((i + 1 : Nat) : Int), mo, out ++ m'.out⟩ : DraT) := by
       show (⟨b, s, C - i - 1, mo, out ++ m'.out⟩ : DraT) = _
       congr 1
       omega
      rw [e9] at h9
      exact h9
   ·have hd : decide ((i : Int) < C) = false := decide_eq_false hiC
    have hmo : draC.mo (⟨b, s, C - i, mo, out⟩ : DraT) = (none, (⟨b, s, C - i, mo, out⟩ : DraT)) := if_pos (show (C - (i : Int) < 1) by omega)
    have HL := Lib.hid (HF.out.last hmo)
    rw [hd]
    clear hmo r0 r1
    go_wp2
    go_ret
    refine ⟨HK.out, _, _, _, HL.out.1, _, rfl, ?_, ?_, HL.out.2⟩
    ·show MsL _ _ (out ++ []) _
     rw [List.append_nil]
     obtain ⟨⟨O, R, h1, h2, h3⟩⟩ := HMS.out
     exact ⟨⟨O, R, h1, fun i hi => ⟨by have := h2 i hi; omega, (h2 i hi).2⟩, h3⟩⟩
    ·have := HOL.out
     show out.length + 0 ≤ 65536
     omega
end Go.Proofs.YtknahaaefmlcpaaGreat
end
