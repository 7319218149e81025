/- Worlds whose machines were made one by one, and a buffer that turns beside them. Conditions: as each says. -/
import Derived.Test.YtggjhleomocojaaGreatQb
import Derived.Test.YtggjhleomocojaaGreatYq
import Derived.Test.YtggjhleomocojaaGreatDv
namespace Go.Proofs.YtggjhleomocojaaGreat
set_option maxRecDepth 100000
open Go.RowKit
set_option linter.unusedVariables false
set_option linter.unusedSimpArgs false
structure MdAt (C : Fam) (w0 wr : World) (κ : Nat → Kd) (qs : Nat → Nat) (ss : List C.M.σ) : Prop where
 mac : ∀ i s, ss[i]? = some s → C.inv wr (fun b => κ b = .ma i) (qs i) s
 kd : ∀ b, κ b = .no ∨ ((∃ i, κ b = .ma i ∧ i < ss.length) ∧ w0.heap.size ≤ b ∧ b < wr.heap.size)
 bel : Below w0.heap.size w0 wr
variable {C : Fam} {w0 wr w' : World} {κ : Nat → Kd} {qs : Nat → Nat}
theorem MdAt.keep {ss : List C.M.σ} {K : Nat → Prop} (h : MdAt C w0 wr κ qs ss) (k : Keep K wr w') (hK : ∀ i, K i → κ i = .no ∧ w0.heap.size ≤ i) : MdAt C w0 w' κ qs ss := by
 refine ⟨fun i s hs => C.keep (h.mac i s hs) k (fun j hj hk => by rw [(hK j hk).1] at hj; cases hj), fun b => ?_, h.bel.trans (k.below h.bel.size (fun i hi hk => by have := (hK i hk).2; omega))⟩
 rcases h.kd b with e | ⟨h1, h2, h3⟩
 ·exact .inl e
 ·exact .inr ⟨h1, h2, Nat.lt_of_lt_of_le h3 k.size⟩
theorem MdAt.below {ss : List C.M.σ} (h : MdAt C w0 wr κ qs ss) (b : Below wr.heap.size wr w') : MdAt C w0 w' κ qs ss := h.keep (K := fun _ => False) (Below.keeps b) (fun _ h => h.elim)
theorem MdAt.no {w0 wr : World} {ss : List C.M.σ} (h : MdAt C w0 wr κ qs ss) {b : Nat} (hb : wr.heap.size ≤ b ∨ b < w0.heap.size) : κ b = .no := by
 rcases h.kd b with e | ⟨_, h2, h3⟩
 ·exact e
 ·omega
theorem MdAt.next {ss : List C.M.σ} (h : MdAt C w0 wr κ qs ss) (b : Below wr.heap.size wr w') {q : Nat} {s : C.M.σ} (hi : C.inv w' (fun i => wr.heap.size ≤ i ∧ i < w'.heap.size) q s) : MdAt C w0 w' (kdM κ ss.length wr.heap.size w'.heap.size) (fun i => if i = ss.length then q else qs i) (ss ++ [s]) := by
 have hs := b.size
 have hs0 := h.bel.size
 have old : ∀ j, κ j ≠ .no → kdM κ ss.length wr.heap.size w'.heap.size j = κ j := fun j hj => by
  rcases h.kd j with e | ⟨_, _, h3⟩
  ·exact absurd e hj
  ·exact kdM_old h3
 refine ⟨fun i s1 hs1 => ?_, fun j => ?_, h.bel.trans (b.mono h.bel.size)⟩
 ·by_cases hlt : i < ss.length
  ·rw [List.getElem?_append_left hlt] at hs1
   have e1 : (if i = ss.length then q else qs i) = qs i := if_neg (by omega)
   show C.inv w' _ (if i = ss.length then q else qs i) s1
   rw [e1]
   have h1 := C.keep (h.mac i s1 hs1) (Below.keeps (M := fun _ => False) b) (fun _ _ => id)
   refine C.mono h1 (fun j hj => by rw [old j (by rw [hj]; nofun)]; exact hj) (fun j hj => ?_)
   unfold kdM at hj
   split at hj
   ·omega
   ·rcases h.kd j with e | ⟨_, _, h3⟩
    ·rw [e] at hj
     cases hj
    ·omega
  ·have : i = ss.length := by
    have := (List.getElem?_eq_some_iff.1 hs1).1
    simp at this
    omega
   subst this
   rw [List.getElem?_append_right (Nat.le_refl _), Nat.sub_self] at hs1
   cases hs1
   have e1 : (if ss.length = ss.length then q else qs ss.length) = q := if_pos rfl
   show C.inv w' _ (if ss.length = ss.length then q else qs ss.length) s
   rw [e1]
   refine C.mono hi (fun j hj => by unfold kdM; rw [if_pos hj]) (fun j hj => ?_)
   unfold kdM at hj
   split at hj
   ·omega
   ·rcases h.kd j with e | ⟨⟨i', e, hi'⟩, _⟩
    ·rw [e] at hj
     cases hj
    ·rw [e] at hj
     cases hj
     omega
 ·unfold kdM
  split
  ·exact .inr ⟨⟨ss.length, rfl, by simp⟩, by omega, by omega⟩
  ·rcases h.kd j with e | ⟨⟨i, e, hi⟩, h2, h3⟩
   ·exact .inl e
   ·exact .inr ⟨⟨i, e, by simp; omega⟩, h2, by omega⟩
theorem wNew_empty (C : Fam) (w : World) (κ : Nat → Kd) (p c : Nat) (cnt : Int) (bs : List Int) (a : Option Addr) (cap : Nat) (hBuf : Buf w p c cnt bs) (kp : κ p = .bu) (kc : κ c = .bu) (hall : ∀ k, κ k ≠ .no → k < w.heap.size) :
  Calls Tryz.prog 11 #[.pointer (some ⟨p, 0, none⟩), .slice a 0 cap] w fun e w' => ∃ W κ' av ab, e = .returned (.pointer (some ⟨W, 0, none⟩)) ∧ WoIn C w' κ' W p c av nilSl ab ⟨bs, cnt, [], 0, []⟩ ∧ (∀ i, i < w.heap.size → κ' i = κ i) ∧ w.heap.size ≤ W ∧ Below w.heap.size w w' := by
 have HBuf := Lib.hid hBuf
 have HA := Lib.hid hall
 have KP := Lib.hid kp
 have KC := Lib.hid kc
 clear hBuf hall kp kc
 go_enter Tryz.func11, Tryz.ntmps11
 go_wp2_with fail
 refine wp_loop_rounds 1 ?_
 rw [rounds_succ]
 go_wp2
 go_ret
 have hb : Below w.heap.size w (w.alloc (.cells #[.pointer (some ⟨p, 0, none⟩), .slice none 0 0, .int .i64 0, .slice none 0 0] 119)) := (Below.refl _ _).alloc (Nat.le_refl _) _
 have old : ∀ i, i < w.heap.size → (fun i => if i = w.heap.size then Kd.wo else κ i) i = κ i := fun i hi => if_neg (by omega)
 refine ⟨w.heap.size, fun i => if i = w.heap.size then .wo else κ i, .slice none 0 0, fun _ => 0, rfl, ⟨Blk.made w _ _, by simp, HBuf.out.belows hb, ?_, ?_, .inl ⟨rfl, rfl⟩, (fun i a h => by simp at h), ⟨[], rfl, World.ownsRow_nil _ _ _ _, (fun i h => by cases h), ⟨(fun e h => by cases h), (fun e h => by cases h), (fun e h => by cases h), (fun e h => by cases h)⟩⟩, ?_⟩, old, Nat.le_refl _, hb⟩
 ·exact (old p HBuf.out.hd.lt).trans KP.out
 ·exact (old c HBuf.out.wd.lt).trans KC.out
 ·intro k hk
  split at hk
  ·rw [World.size_alloc]
   omega
  ·have := HA.out k hk
   rw [World.size_alloc]
   omega
def kdX (κ : Nat → Kd) (p c : Nat) : Nat → Kd := fun i => if i = p ∨ i = c then .bu else κ i
theorem MdAt.new {w0 wr : World} {ss : List C.M.σ} {ov : Value} {vs : List Value} {p c : Nat} {cnt : Int} {bs : List Int} (h : MdAt C w0 wr κ qs ss) (ho : wr.ownsRow 0 66 1 ov ss.length vs) (hmv : ∀ (i : Nat) (s : C.M.σ), ss[i]? = some s → vs[i]? = some (Value.iface (C.ty s) (.pointer (some ⟨qs i, 0, none⟩)))) (hBuf : Buf wr p c cnt bs) (hp : p < w0.heap.size) (hc : c < w0.heap.size) (hn : ss.length ≤ 1000) :
  Calls Tryz.prog 11 #[.pointer (some ⟨p, 0, none⟩), ov] wr fun e w' => ∃ W κ' av ab, e = .returned (.pointer (some ⟨W, 0, none⟩)) ∧ WoIn C w' κ' W p c av nilSl ab ⟨bs, cnt, ss.map fun s => ⟨some s, false⟩, 0, []⟩ ∧ (∀ i, i < wr.heap.size → κ' i = kdX κ p c i) ∧ wr.heap.size ≤ W ∧ Below wr.heap.size wr w' := by
 have hsz := h.bel.size
 have hall : ∀ k, kdX κ p c k ≠ .no → k < wr.heap.size := by
  intro k hk
  unfold kdX at hk
  split at hk
  ·omega
  ·rcases h.kd k with e | ⟨_, _, e⟩
   ·exact absurd e hk
   ·exact e
 by_cases h0 : ss.length = 0
 ·obtain rfl := List.eq_nil_of_length_eq_zero h0
  rcases ho.2 with ⟨rfl, _⟩ | ⟨g, cap, cur, rfl, _⟩
  ·exact wNew_empty C wr (kdX κ p c) p c cnt bs none 0 hBuf (by simp [kdX]) (by simp [kdX]) hall
  ·exact wNew_empty C wr (kdX κ p c) p c cnt bs _ cap hBuf (by simp [kdX]) (by simp [kdX]) hall
 ·rcases ho.2 with ⟨_, e⟩ | ⟨g, cap, cur, rfl, _, _, h1, h2, _⟩
  ·omega
  obtain ⟨mv, hmvd⟩ : ∃ mv : Nat → Value, mv = fun i => vs.getD i undef := ⟨_, rfl⟩
  have hmac : ∀ i, i < ss.length → ∃ s, ss[i]? = some s ∧ mv i = .iface (C.ty s) (.pointer (some ⟨qs i, 0, none⟩)) ∧ C.inv wr (fun b => κ b = .ma i) (qs i) s := fun i hi =>
   ⟨_, List.getElem?_eq_getElem hi, by rw [hmvd]; show vs.getD i undef = _; rw [List.getD, hmv i _ (List.getElem?_eq_getElem hi)]; rfl, h.mac i _ (List.getElem?_eq_getElem hi)⟩
  refine (wNew_any C wr (kdX κ p c) p c cnt bs ss.length mv (ss.map some) g 0 cap (by omega) h1 h2 hBuf (by simp [kdX]) (by simp [kdX]) (by simp) (by omega) ?_ ?_ ?_ hall ?_).mono ?_
  ·intro i hi
   have hv2 : vs[i]? = some (mv i) := by rw [hmvd, hmv i _ (List.getElem?_eq_getElem hi)]; show _ = some (vs.getD i undef); rw [List.getD, hmv i _ (List.getElem?_eq_getElem hi)]; rfl
   have := World.ownsRow.cells ho rfl i (mv i) hv2
   have e : (⟨g, 0, none⟩ : Addr).add i = ⟨g, 0 + i, none⟩ := by unfold Addr.add; split <;> simp_all
   rwa [e] at this
  ·intro i hi
   obtain ⟨s, _, e, _⟩ := hmac i hi
   rw [e]
   rfl
  ·intro i m hm
   rw [List.getElem?_map] at hm
   obtain ⟨s, hs, rfl⟩ := Option.map_eq_some_iff.1 hm
   have hi : i < ss.length := (List.getElem?_eq_some_iff.1 hs).1
   obtain ⟨s', hs', e, hv⟩ := hmac i hi
   rw [hs] at hs'
   obtain rfl := Option.some.inj hs'
   refine ⟨qs i, e, C.mono hv (fun b hb => ?_) (fun b hb => hall b (by rw [hb]; nofun))⟩
   unfold kdX
   rw [if_neg]
   ·exact hb
   ·have hbd : w0.heap.size ≤ b := by
     rcases h.kd b with e | ⟨_, e, _⟩
     ·rw [e] at hb
      cases hb
     ·exact e
    omega
  ·intro k i
   unfold kdX
   split
   ·exact ⟨nofun, nofun, nofun, nofun, nofun⟩
   ·rcases h.kd k with e | ⟨⟨j, e, _⟩, _⟩
    ·rw [e]
     exact ⟨nofun, nofun, nofun, nofun, nofun⟩
    ·rw [e]
     exact ⟨nofun, nofun, nofun, nofun, nofun⟩
  ·rintro e w' ⟨W, κ', av, ab, rfl, hW, hk, hs, hb⟩
   refine ⟨W, κ', av, ab, rfl, ?_, hk, hs, hb⟩
   have e : ((ss.map some).map fun m => (⟨m, false⟩ : Ac C.M.σ)) = ss.map fun s => ⟨some s, false⟩ := by
    rw [List.map_map]
    rfl
   rw [e] at hW
   exact hW
theorem kdX_no {w0 wr : World} {ss : List C.M.σ} {p c : Nat} (h : MdAt C w0 wr κ qs ss) {i : Nat} (hi : i < w0.heap.size) (hp : i ≠ p) (hc : i ≠ c) : kdX κ p c i = .no := by
 unfold kdX
 rw [if_neg (by rintro (e | e); exact hp e; exact hc e)]
 exact h.no (.inr hi)
end Go.Proofs.YtggjhleomocojaaGreat
namespace Go.Proofs.YtggjhleomocojaaGreat
set_option maxRecDepth 100000
open Go.RowKit
set_option linter.unusedVariables false
set_option linter.unusedSimpArgs false
abbrev FqS : Type := Nat × (Option PutM × FilT)
def filQ : Fam := Fam.Q filFam
structure MeW (s : Nat) (ls : List (List (Int × List Int))) (wm wr : World) (κm κ : Nat → Kd) (W p c : Nat) (av tv : Value) (ab : Nat → Nat) (Ks : List Nat) (n : Nat) (P : List PutM) (G : List (Nat × Nat)) (A : List (Slot × Nat)) (L : List FqS) (S : SW filQ.M.σ) : Prop where
 wo : WoIn filQ wr κ W p c av tv ab S
 acts : S.acts = actsQ (σ := FqS) L
 fw : FilW 0 s ls S.bs P G A 0 0 [] (L.map (·.2))
 key : L.map (·.1) = Ks
 kd : ∀ i, i < wm.heap.size → κ i = κm i
 kp : Keep (fun i => κm i ≠ .no) wm wr
 c0 : 0 ≤ S.cnt
 c1 : S.cnt ≤ n
 tr : S.tr.length ≤ n
def flP (x : FqS) : Value := ptr x.1
def flI (x : FqS) : Value := .iface 63 (ptr x.1)
structure FilsTo (w0 wr : World) (ov : Value) (κ : Nat → Kd) (ss : List FqS) : Prop where
 md : ∃ qs, MdAt filQ w0 wr κ qs ss
 ow : wr.ownsRow 0 63 1 ov ss.length (ss.map flP)
 om : ∀ g, ov.ownBlock = some g → w0.heap.size ≤ g ∧ κ g = .no
variable {ov : Value} {κ : Nat → Kd} {ss : List FqS}
theorem FilsTo.below {w0 wr w' : World} (h : FilsTo w0 wr ov κ ss) (b : Below wr.heap.size wr w') : FilsTo w0 w' ov κ ss := by
 obtain ⟨⟨qs, h1⟩, h2, h3⟩ := h
 exact ⟨⟨qs, h1.below b⟩, ownsRow_keep h2 (Below.keeps (M := fun _ => False) b) (fun _ _ => id), h3⟩
theorem FilsTo.bel {w0 wr : World} (h : FilsTo w0 wr ov κ ss) : Below w0.heap.size w0 wr := h.md.elim fun _ h => h.bel
theorem FilsTo.beside {w0 wr w' : World} {K : Nat → Prop} (h : FilsTo w0 wr ov κ ss) (k : Keep K wr w') (hK : ∀ i, K i → κ i = .no ∧ w0.heap.size ≤ i) (ho : ∀ i, K i → ov.ownBlock ≠ some i) : FilsTo w0 w' ov κ ss := by
 obtain ⟨⟨qs, h1⟩, h2, h3⟩ := h
 exact ⟨⟨qs, h1.keep k hK⟩, ownsRow_keep h2 k (fun i hi hk => ho i hk hi), h3⟩
theorem FilsTo.start (w0 w : World) (b : Below w0.heap.size w0 w) : FilsTo w0 w (.slice none 0 0) (fun _ => .no) [] :=
 ⟨⟨fun _ => 0, ⟨fun i s h => absurd (show (none : Option filQ.M.σ) = some s from h) nofun, fun b => .inl rfl, b⟩⟩, World.ownsRow_nil _ _ _ _, (fun g h => by cases h)⟩
theorem FilsTo.next2 {w0 w2 w4 w5 : World} {ov ov' : Value} (h : FilsTo w0 w2 ov κ ss) (b4 : Below w2.heap.size w2 w4) {q : Nat} {F : Nat → Prop} {st : Option PutM × FilT} (hq : filFam.inv w4 F q st) (hF : ∀ i, F i → w2.heap.size ≤ i)
  (K5 : Keep (fun i => ov.ownBlock = some i) w4 w5) (o5 : w5.ownsRow 0 63 1 ov' (ss.length + 1) (ss.map flP ++ [ptr q])) (e5 : ov'.ownBlock = ov.ownBlock ∨ ∃ i, ov'.ownBlock = some i ∧ w4.heap.size ≤ i) :
  ∃ κ', (∀ i, i < w2.heap.size → κ' i = κ i) ∧ (∀ i, w4.heap.size ≤ i → κ' i = .no) ∧ FilsTo w0 w5 ov' κ' (ss ++ [(q, st)]) := by
 obtain ⟨⟨qs, h1⟩, h2, h3⟩ := h
 have hdom := (filFam.dom hq).2
 have h6 := h1.next (s := ((q, st) : filQ.M.σ)) b4 ⟨rfl, filFam.mono hq (fun i hi => ⟨hF i hi, hdom i hi⟩) (fun i hi => hi.2)⟩
 have hz := h1.bel.size
 have hz4 := b4.size
 have hno : ∀ i, ov.ownBlock = some i → kdM κ ss.length w2.heap.size w4.heap.size i = .no ∧ w0.heap.size ≤ i := fun i hi => ⟨(kdM_old (World.ownsRow.lt h2 i hi).2).trans (h3 i hi).2, (h3 i hi).1⟩
 have hbig : ∀ i, w4.heap.size ≤ i → kdM κ ss.length w2.heap.size w4.heap.size i = .no := fun i hi => by
  unfold kdM
  rw [if_neg (by omega)]
  exact h1.no (.inl (by omega))
 refine ⟨kdM κ ss.length w2.heap.size w4.heap.size, fun i hi => kdM_old hi, hbig, ⟨_, h6.keep K5 hno⟩, ?_, ?_⟩
 ·rw [List.length_append, List.map_append]
  exact o5
 ·intro g hg
  rcases e5 with e | ⟨i, e, hi⟩
  ·rw [e] at hg
   exact ⟨(hno g hg).2, (hno g hg).1⟩
  ·rw [e] at hg
   cases hg
   exact ⟨by omega, hbig _ hi⟩
structure FilsIn (w : World) (L : List FqS) (M : Nat → Prop) : Prop where
 at_ : ∀ (i : Nat) (x : FqS), L[i]? = some x → ∃ F, filFam.inv w F x.1 x.2 ∧ ∀ j, F j → ¬ M j
end Go.Proofs.YtggjhleomocojaaGreat
namespace Go.Proofs.YtggjhleomocojaaGreat
set_option maxRecDepth 100000
open Go.RowKit
set_option linter.unusedVariables false
set_option linter.unusedSimpArgs false
def Fam.Sum (C D : Fam) : Fam where
 M := Mac.Sum C.M D.M
 inv := fun w F q s => match s with | .inl x => C.inv w F q x | .inr x => D.inv w F q x
 ty := fun s => match s with | .inl x => C.ty x | .inr x => D.ty x
 fn := fun s => match s with | .inl x => C.fn x | .inr x => D.fn x
 ft := fun s => match s with | .inl x => C.ft x | .inr x => D.ft x
 mn := fun s b w => match s with | .inl x => C.mn x b w | .inr x => D.mn x b w
 mt := fun s b w => match s with | .inl x => C.mt x b w | .inr x => D.mt x b w
 en := fun s args w => match s with | .inl x => C.en x args w | .inr x => D.en x args w
 et := fun s args w => match s with | .inl x => C.et x args w | .inr x => D.et x args w
 ts := fun s a => match s with | .inl x => C.ts x a | .inr x => D.ts x a
 dom := fun {w F q s} h => match s, h with | .inl x, h => C.dom (s := x) h | .inr x, h => D.dom (s := x) h
 mono := fun {w q s F F'} h h1 h2 => match s, h with | .inl x, h => C.mono (s := x) h h1 h2 | .inr x, h => D.mono (s := x) h h1 h2
 keep := fun {w w' F q s K} h k hd => match s, h with | .inl x, h => C.keep (s := x) h k hd | .inr x, h => D.keep (s := x) h k hd
 wf := fun {w F q s} h => match s, h with | .inl x, h => C.wf (s := x) h | .inr x, h => D.wf (s := x) h
 next := fun {w F q s} h => match s, h with | .inl x, h => C.next (s := x) h | .inr x, h => D.next (s := x) h
 take := fun {w F q s a s0 sl sc} h hl hx hr => match s, h, hl, hx with
  | .inl x, h, hl, hx => by
   refine (C.take (s := x) h hl hx hr).mono ?_
   rintro e w' ⟨rfl, F', h1, h2, h3⟩
   exact ⟨rfl, F', h1, h2, h3⟩
  | .inr x, h, hl, hx => by
   refine (D.take (s := x) h hl hx hr).mono ?_
   rintro e w' ⟨rfl, F', h1, h2, h3⟩
   exact ⟨rfl, F', h1, h2, h3⟩
def plFam : Fam := Fam.Sum filFam draFam
def plQ : Fam := Fam.Q plFam
structure PlAt (b s : Nat) (ls : List (List (Int × List Int))) (wm wr : World) (κm κ : Nat → Kd) (W p c : Nat) (av tv : Value) (ab : Nat → Nat) (Ks : List Nat) (n : Nat) (P : List PutM) (G : List (Nat × Nat)) (A : List (Slot × Nat)) (k H : Nat) (F : List (List Int)) (k0 : Nat) (FL : List (Option PutM × FilT)) (d : Option GetM × DraT) (L : List PlQS) (S : SW plQ.M.σ) : Prop where
 wo : WoIn plQ wr κ W p c av tv ab S
 pq : PlQ b s ls Ks S P G A k H F k0 FL d L
 kd : ∀ i, i < wm.heap.size → κ i = κm i
 kp : Keep (fun i => κm i ≠ .no) wm wr
 c0 : 0 ≤ S.cnt
 c1 : S.cnt ≤ n
 tr : S.tr.length ≤ n
variable {b s : Nat} {ls : List (List (Int × List Int))} {κm κ : Nat → Kd} {W p c : Nat} {av tv : Value} {ab : Nat → Nat} {Ks : List Nat} {n : Nat} {P : List PutM} {G : List (Nat × Nat)} {A : List (Slot × Nat)} {k H : Nat} {F : List (List Int)} {k0 : Nat} {FL : List (Option PutM × FilT)} {d : Option GetM × DraT} {L : List PlQS} {S : SW plQ.M.σ}
theorem PlAt.len {wm wr : World} (h : PlAt b s ls wm wr κm κ W p c av tv ab Ks n P G A k H F k0 FL d L S) : L.length = Ks.length ∧ S.acts.length = Ks.length := by
 have h1 : L.length = Ks.length := by
  rw [← h.pq.key]
  simp
 refine ⟨h1, ?_⟩
 have h2 : S.acts = actsQ (σ := PlQS) L := h.pq.acts
 rw [h2, ← h1]
 exact actsQ_len L
theorem PlAt.pick {wm wr w' : World} {e : Ending} (h : PlAt b s ls wm wr κm κ W p c av tv ab Ks n P G A k H F k0 FL d L S) {j : Nat} (hj : j < Ks.length) (hp : PickPost plQ wr κ W p c av tv ab (plQ.M.pick S 0 j 0) e w') :
  ∃ κ' tv' P' G' A' k' H' F' k0' FL' d' L', PlAt b s ls wm w' κm κ' W p c av tv' ab Ks (n + 1) P' G' A' k' H' F' k0' FL' d' L' (plQ.M.pick S 0 j 0).1 := by
 obtain ⟨_, _, _, _, _, _, _, _, _, κ', tv', hw, hk, _, kp⟩ := hp
 obtain ⟨⟨P', G', A', k', H', F', k0', FL', d', L', hq⟩, _⟩ := h.pq.pick hj
 obtain ⟨t1, _, t3, t4⟩ := pick_facts plQ.M S 0 j 0
 have hz := h.kp.size
 exact ⟨κ', tv', P', G', A', k', H', F', k0', FL', d', L', hw, hq, fun i hi => (hk i (by omega)).trans (h.kd i hi), h.kp.then kp (fun i hi hn => by rw [h.kd i hi] at hn; exact hn), by have := h.c0; omega, by have := h.c1; omega, by have := h.tr; omega⟩
theorem PlAt.robin {wm wr w' : World} {e : Ending} (h : PlAt b s ls wm wr κm κ W p c av tv ab Ks n P G A k H F k0 FL d L S) (hp : RobPost plQ wr κ W p c av ab (plQ.M.robin 200000 S) e w') :
  ∃ κ' tv' P' G' A' k' H' F' k0' FL' d' L', WoIn plQ w' κ' W p c av tv' ab (plQ.M.robin 200000 S).1 ∧ PlQ b s ls Ks (plQ.M.robin 200000 S).1 P' G' A' k' H' F' k0' FL' d' L' ∧ (∀ f ∈ FL', f.1 = none) ∧ d'.1 = none ∧ (∀ i, i < wm.heap.size → κ' i = κm i) ∧ Keep (fun i => κm i ≠ .no) wm w' := by
 obtain ⟨_, κ', tv', hw, hk, kp⟩ := hp
 obtain ⟨P', G', A', k', H', F', k0', FL', d', L', hq, h1, h2⟩ := h.pq.robin
 have hz := h.kp.size
 exact ⟨κ', tv', P', G', A', k', H', F', k0', FL', d', L', hw, hq, h1, h2, fun i hi => (hk i (by omega)).trans (h.kd i hi), h.kp.then kp (fun i hi hn => by rw [h.kd i hi] at hn; exact hn)⟩
theorem MdAt.inl {w0 wr : World} {κ : Nat → Kd} {qs : Nat → Nat} {ss : List FqS} (h : MdAt filQ w0 wr κ qs ss) : MdAt plQ w0 wr κ qs (ss.map fun x => ((x.1, Sum.inl x.2) : PlQS)) := by
 refine ⟨fun i s hs => ?_, fun b => ?_, h.bel⟩
 ·have hs : (ss.map fun x => ((x.1, Sum.inl x.2) : PlQS))[i]? = some s := hs
  rw [List.getElem?_map] at hs
  obtain ⟨x, hx, rfl⟩ := Option.map_eq_some_iff.1 hs
  exact h.mac i x hx
 ·rcases h.kd b with e | ⟨⟨i, e, hi⟩, h2, h3⟩
  ·exact .inl e
  ·exact .inr ⟨⟨i, e, by show i < (ss.map fun x => ((x.1, Sum.inl x.2) : PlQS)).length; rw [List.length_map]; exact hi⟩, h2, h3⟩
end Go.Proofs.YtggjhleomocojaaGreat
