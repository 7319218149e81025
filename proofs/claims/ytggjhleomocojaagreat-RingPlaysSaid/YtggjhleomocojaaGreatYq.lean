/- ring.Mender: its plain machine, where it lies in memory; it as a chain's owner. Conditions: as each says. -/
import Derived.Test.YtggjhleomocojaaGreatDk
import Derived.Test.YtggjhleomocojaaGreatFj
import Derived.Deep.RegionHeld3
import Derived.Test.YtggjhleomocojaaGreatVx
import Derived.Test.YtggjhleomocojaaGreatDs
namespace Go.Proofs.YtggjhleomocojaaGreat
set_option maxRecDepth 100000
open Go.RowKit
set_option linter.unusedVariables false
set_option linter.unusedSimpArgs false
structure MenT where
 b : Int
 s : Int
 times : Int
 sum : Int
def MenT.mo (t : MenT) : Option FixM × MenT := if t.times < 1 then (none, t) else (some (FixC.init ⟨t.b, t.s⟩), { t with times := t.times - 1 })
def menV (q bx : Nat) (nv : Value) (g : Bool) (t : MenT) : List Value :=
 [nv, .func (.func 60) #[ptr q] #[], .func (.func 61) #[] #[ptr bx], .bool g, .int .i64 t.b, .int .i64 t.s, .int .i64 t.times, .int .i64 t.sum]
def MenN (w : World) (F1 : Nat → Prop) (nv : Value) (cur : Option FixM) : Prop := match cur with
 | none => nv = .pointer none
 | some m => ∃ p, nv = ptr p ∧ FixF w F1 p m
structure MenP (w : World) (q bx : Nat) (F1 : Nat → Prop) (cur : Option FixM) (t : MenT) (nv : Value) : Prop where
 blk : Blk w q (menV q bx nv cur.isSome t)
 box : Blk w bx [ptr q]
 c : MenN w F1 nv cur
 bd : t.times ≤ 64
 bb : -9223372036854775808 ≤ t.b ∧ t.b ≤ 9223372036854775807
 bs : -9223372036854775808 ≤ t.s ∧ t.s ≤ 9223372036854775807
 lt : ∀ i, F1 i → i < w.heap.size ∧ i ≠ q ∧ i ≠ bx
 ne : bx ≠ q
end Go.Proofs.YtggjhleomocojaaGreat
namespace Go.Proofs.YtggjhleomocojaaGreat
open Go.RowKit
set_option linter.unusedVariables false
theorem get_init_live {c : GetC} (h : c.ok = true) : (GetC.init c).live = true := by unfold GetC.init; rw [h]; rfl
theorem dra_mo0 {t : DraT} (h : t.times < 1) : DraT.mo t = ((none, t) : Option GetM × DraT) := if_pos h
theorem dra_mo1 {t : DraT} (h : ¬ t.times < 1) : DraT.mo t = ((some (GetC.init ⟨t.b, t.s, t.most⟩), { t with times := t.times - 1 }) : Option GetM × DraT) := if_neg h
theorem dra_sl (n : Nat) (m : GetM) (t : DraT) (h : m.live = true) : draC.settle n ((some m, t) : Option GetM × DraT) = ((some m, t) : Option GetM × DraT) := by
 cases n with
 | zero => rfl
 | succ n => exact if_pos h
theorem dra_s0 (n : Nat) (t : DraT) : draC.settle n ((none, t) : Option GetM × DraT) = ((none, t) : Option GetM × DraT) := by cases n <;> rfl
theorem dra_sd (n : Nat) (m : GetM) (t : DraT) (h : m.live = false) : draC.settle (n + 1) ((some m, t) : Option GetM × DraT) = draC.settle n (DraT.mo { t with out := t.out ++ m.out }) := if_neg (by show ¬ m.live = true; rw [h]; decide)
theorem dra_stay (t : DraT) (hok : (⟨t.b, t.s, t.most⟩ : GetC).ok = true) (n : Nat) : draC.settle n (DraT.mo t) = DraT.mo t := by
 by_cases h : t.times < 1
 ·rw [dra_mo0 h]
  exact dra_s0 n t
 ·rw [dra_mo1 h]
  exact dra_sl n _ _ (get_init_live hok)
theorem FilW.adds {b s : Nat} {bs : List Int} {A : List (Slot × Nat)} {k H : Nat} {F : List (List Int)} (tries : Int) : ∀ (l2 : List (List (Int × List Int))) {ls : List (List (Int × List Int))} {P : List PutM} {G : List (Nat × Nat)} {FL : List (Option PutM × FilT)}, FilW b s ls bs P G A k H F FL → (∀ l ∈ l2, ∀ x ∈ l, IsB x.2 ∧ x.1 ≤ 2147483647) →
  ∃ P' G', FilW b s (ls ++ l2) bs P' G' A k H F (FL ++ l2.map fun l => filNew0 (filT0 b s l tries))
 | [], ls, P, G, FL, h, _ => ⟨P, G, by rw [List.append_nil, List.map_nil, List.append_nil]; exact h⟩
 | l :: l2, ls, P, G, FL, h, hl => by
  obtain ⟨E, GE, h1⟩ := h.add l (hl l (List.mem_cons_self ..)) tries
  obtain ⟨P', G', h2⟩ := FilW.adds tries l2 h1 (fun l' hl' => hl l' (List.mem_cons_of_mem _ hl'))
  rw [List.append_assoc, List.append_assoc] at h2
  exact ⟨P', G', h2⟩
theorem FilW.made {N b s : Nat} (hs : s = 64 ∨ s = 128 ∨ s = 256 ∨ s = 512 ∨ s = 1024 ∨ s = 2048 ∨ s = 4096 ∨ s = 8192) (h8 : b % 8 = 0) (h : b + s + 24 ≤ N) (tries : Int) (ls : List (List (Int × List Int))) (hl : ∀ l ∈ ls, ∀ x ∈ l, IsB x.2 ∧ x.1 ≤ 2147483647) :
  ∃ P G, FilW b s ls (zs N) P G [] 0 0 [] (ls.map fun l => filNew0 (filT0 b s l tries)) := by
 have h0 : Inv b s (zs N) [] [] 0 0 [] := Inv.start hs h8 h (fun i m hm => by simp at hm)
 obtain ⟨P, G, h1⟩ := FilW.adds tries ls (FilW.start h0) hl
 exact ⟨P, G, by simpa using h1⟩
theorem pts_len (A : List (Slot × Nat)) : (pts 0 A).length = (msgs A).length := by
 rw [← pts_msgs A 0, List.length_map]
end Go.Proofs.YtggjhleomocojaaGreat
namespace Go.Proofs.YtggjhleomocojaaGreat
open Go.RowKit
set_option linter.unusedVariables false
variable {b s : Nat} {ls : List (List (Int × List Int))} {bs : List Int} {P : List PutM} {G : List (Nat × Nat)} {A : List (Slot × Nat)} {k H : Nat} {F : List (List Int)} {FL : List (Option PutM × FilT)}
theorem FilW.pickA (h : FilW b s ls bs P G A k H F FL) {i : Nat} {m : PutM} {t : FilT} (hf : FL[i]? = some (some m, t)) :
  m.live = true ∧ t.left ≠ [] ∧ (∃ l, ls[i]? = some l ∧ t.left = l.drop t.done.length) ∧ ∃ c, P[c]? = some m ∧ ∀ A', Inv b s (m.want.out bs) (P.set c (m.step (m.want.ans bs))) A' k H F → ∃ P' G', FilW b s ls (m.want.out bs) P' G' A' k H F (FL.set i (filNx (m.step (m.want.ans bs)) t)) := by
 obtain ⟨l, hl⟩ := h.at_ hf
 obtain ⟨c, hr⟩ := h.rel i _ l hf hl
 obtain ⟨h1, h2, h3⟩ := hr.cur m rfl
 have hlv := h.fin _ (List.mem_of_getElem? hf) m rfl
 have hle : t.left = l.drop t.done.length := hr.left
 have hne : t.left ≠ [] := by
  rw [hle]
  intro e0
  have := congrArg List.length e0
  simp at this
  have h3 : t.done.length < l.length := h3
  omega
 refine ⟨hlv, hne, ⟨l, hl, hle⟩, c, h2, fun A' hI => ?_⟩
 have hr1 := hr.turn (m.step (m.want.ans bs)) (put_same m _)
 obtain ⟨E, GE, c', hr2, e1, e2, e3⟩ := hr1.settle (t.left.length + 2)
 have hr2 : FR b s (P.set c (m.step (m.want.ans bs)) ++ E) (G ++ GE) i l c' (filNx (m.step (m.want.ans bs)) t) := hr2
 have hil := (List.getElem?_eq_some_iff.1 hf).1
 refine ⟨P.set c (m.step (m.want.ans bs)) ++ E, G ++ GE, ⟨Inv.mores E hI (fun m2 hm2 => ?_), by rw [List.length_set]; exact h.ll, by rw [List.length_append, List.length_append, List.length_set, h.gl, e1], fun g hg => ?_, h.lo, fun i' f' l' hf' hl' => ?_, fun f' hf' m2 hm2 => ?_⟩⟩
 ·obtain ⟨x, hx, rfl⟩ := e3 m2 hm2
  obtain ⟨q1, q2⟩ := h.lo l (List.mem_of_getElem? hl) x hx
  exact ⟨_, rfl, rfl, rfl, q1, q2⟩
 ·rcases List.mem_append.1 hg with hg | hg
  ·exact h.tg g hg
  ·rw [e2 g hg]
   exact (List.getElem?_eq_some_iff.1 hl).1
 ·by_cases e : i = i'
  ·subst e
   rw [List.getElem?_set_self hil] at hf'
   rw [hl] at hl'
   cases hf'
   cases hl'
   exact ⟨c', hr2⟩
  ·rw [List.getElem?_set_ne e] at hf'
   obtain ⟨c2, hr'⟩ := h.rel i' f' l' hf' hl'
   exact ⟨c2, (hr'.other h1 e).more E GE e1 (fun g hg => by rw [e2 g hg]; exact e)⟩
 ·rcases List.mem_or_eq_of_mem_set hf' with hf' | rfl
  ·exact h.fin f' hf' m2 hm2
  ·exact fil_enough.all (m.step (m.want.ans bs)) t hne m2 hm2
structure PlayW (b s : Nat) (ls : List (List (Int × List Int))) (bs : List Int) (P : List PutM) (G : List (Nat × Nat)) (A : List (Slot × Nat)) (k H : Nat) (F : List (List Int)) (k0 : Nat) (FL : List (Option PutM × FilT)) (d : Option GetM × DraT) : Prop where
 fw : FilW b s ls bs P G A k H F FL
 db : d.2.b = b
 ds : d.2.s = s
 dok : (⟨d.2.b, d.2.s, d.2.most⟩ : GetC).ok = true
 out : d.2.out = msgs (A.take k0)
 kk : k0 ≤ k
 cur : ∀ g, d.1 = some g → g.live = true ∧ GRel b s A k H F k0 g
 non : d.1 = none → F = [] ∧ k0 = k
theorem take_le_eq {α : Type} {A A' : List α} {k k0 : Nat} (h : A'.take k = A.take k) (hk : k0 ≤ k) : A'.take k0 = A.take k0 := by
 have := congrArg (List.take k0) h
 rwa [List.take_take, List.take_take, Nat.min_eq_left hk] at this
theorem PlayW.fil {k0 : Nat} {d : Option GetM × DraT} (h : PlayW b s ls bs P G A k H F k0 FL d) {i : Nat} {m : PutM} {t : FilT} (hf : FL[i]? = some (some m, t)) (hT : ln A ≤ 4611686018427387000) :
  m.want.err bs.length = 0 ∧ ∃ P' G' A', PlayW b s ls (m.want.out bs) P' G' A' k H F k0 (FL.set i (filNx (m.step (m.want.ans bs)) t)) d ∧ (ln A' = ln A ∨ ∃ t pad, m.pc = .cs t pad ∧ (m.want.ans bs).d = true) ∧ (m.step (m.want.ans bs)).rem (ln A' : Nat) < m.rem (ln A : Nat) := by
 obtain ⟨hlv, hne, hle, c, hP, hA⟩ := h.fw.pickA hf
 obtain ⟨d1, d2⟩ := d
 cases d1 with
 | some g =>
  obtain ⟨hgl, hg⟩ := h.cur g rfl
  obtain ⟨herr, A', hI, hG, htk, hln⟩ := put_get h.fw.inv hg hP hlv hT
  obtain ⟨P', G', hF⟩ := hA A' hI
  exact ⟨herr, P', G', A', ⟨hF, h.db, h.ds, h.dok, by rw [take_le_eq htk h.kk]; exact h.out, h.kk, fun g2 hg2 => by cases hg2; exact ⟨hgl, hG⟩, fun e => by cases e⟩, hln, put_rem h.fw.inv hP hlv hT hln⟩
 | none =>
  obtain ⟨herr, A', hI, htk, hln⟩ := put_go h.fw.inv hP hlv hT
  obtain ⟨P', G', hF⟩ := hA A' hI
  exact ⟨herr, P', G', A', ⟨hF, h.db, h.ds, h.dok, by rw [take_le_eq htk h.kk]; exact h.out, h.kk, fun g2 hg2 => (by cases hg2), fun e => h.non rfl⟩, hln, put_rem h.fw.inv hP hlv hT hln⟩
def muD (R : Nat) (d : Option GetM × DraT) : Nat := (match d.1 with | some g => g.rem | none => 0) + d.2.times.toNat * R
theorem get_init_rem {c : GetC} (h : c.ok = true) : (GetC.init c).rem = (c.s + c.s / 8).toNat + 6 := by
 have e : GetC.init c = ⟨c, .hd0, 0, 0, 0, [], false, 10⟩ := by unfold GetC.init; rw [h]; rfl
 rw [e]
 rfl
theorem muD_mo {R : Nat} {t : DraT} (h : (⟨t.b, t.s, t.most⟩ : GetC).ok = true) (hR : (t.s + t.s / 8).toNat + 6 ≤ R) : muD R (DraT.mo t) ≤ t.times.toNat * R := by
 by_cases h0 : t.times < 1
 ·rw [dra_mo0 h0]
  exact Nat.le_of_eq (Nat.zero_add _)
 ·rw [dra_mo1 h0]
  show (GetC.init ⟨t.b, t.s, t.most⟩).rem + (t.times - 1).toNat * R ≤ t.times.toNat * R
  rw [get_init_rem h]
  obtain ⟨n, hn⟩ : ∃ n : Nat, t.times = n + 1 := ⟨(t.times - 1).toNat, by omega⟩
  rw [hn, show ((n : Int) + 1 - 1).toNat = n by omega, show ((n : Int) + 1).toNat = n + 1 by omega, Nat.succ_mul]
  show (t.s + t.s / 8).toNat + 6 + n * R ≤ n * R + R
  omega
theorem PlayW.dra {k0 : Nat} {g : GetM} {t : DraT} (h : PlayW b s ls bs P G A k H F k0 FL (some g, t)) (hT : ln A ≤ 4611686018427387000) {R : Nat} (hR : s + s / 8 + 6 ≤ R) :
  g.want.err bs.length = 0 ∧ ∃ k' H' F' k0', PlayW b s ls (g.want.out bs) P G A k' H' F' k0' FL (draC.step ((some g, t) : Option GetM × DraT) (g.want.ans bs)) ∧ muD R (draC.step ((some g, t) : Option GetM × DraT) (g.want.ans bs)) < muD R (some g, t) := by
 obtain ⟨hgl, hg⟩ := h.cur g rfl
 obtain ⟨herr, k', H', F', hI, hG, ⟨hk, hH⟩, _⟩ := get_go h.fw.inv hg hgl hT
 have hx0 : 0 ≤ (g.want.ans bs).v := (AA.ans_ok h.fw.inv.isb herr).v0
 have hrem := GetM.rem_step (x := g.want.ans bs) (GRel.okay h.fw.inv hg hgl) hgl hx0
 have hfw : FilW b s ls (g.want.out bs) P G A k' H' F' FL := ⟨hI, h.fw.ll, h.fw.gl, h.fw.tg, h.fw.lo, h.fw.rel, h.fw.fin⟩
 have hle := hG.le
 refine ⟨herr, ?_⟩
 by_cases hl : (g.step (g.want.ans bs)).live = true
 ·have e : draC.step ((some g, t) : Option GetM × DraT) (g.want.ans bs) = ((some (g.step (g.want.ans bs)), t) : Option GetM × DraT) := dra_sl _ _ _ hl
  rw [e]
  exact ⟨k', H', F', k0, ⟨hfw, h.db, h.ds, h.dok, h.out, hle, fun g2 hg2 => by cases hg2; exact ⟨hl, hG⟩, fun e => by cases e⟩, Nat.add_lt_add_right hrem _⟩
 ·have hl : (g.step (g.want.ans bs)).live = false := by simpa using hl
  obtain ⟨_, rfl, hkk, ho⟩ := hG.done hl
  obtain ⟨t2, ht2⟩ : ∃ t2 : DraT, t2 = { t with out := t.out ++ (g.step (g.want.ans bs)).out } := ⟨_, rfl⟩
  have hb2 : t2.b = b := by rw [ht2]; exact h.db
  have hs2 : t2.s = s := by rw [ht2]; exact h.ds
  have hok2 : (⟨t2.b, t2.s, t2.most⟩ : GetC).ok = true := by rw [ht2]; exact h.dok
  have htm : t2.times = t.times := by rw [ht2]
  have ho2 : t2.out = msgs (A.take k') := by
   rw [ht2]
   show t.out ++ _ = _
   rw [show t.out = msgs (A.take k0) from h.out, ho, ← msgs_app]
   congr 1
   have := List.take_append_drop k0 (A.take k')
   rwa [List.take_take, Nat.min_eq_left hkk] at this
  have e : draC.step ((some g, t) : Option GetM × DraT) (g.want.ans bs) = DraT.mo t2 := by
   have h9 := dra_sd (t.times.toNat + 1) _ t hl
   rw [← ht2] at h9
   exact h9.trans (dra_stay t2 hok2 _)
  rw [e]
  have hmu : muD R (DraT.mo t2) < muD R (some g, t) := by
   have h1 := muD_mo (R := R) hok2 (by rw [hs2]; omega)
   have h2 : muD R (some g, t) = g.rem + t.times.toNat * R := rfl
   rw [htm] at h1
   omega
  refine ⟨k', H', [], k', ?_, hmu⟩
  by_cases h0 : t2.times < 1
  ·rw [dra_mo0 h0]
   exact ⟨hfw, hb2, hs2, hok2, ho2, Nat.le_refl _, fun g2 hg2 => (by cases hg2), fun _ => ⟨rfl, rfl⟩⟩
  ·rw [dra_mo1 h0]
   exact ⟨hfw, hb2, hs2, hok2, ho2, Nat.le_refl _, fun g2 hg2 => by cases hg2; exact ⟨get_init_live hok2, GRel.init1 hok2 hb2 hs2⟩, fun e => by cases e⟩
def FilT.att (t : FilT) : Nat := t.left.length + t.tries.toNat
def muF (n K : Nat) (T : Int) (f : Option PutM × FilT) : Nat := (match f.1 with | some m => m.rem T + (if m.pre = true then 6 * n else 0) | none => 0) + f.2.att * K
theorem att_en {t : FilT} (m : PutM) (h : t.left ≠ []) : (t.en m).att + 1 = t.att ∧ ∀ x ∈ (t.en m).left, x ∈ t.left := by
 unfold FilT.en
 split
 ·rename_i hc
  refine ⟨?_, fun x hx => hx⟩
  unfold FilT.att
  show t.left.length + (t.tries - 1).toNat + 1 = t.left.length + t.tries.toNat
  have := hc.2
  omega
 ·refine ⟨?_, fun x hx => List.mem_of_mem_tail hx⟩
  unfold FilT.att
  show t.left.tail.length + t.tries.toNat + 1 = t.left.length + t.tries.toNat
  have := List.length_pos_iff.2 h
  rw [List.length_tail]
  omega
theorem rem_init {c : PutC} (T : Int) (n : Nat) : (PutC.init c).rem T + (if (PutC.init c).pre = true then 6 * n else 0) ≤ 11 + c.d.length / 8 + 6 * n := by
 cases h : c.ok with
 | true =>
  have e : PutC.init c = ⟨c, .hd0, 0, 0, false, c.e0⟩ := by unfold PutC.init; rw [h]; rfl
  rw [e]
  exact Nat.le_refl _
 | false =>
  have e : PutC.init c = ⟨c, .done, 0, 0, false, c.e0⟩ := by unfold PutC.init; rw [h]; rfl
  rw [e]
  exact Nat.zero_le _
variable {n K B : Nat}
theorem muF_mo {T : Int} {t : FilT} (hK : 11 + B / 8 + 6 * n ≤ K) (hB : ∀ x ∈ t.left, x.2.length ≤ B) : muF n K T ((t.mo, t) : Option PutM × FilT) ≤ K + t.att * K := by
 cases h : t.left with
 | nil =>
  have e : t.mo = none := by unfold FilT.mo; rw [h]
  rw [e]
  show 0 + t.att * K ≤ _
  omega
 | cons x r =>
  have h1 := rem_init (c := ⟨t.b, t.s, x.1, x.2⟩) T n
  have h2 := hB x (by rw [h]; exact List.mem_cons_self ..)
  have h3 : x.2.length / 8 ≤ B / 8 := Nat.div_le_div_right h2
  have h1 : (PutC.init ⟨t.b, t.s, x.1, x.2⟩).rem T + (if (PutC.init ⟨t.b, t.s, x.1, x.2⟩).pre = true then 6 * n else 0) ≤ 11 + x.2.length / 8 + 6 * n := h1
  have e : t.mo = some (PutC.init ⟨t.b, t.s, x.1, x.2⟩) := by unfold FilT.mo; rw [h]
  rw [e]
  show (PutC.init ⟨t.b, t.s, x.1, x.2⟩).rem T + (if (PutC.init ⟨t.b, t.s, x.1, x.2⟩).pre = true then 6 * n else 0) + t.att * K ≤ _
  omega
theorem dead_rem {m : PutM} (h : m.live = false) (T : Int) (n : Nat) : m.rem T + (if m.pre = true then 6 * n else 0) = 0 := by
 obtain ⟨c, pc, hd, pos, cl, e⟩ := m
 cases pc with
 | done => rfl
 | _ => cases h
theorem fil_sl2 (n : Nat) (m : PutM) (t : FilT) (h : m.live = true) : filC.settle n ((some m, t) : Option PutM × FilT) = ((some m, t) : Option PutM × FilT) := by
 cases n with
 | zero => rfl
 | succ n => exact fil_sl n m t h
theorem muF_settle {T : Int} (hK : 11 + B / 8 + 6 * n ≤ K) : ∀ (fu : Nat) (m : PutM) (t : FilT), m.live = false → t.left ≠ [] → (∀ x ∈ t.left, x.2.length ≤ B) → muF n K T (filC.settle fu ((some m, t) : Option PutM × FilT)) ≤ t.att * K
 | 0, m, t, hl, _, _ => by
  show muF n K T (some m, t) ≤ _
  unfold muF
  show m.rem T + (if m.pre = true then 6 * n else 0) + t.att * K ≤ _
  rw [dead_rem hl]
  omega
 | fu + 1, m, t, hl, hne, hB => by
  rw [fil_sd fu m t hl]
  obtain ⟨ha, hs⟩ := att_en m hne
  have hB2 : ∀ x ∈ (t.en m).left, x.2.length ≤ B := fun x hx => hB x (hs x hx)
  have hmul : t.att * K = K + (t.en m).att * K := by rw [← ha, Nat.succ_mul]; omega
  rw [hmul]
  have hmo := muF_mo (T := T) hK hB2
  rw [show filC.mo (t.en m) = (((t.en m).mo, t.en m) : Option PutM × FilT) from rfl]
  cases hm : (t.en m).mo with
  | none =>
   rw [hm] at hmo
   rw [fil_s0]
   exact hmo
  | some m2 =>
   rw [hm] at hmo
   by_cases h2 : m2.live = true
   ·rw [fil_sl2 _ m2 _ h2]
    exact hmo
   ·have hne2 : (t.en m).left ≠ [] := by
     intro e0
     unfold FilT.mo at hm
     rw [e0] at hm
     cases hm
    have := muF_settle (T := T) hK fu m2 (t.en m) (by simpa using h2) hne2 hB2
    omega
theorem muF_step {T T' : Int} (hK : 11 + B / 8 + 6 * n ≤ K) {m m' : PutM} {t : FilT} (hne : t.left ≠ []) (hB : ∀ x ∈ t.left, x.2.length ≤ B) (hr : m'.rem T' < m.rem T) (hp : m'.pre = true → m.pre = true) (hd : m'.live = false → T' = T) : muF n K T' (filNx m' t) < muF n K T (some m, t) := by
 have e : muF n K T (some m, t) = m.rem T + (if m.pre = true then 6 * n else 0) + t.att * K := rfl
 by_cases hl : m'.live = true
 ·unfold filNx
  rw [fil_sl _ m' t hl, e]
  show m'.rem T' + (if m'.pre = true then 6 * n else 0) + t.att * K < _
  by_cases h1 : m'.pre = true
  ·rw [if_pos h1, if_pos (hp h1)]
   omega
  ·rw [if_neg h1]
   omega
 ·have hl' : m'.live = false := by simpa using hl
  have h1 := muF_settle (T := T') hK (t.left.length + 2) m' t hl' hne hB
  unfold filNx
  rw [e]
  omega
abbrev PlS : Type := (Option PutM × FilT) ⊕ (Option GetM × DraT)
def muX (n K R : Nat) (T : Int) : PlS → Nat
 | .inl f => muF n K T f
 | .inr d => muD R d
def muL (n K R : Nat) (T : Int) : List PlS → Nat
 | [] => 0
 | x :: r => muX n K R T x + muL n K R T r
theorem muX_turn (n K R : Nat) (T T' : Int) (x : PlS) : muX n K R T' x ≤ muX n K R T x + 6 := by
 cases x with
 | inr d => exact Nat.le_add_right _ _
 | inl f =>
  obtain ⟨cur, t⟩ := f
  cases cur with
  | none => exact Nat.le_add_right _ _
  | some m =>
   have := m.rem_turn T T'
   show m.rem T' + _ + _ ≤ m.rem T + _ + _ + 6
   split at this <;> omega
theorem muL_turn (n K R : Nat) (T T' : Int) : ∀ X : List PlS, muL n K R T' X ≤ muL n K R T X + 6 * X.length
 | [] => Nat.zero_le _
 | x :: r => by
  have h1 := muX_turn n K R T T' x
  have h2 := muL_turn n K R T T' r
  show muX n K R T' x + muL n K R T' r ≤ muX n K R T x + muL n K R T r + 6 * (r.length + 1)
  omega
theorem muL_same (n K R : Nat) (T : Int) : ∀ (X : List PlS) (i : Nat) (x x' : PlS), X[i]? = some x → muX n K R T x' < muX n K R T x → muL n K R T (X.set i x') < muL n K R T X
 | [], _, _, _, h, _ => by cases h
 | y :: r, 0, x, x', h, hlt => by
  cases h
  show muX n K R T x' + muL n K R T r < muX n K R T y + muL n K R T r
  omega
 | y :: r, i + 1, x, x', h, hlt => by
  have := muL_same n K R T r i x x' h hlt
  show muX n K R T y + muL n K R T (r.set i x') < muX n K R T y + muL n K R T r
  omega
theorem muL_claim (n K R : Nat) (T T' : Int) : ∀ (X : List PlS) (i : Nat) (x x' : PlS), X[i]? = some x → muX n K R T' x' + 6 * n < muX n K R T x → muL n K R T' (X.set i x') + 6 * n < muL n K R T X + 6 * X.length
 | [], _, _, _, h, _ => by cases h
 | y :: r, 0, x, x', h, hlt => by
  cases h
  have := muL_turn n K R T T' r
  show muX n K R T' x' + muL n K R T' r + 6 * n < muX n K R T y + muL n K R T r + 6 * (r.length + 1)
  omega
 | y :: r, i + 1, x, x', h, hlt => by
  have h1 := muL_claim n K R T T' r i x x' h hlt
  have h2 := muX_turn n K R T T' y
  show muX n K R T' y + muL n K R T' (r.set i x') + 6 * n < muX n K R T y + muL n K R T r + 6 * (r.length + 1)
  omega
end Go.Proofs.YtggjhleomocojaaGreat
namespace Go.Proofs.YtggjhleomocojaaGreat
open Go.RowKit
set_option linter.unusedVariables false
def Mac.Sum (M N : Mac) : Mac := ⟨M.σ ⊕ N.σ, fun s => match s with | .inl x => M.live x | .inr x => N.live x, fun s => match s with | .inl x => M.want x | .inr x => N.want x, fun s a => match s with | .inl x => .inl (M.step x a) | .inr x => .inr (N.step x a)⟩
def plM : Mac := (Mac.Sum filC.mac draC.mac).Q
abbrev PlQS : Type := Nat × PlS
theorem put_pre (m : PutM) (hl : m.live = true) (x : AN) (hx : (m.step x).pre = true) : m.pre = true := by
 obtain ⟨c, pc, hd, pos, cl, e⟩ := m
 cases pc with
 | done => cases hl
 | wh a => revert hx; show PutM.pre (if _ then _ else _) = true → _; split <;> exact nofun
 | wb a p l => revert hx; show PutM.pre (if _ then _ else _) = true → _; split <;> exact nofun
 | pd t => cases hx
 | fi a => cases hx
 | _ => rfl
theorem put_claimed {m : PutM} {x : AN} {t pad : Int} (e : m.pc = .cs t pad) (hd : x.d = true) : m.pre = true ∧ (m.step x).pre = false ∧ (m.step x).live = true := by
 refine ⟨by unfold PutM.pre; rw [e], ?_⟩
 unfold PutM.step
 rw [e]
 dsimp only
 rw [if_pos hd]
 by_cases hp : pad = 0
 ·rw [if_pos hp]; exact ⟨rfl, rfl⟩
 ·rw [if_neg hp]; exact ⟨rfl, rfl⟩
theorem actsQ_ms {σ : Type} (L : List σ) : (actsQ L).filterMap Ac.m = L := by
 unfold actsQ
 induction L with
 | nil => rfl
 | cons x r ih => rw [List.map_cons, List.filterMap_cons]; dsimp only; rw [ih]
def muS (b s : Nat) (S : SW plM.σ) : Nat := muL 6 84 582 (rdN S.bs (b + s) 8) ((S.acts.filterMap Ac.m : List PlQS).map (·.2))
structure PlQ (b s : Nat) (ls : List (List (Int × List Int))) (Ks : List Nat) (S : SW plM.σ) (P : List PutM) (G : List (Nat × Nat)) (A : List (Slot × Nat)) (k H : Nat) (F : List (List Int)) (k0 : Nat) (FL : List (Option PutM × FilT)) (d : Option GetM × DraT) (L : List PlQS) : Prop where
 acts : S.acts = actsQ (σ := PlQS) L
 st : L.map (·.2) = FL.map Sum.inl ++ [Sum.inr d]
 key : L.map (·.1) = Ks
 pw : PlayW b s ls S.bs P G A k H F k0 FL d
 few : ∀ l ∈ ls, ∀ x ∈ l, x.2.length ≤ 300
 l5 : ls.length ≤ 5
 s5 : s ≤ 512
 bd : ln A + 8192 * muS b s S ≤ 1638400000
variable {b s : Nat} {ls : List (List (Int × List Int))} {Ks : List Nat} {P : List PutM} {G : List (Nat × Nat)} {A : List (Slot × Nat)} {k H : Nat} {F : List (List Int)} {k0 : Nat} {FL : List (Option PutM × FilT)} {d : Option GetM × DraT} {L : List PlQS}
theorem PlQ.mu {S : SW plM.σ} (h : PlQ b s ls Ks S P G A k H F k0 FL d L) : muS b s S = muL 6 84 582 (ln A : Nat) (L.map (·.2)) := by
 unfold muS
 rw [h.pw.fw.inv.tail, h.acts]
 rw [show ((actsQ (σ := PlQS) L).filterMap Ac.m) = L from actsQ_ms L]
theorem PlQ.at_ {S : SW plM.σ} (h : PlQ b s ls Ks S P G A k H F k0 FL d L) {j q : Nat} {x : PlS} (hj : L[j]? = some (q, x)) :
  (∃ f, x = .inl f ∧ FL[j]? = some f) ∨ (x = .inr d ∧ j = FL.length) := by
 have h1 : (L.map (·.2))[j]? = some x := by rw [List.getElem?_map, hj]; rfl
 rw [h.st] at h1
 by_cases hjl : j < FL.length
 ·rw [List.getElem?_append_left (by rw [List.length_map]; exact hjl), List.getElem?_map] at h1
  obtain ⟨f, hf, e⟩ := Option.map_eq_some_iff.1 h1
  exact .inl ⟨f, e.symm, hf⟩
 ·rw [List.getElem?_append_right (by rw [List.length_map]; omega), List.length_map] at h1
  have e0 : j - FL.length = 0 := by
   have := (List.getElem?_eq_some_iff.1 h1).1
   simpa using this
  rw [e0] at h1
  cases h1
  exact .inr ⟨rfl, by omega⟩
theorem PlQ.pick {S : SW plM.σ} (h : PlQ b s ls Ks S P G A k H F k0 FL d L) {j : Nat} (hj : j < Ks.length) :
  (∃ P' G' A' k' H' F' k0' FL' d' L', PlQ b s ls Ks (plM.pick S 0 j 0).1 P' G' A' k' H' F' k0' FL' d' L') ∧ (plM.goesAt S j = true → muS b s (plM.pick S 0 j 0).1 < muS b s S) ∧ muS b s (plM.pick S 0 j 0).1 ≤ muS b s S := by
 obtain ⟨⟨q, x⟩, hLj⟩ : ∃ x, L[j]? = some x := ⟨_, List.getElem?_eq_getElem (by have := h.key; rw [← this] at hj; simpa using hj)⟩
 have hat : S.acts[j]? = some ⟨some (q, x), false⟩ := by rw [h.acts]; exact actsQ_at hLj
 have hLx : (L.map (·.2))[j]? = some x := by rw [List.getElem?_map, hLj]; rfl
 have hbd := h.bd
 have hT : ln A ≤ 4611686018427387000 := by omega
 have hlen : (L.map (·.2)).length ≤ 6 := by
  rw [h.st]
  simp
  have := h.pw.fw.ll
  have := h.l5
  omega
 have idle : plM.live (q, x) = false → (∃ P' G' A' k' H' F' k0' FL' d' L', PlQ b s ls Ks (plM.pick S 0 j 0).1 P' G' A' k' H' F' k0' FL' d' L') ∧ (plM.goesAt S j = true → muS b s (plM.pick S 0 j 0).1 < muS b s S) ∧ muS b s (plM.pick S 0 j 0).1 ≤ muS b s S := fun hl => by
  obtain ⟨p1, p2, p3⟩ := pick_idle (M := plM) hat hl
  have e : muS b s (plM.pick S 0 j 0).1 = muS b s S := by unfold muS; rw [p1, p2]
  refine ⟨⟨P, G, A, k, H, F, k0, FL, d, L, p1.trans h.acts, h.st, h.key, by rw [p2]; exact h.pw, h.few, h.l5, h.s5, by rw [e]; exact h.bd⟩, fun hg => ?_, Nat.le_of_eq e⟩
  unfold Mac.goesAt at hg
  rw [hat] at hg
  have hg : (plM.live (q, x) && !false) = true := hg
  rw [hl] at hg
  cases hg
 -- what a live step leaves
 have fin : ∀ {x' : PlS} {P' G' A' k' H' F' k0' FL' d'}, plM.step (q, x) ((plM.want (q, x)).ans S.bs) = (q, x') → plM.live (q, x) = true → (plM.want (q, x)).err S.bs.length = 0 → (L.map (·.2)).set j x' = FL'.map Sum.inl ++ [Sum.inr d'] → PlayW b s ls ((plM.want (q, x)).out S.bs) P' G' A' k' H' F' k0' FL' d' → ln A' ≤ ln A + 8192 → muL 6 84 582 (ln A' : Nat) ((L.map (·.2)).set j x') < muL 6 84 582 (ln A : Nat) (L.map (·.2)) →
   (∃ P' G' A' k' H' F' k0' FL' d' L', PlQ b s ls Ks (plM.pick S 0 j 0).1 P' G' A' k' H' F' k0' FL' d' L') ∧ (plM.goesAt S j = true → muS b s (plM.pick S 0 j 0).1 < muS b s S) ∧ muS b s (plM.pick S 0 j 0).1 ≤ muS b s S := fun {x' P' G' A' k' H' F' k0' FL' d'} q1 q2 q3 q4 q5 q6 q7 => by
  obtain ⟨p1, p2, p3⟩ := pick_at (M := plM) hat q2 q3
  have hst : (L.set j (q, x')).map (·.2) = (L.map (·.2)).set j x' := by rw [List.map_set]
  have ha : (plM.pick S 0 j 0).1.acts = actsQ (σ := PlQS) (L.set j (q, x')) := by
   rw [p1, q1, h.acts]
   exact actsQ_set L j _
  have e : muS b s (plM.pick S 0 j 0).1 = muL 6 84 582 (ln A' : Nat) ((L.map (·.2)).set j x') := by
   unfold muS
   rw [ha, p2, q5.fw.inv.tail, show ((actsQ (σ := PlQS) (L.set j (q, x'))).filterMap Ac.m) = L.set j (q, x') from actsQ_ms _, hst]
  have hlt : muS b s (plM.pick S 0 j 0).1 < muS b s S := by rw [e, h.mu]; exact q7
  refine ⟨⟨P', G', A', k', H', F', k0', FL', d', L.set j (q, x'), ha, hst.trans q4, ((List.map_set ..).trans (set_same (by rw [List.getElem?_map, hLj]; rfl))).trans h.key, by rw [p2]; exact q5, h.few, h.l5, h.s5, by omega⟩, fun _ => hlt, Nat.le_of_lt hlt⟩
 rcases h.at_ hLj with ⟨⟨cur, t⟩, rfl, hf⟩ | ⟨rfl, hjl⟩
 ·cases cur with
  | none => exact idle rfl
  | some m =>
   obtain ⟨hlv, hne, ⟨l, hl, hle⟩, _⟩ := h.pw.fw.pickA hf
   have hB : ∀ x ∈ t.left, x.2.length ≤ 300 := fun x hx => h.few l (List.mem_of_getElem? hl) x (by rw [hle] at hx; exact List.mem_of_mem_drop hx)
   obtain ⟨herr, P', G', A', hpw, hln, hrem⟩ := h.pw.fil hf hT
   have hjl : j < FL.length := (List.getElem?_eq_some_iff.1 hf).1
   have hst : (L.map (·.2)).set j (Sum.inl (filNx (m.step (m.want.ans S.bs)) t)) = (FL.set j (filNx (m.step (m.want.ans S.bs)) t)).map Sum.inl ++ [Sum.inr d] := by
    rw [h.st, List.set_append_left _ _ (by rw [List.length_map]; exact hjl), List.map_set]
   have hfit := hpw.fw.inv.fit
   have hfit0 := h.pw.fw.inv.fit
   have hs5 := h.s5
   refine fin (x' := .inl (filNx (m.step (m.want.ans S.bs)) t)) rfl rfl herr hst hpw (by omega) ?_
   rcases hln with hln | ⟨t1, pad, e1, e2⟩
   ·rw [hln] at hrem ⊢
    refine muL_same 6 84 582 _ _ j _ _ hLx ?_
    exact muF_step (B := 300) (by decide) hne hB hrem (put_pre m hlv _) (fun _ => rfl)
   ·obtain ⟨c1, c2, c3⟩ := put_claimed e1 e2
    have h9 := muL_claim 6 84 582 (ln A : Nat) (ln A' : Nat) (L.map (·.2)) j _ (.inl (filNx (m.step (m.want.ans S.bs)) t)) hLx (by
     show muF 6 84 _ (filNx (m.step (m.want.ans S.bs)) t) + 6 * 6 < muF 6 84 _ (some m, t)
     unfold filNx
     rw [fil_sl _ _ t c3]
     show (m.step (m.want.ans S.bs)).rem (ln A' : Nat) + (if (m.step (m.want.ans S.bs)).pre = true then 6 * 6 else 0) + t.att * 84 + 6 * 6 < m.rem (ln A : Nat) + (if m.pre = true then 6 * 6 else 0) + t.att * 84
     rw [c1, c2, if_neg (by decide), if_pos rfl]
     omega)
    omega
 ·obtain ⟨cur, t⟩ := d
  cases cur with
  | none => exact idle rfl
  | some g =>
   obtain ⟨hgl, _⟩ := h.pw.cur g rfl
   have hs5 := h.s5
   obtain ⟨herr, k', H', F', k0', hpw, hmu⟩ := h.pw.dra hT (R := 582) (by omega)
   refine fin (x' := .inr (draC.step ((some g, t) : Option GetM × DraT) (g.want.ans S.bs))) rfl rfl herr ?_ hpw (by omega) ?_
   ·rw [h.st, List.set_append_right _ _ (by rw [List.length_map]; omega), List.length_map, hjl, Nat.sub_self]
    rfl
   ·exact muL_same 6 84 582 _ _ j _ _ hLx hmu
theorem PlQ.robin {S : SW plM.σ} (h : PlQ b s ls Ks S P G A k H F k0 FL d L) :
  ∃ P' G' A' k' H' F' k0' FL' d' L', PlQ b s ls Ks (plM.robin 200000 S).1 P' G' A' k' H' F' k0' FL' d' L' ∧ (∀ f ∈ FL', f.1 = none) ∧ d'.1 = none := by
 have hmu : (muS b s S : Int) ≤ 200000 := by have := h.bd; omega
 obtain ⟨⟨P', G', A', k', H', F', k0', FL', d', L', hP⟩, hend⟩ := robin_ends (M := plM) 200000 (fun S => ∃ P' G' A' k' H' F' k0' FL' d' L', PlQ b s ls Ks S P' G' A' k' H' F' k0' FL' d' L') (muS b s) (by
  rintro S i ⟨P', G', A', k', H', F', k0', FL', d', L', hP⟩ hg
  have hi : i < Ks.length := by
   rw [← hP.key, List.length_map]
   by_cases hi : i < L'.length
   ·exact hi
   ·have h2 : S.acts[i]? = none := by rw [hP.acts]; exact actsQ_none (List.getElem?_eq_none (by omega))
    unfold Mac.goesAt at hg
    rw [h2] at hg
    cases hg
  obtain ⟨h1, h2, _⟩ := hP.pick hi
  exact ⟨h1, h2 hg⟩) S ⟨P, G, A, k, H, F, k0, FL, d, L, h⟩ hmu
 have hlen : (plM.robin 200000 S).1.acts.length = L'.length := by rw [hP.acts]; exact actsQ_len L'
 have hx : ∀ x ∈ L', plM.live x = false := fun x hx => by
  obtain ⟨i, hi⟩ := List.getElem?_of_mem hx
  have hil := (List.getElem?_eq_some_iff.1 hi).1
  have hg := hend i (by omega)
  unfold Mac.goesAt at hg
  rw [show (plM.robin 200000 S).1.acts[i]? = some ⟨some x, false⟩ by rw [hP.acts]; exact actsQ_at hi] at hg
  have : (plM.live x && !false) = false := hg
  simpa using this
 refine ⟨P', G', A', k', H', F', k0', FL', d', L', hP, fun f hf => ?_, ?_⟩
 ·have h1 : (Sum.inl f : PlS) ∈ L'.map (·.2) := by rw [hP.st]; exact List.mem_append_left _ (List.mem_map.2 ⟨f, hf, rfl⟩)
  obtain ⟨y, hy, e⟩ := List.mem_map.1 h1
  obtain ⟨q, x⟩ := y
  have e : x = Sum.inl f := e
  subst e
  have := hx _ hy
  have this : f.1.isSome = false := this
  exact Option.not_isSome_iff_eq_none.1 (by rw [this]; decide)
 ·have h1 : (Sum.inr d' : PlS) ∈ L'.map (·.2) := by rw [hP.st]; exact List.mem_append_right _ (List.mem_singleton.2 rfl)
  obtain ⟨y, hy, e⟩ := List.mem_map.1 h1
  obtain ⟨q, x⟩ := y
  have e : x = Sum.inr d' := e
  subst e
  have := hx _ hy
  have this : d'.1.isSome = false := this
  exact Option.not_isSome_iff_eq_none.1 (by rw [this]; decide)
theorem FilW.whole {bs : List Int} (h : FilW b s ls bs P G A k H F FL) (hn : ∀ f ∈ FL, f.1 = none) : ∀ x ∈ A, x.1.fin = true := by
 refine h.inv.whole fun m hm => ?_
 obtain ⟨j, hj⟩ := List.getElem?_of_mem hm
 have hjl := (List.getElem?_eq_some_iff.1 hj).1
 obtain ⟨⟨i, n⟩, hg⟩ : ∃ g, G[j]? = some g := ⟨_, List.getElem?_eq_getElem (by have := h.gl; omega)⟩
 have hi : i < ls.length := h.tg _ (List.mem_of_getElem? hg)
 obtain ⟨f, hf⟩ : ∃ f, FL[i]? = some f := ⟨_, List.getElem?_eq_getElem (by have := h.ll; omega)⟩
 obtain ⟨l, hl⟩ := h.at_ hf
 obtain ⟨c, hr⟩ := h.rel i f l hf hl
 cases hlv : m.live with
 | false => rfl
 | true =>
  have h1 := (hr.live j n m hg hj hlv).2
  rw [hn f (List.mem_of_getElem? hf)] at h1
  cases h1
theorem Inv.drains (hfin : ∀ x ∈ A, x.1.fin = true) (hT : ln A ≤ 4611686018427387000) : ∀ (n : Nat) {t : DraT} {bs : List Int} {k H : Nat}, Inv b s bs P A k H [] → t.times = n → t.b = b → t.s = s → (⟨t.b, t.s, t.most⟩ : GetC).ok = true → 9 ≤ t.most →
  ∃ (N : Nat) (bs' : List Int) (t' : DraT) (k' H' : Nat), Runs draC.mac (DraT.mo t : Option GetM × DraT) bs N ((none, t') : Option GetM × DraT) bs' ∧ N ≤ n * (s + s / 8 + 6) ∧ k ≤ k' ∧ Inv b s bs' P A k' H' [] ∧ t'.out = t.out ++ msgs ((A.take k').drop k) ∧ (k' = A.length ∨ H + 8 * n ≤ H') := by
 intro n
 induction n with
 | zero =>
  intro t bs k H h ht hb hs hok hm
  refine ⟨0, bs, t, k, H, ?_, by omega, Nat.le_refl _, h, ?_, .inr (by omega)⟩
  ·rw [dra_mo0 (by omega)]
   exact .refl _ _
  ·rw [List.drop_take_self]
   exact (List.append_nil _).symm
 | succ n ih =>
  intro t bs k H h ht hb hs hok hm
  obtain ⟨c, hc⟩ : ∃ c : GetC, c = ⟨t.b, t.s, t.most⟩ := ⟨_, rfl⟩
  have hokc : c.ok = true := by rw [hc]; exact hok
  have hi : GetC.init c = ⟨c, .hd0, 0, 0, 0, [], false, 10⟩ := by unfold GetC.init; rw [hokc]; rfl
  have hso := h.so
  obtain ⟨m, bs1, k1, H1, g', e⟩ := get_ends (D := False) (A := A) (k0 := k) hT (GetM.rem (GetC.init c)) h (GRel.init1 (A := A) (k := k) (H := H) hokc (by rw [hc]; exact hb) (by rw [hc]; exact hs)) (Nat.le_refl _)
  obtain ⟨d1, d2, d3, d4⟩ := e.rel.done e.fin
  have hrem : GetM.rem (GetC.init c) = (c.s + c.s / 8).toNat + 6 := get_init_rem hokc
  have hcs : c.s = s := by rw [hc]; exact hs
  obtain ⟨t1, ht1⟩ : ∃ t1 : DraT, t1 = { t with times := t.times - 1 } := ⟨_, rfl⟩
  obtain ⟨t2, ht2⟩ : ∃ t2 : DraT, t2 = { t1 with out := t1.out ++ g'.out } := ⟨_, rfl⟩
  have hok2 : (⟨t2.b, t2.s, t2.most⟩ : GetC).ok = true := by rw [ht2, ht1]; exact hok
  obtain ⟨N, bs', t', k', H', q1, q2, q3, q4, q5, q6⟩ := ih (t := t2) e.inv (by rw [ht2, ht1]; show t.times - 1 = _; omega) (by rw [ht2, ht1]; exact hb) (by rw [ht2, ht1]; exact hs) hok2 (by rw [ht2, ht1]; exact hm)
  have hlv := get_init_live hokc
  have hcr := chain_runs draC (t := t1) (show Runs getMac _ _ _ _ _ from e.runs) hlv e.fin (fun m2 h => dra_sl _ m2 t1 h)
  have es : draC.settle (draC.fu t1) ((some g', t1) : Option GetM × DraT) = DraT.mo t2 := by
   have h9 := dra_sd (t1.times.toNat + 1) g' t1 e.fin
   rw [← ht2] at h9
   exact h9.trans (dra_stay t2 hok2 _)
  have hcr' : Runs draC.mac ((some (GetC.init c), t1) : Option GetM × DraT) bs m (DraT.mo t2) bs1 := by
   rw [← es]
   exact hcr
  refine ⟨m + N, bs', t', k', H', ?_, ?_, Nat.le_trans e.kk q3, q4, ?_, ?_⟩
  ·rw [dra_mo1 (by omega), ← ht1, ← hc]
   exact hcr'.trans q1
  ·have := e.few
   rw [Nat.add_mul]
   omega
  ·rw [q5, ht2, ht1]
   show t.out ++ g'.out ++ _ = _
   rw [d4, List.append_assoc, ← msgs_app]
   congr 2
   have h1 := List.take_append_drop (k1 - k) ((A.take k').drop k)
   rw [List.drop_drop, Nat.add_sub_cancel' e.kk, List.take_drop, List.take_take, Nat.add_sub_cancel' e.kk, Nat.min_eq_left q3] at h1
   exact h1
  ·have hw := e.why (by rw [hi]; rfl)
   have h8 := h.h8
   have h81 := e.inv.h8
   have hfk := h.fk
   have hfk1 := e.inv.fk
   rw [tot_nil, Nat.add_zero] at hfk hfk1
   have hle : H ≤ H1 := by
    have := ln_take_add A e.kk
    omega
   rcases Nat.lt_or_ge H H1 with hlt | hge
   ·rcases q6 with q | q
    ·exact .inl q
    ·exact .inr (by omega)
   ·left
    have hkl := q4.kl
    rcases hw with ⟨x, hx, q⟩ | q | ⟨q, q'⟩ | q
    ·rw [hfin x (List.mem_of_getElem? hx)] at q
     cases q
    ·omega
    ·omega
    ·exfalso
     have hcc : (GetC.init c).c = c := by rw [hi]
     rw [hcc, d4] at q
     have hm9 : c.most = t.most := by rw [hc]
     have hkk : k < k1 := by
      rcases Nat.lt_or_ge k k1 with h1 | h1
      ·exact h1
      ·have h2 : ((A.take k1).drop k) = [] := List.drop_eq_nil_of_le (by rw [List.length_take]; omega)
       rw [h2] at q
       have q : c.most ≤ 0 := q
       omega
     obtain ⟨x, hx⟩ : ∃ x, A[k]? = some x := ⟨_, List.getElem?_eq_getElem (by have := e.inv.kl; omega)⟩
     have := ln_mono h.ok hx hkk
     omega
end Go.Proofs.YtggjhleomocojaaGreat
