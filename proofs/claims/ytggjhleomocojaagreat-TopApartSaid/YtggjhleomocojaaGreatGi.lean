/- A get in memory: its closures. Conditions: as each says. -/
import Derived.Test.YtggjhleomocojaaGreatGo
import Derived.Test.YtggjhleomocojaaGreatKe
import Derived.Test.YtggjhleomocojaaGreatQb
namespace Go.Proofs.YtggjhleomocojaaGreat
set_option maxRecDepth 100000
open Go.RowKit
set_option linter.unusedVariables false
set_option linter.unusedSimpArgs false
theorem msinfo : (Tryz.prog.info? 34).map (fun i => (i.zero, i.size, i.bytes)) = some (some (.agg #[.int .i32 0, .slice none 0 0]), 2, 32) := by kernel_rfl
def msL (e : (Int × List Int) × Value) : List Value := [.int .i32 e.1.1, e.2]
structure MsIn (w : World) (O R : Nat → Prop) (ov : Value) (out : List (Int × List Int)) : Prop where
 ex : ∃ es : List ((Int × List Int) × Value), es.map (·.1) = out ∧ w.ownsRow 0 34 2 ov es.length (es.flatMap msL) ∧ ∀ e ∈ es, RdB w e.2 e.1.2 ∧ ∀ i, e.2.ownBlock = some i → O i
 rb : ∀ i, ov.ownBlock = some i → R i
variable {ov : Value} {out : List (Int × List Int)}
theorem MsIn.keep {w w' : World} {O R M : Nat → Prop} (h : MsIn w O R ov out) (k : Keep M w w') (hO : ∀ i, O i → ¬ M i) (hR : ∀ i, R i → ¬ M i) : MsIn w' O R ov out := by
 obtain ⟨⟨es, h1, h2, h3⟩, h4⟩ := h
 exact ⟨⟨es, h1, ownsRow_keep h2 k (fun i hi => hR i (h4 i hi)), fun e he => ⟨(h3 e he).1.keepP k (fun i hi => hO i ((h3 e he).2 i hi)), (h3 e he).2⟩⟩, h4⟩
variable {w : World}
theorem MsIn.mono {O O' R R' : Nat → Prop} (h : MsIn w O R ov out) (hO : ∀ i, O i → O' i) (hR : ∀ i, R i → R' i) : MsIn w O' R' ov out := by
 obtain ⟨⟨es, h1, h2, h3⟩, h4⟩ := h
 exact ⟨⟨es, h1, h2, fun e he => ⟨(h3 e he).1, fun i hi => hO i ((h3 e he).2 i hi)⟩⟩, fun i hi => hR i (h4 i hi)⟩
variable {O R : Nat → Prop}
theorem MsIn.sl (h : MsIn w O R ov out) : ∃ a c, ov = .slice a out.length c := by
 obtain ⟨⟨es, rfl, ⟨_, h2⟩, _⟩, _⟩ := h
 rcases h2 with ⟨rfl, h0⟩ | ⟨g, cap, cur, rfl, _⟩
 ·exact ⟨none, 0, by rw [List.length_map, h0]⟩
 ·exact ⟨_, _, by rw [List.length_map]⟩
def GetM.rest (m : GetM) (ov : Value) : List Value := [.int .i64 m.c.b, .int .i64 m.c.s, .int .i64 m.c.most, .int .u64 m.hd, .int .i64 m.first, .int .i64 m.dn, ov, .bool m.odd, .int .i64 m.e]
variable {q : Nat} {m : GetM}
theorem get_cells {c : Acc} {t ov : Value} (h : Mch w q c t (m.rest ov)) :
  w.cell? ⟨q, 7, none⟩ = some (.int .i64 m.c.b) ∧ w.cell? ⟨q, 8, none⟩ = some (.int .i64 m.c.s) ∧ w.cell? ⟨q, 9, none⟩ = some (.int .i64 m.c.most) ∧ w.cell? ⟨q, 10, none⟩ = some (.int .u64 m.hd) ∧ w.cell? ⟨q, 11, none⟩ = some (.int .i64 m.first) ∧ w.cell? ⟨q, 12, none⟩ = some (.int .i64 m.dn) ∧ w.cell? ⟨q, 13, none⟩ = some ov ∧ w.cell? ⟨q, 14, none⟩ = some (.bool m.odd) ∧ w.cell? ⟨q, 15, none⟩ = some (.int .i64 m.e) :=
 ⟨Blk.cell h 7, Blk.cell h 8, Blk.cell h 9, Blk.cell h 10, Blk.cell h 11, Blk.cell h 12, Blk.cell h 13, Blk.cell h 14, Blk.cell h 15⟩
def GClo (w : World) (O : Nat → Prop) (q : Nat) (m : GetM) (t : Value) : Prop :=
 match m.pc with
 | .done => t = .nilFunc
 | .hd0 => ∃ rb pb, Clo w O t 73 [.func (.func 64) #[] #[ptr rb, ptr pb]] ∧ Blk w rb [.int .i64 m.c.b, .int .i64 m.c.s] ∧ Blk w pb [ptr q] ∧ O rb ∧ O pb
 | .rc => ∃ v1, Clo w O t 73 [v1] ∧ Clo w O v1 96 [ptr q, .int .i64 m.at]
 | .st => Clo w O t 107 [.func (.func 126) #[ptr q] #[]]
 | _ => False
def GetAt (w : World) (O R : Nat → Prop) (q : Nat) (m : GetM) (ov : Value) : Prop :=
 match m.pc with
 | .rd sz typ p n hv => ∃ t hvv fv, Mch w q m.want.acc t (m.rest ov) ∧ OuK w O t q p (min n 8) n hvv fv ∧ OwB 5 0 w hvv hv ∧ (∀ i, hvv.ownBlock = some i → R i) ∧ Clo w O fv 130 [ptr q, .int .i32 typ, .int .i64 sz]
 | .zr p k => ∃ f0, InSt w O q p (List.replicate k.toNat 0) f0 (m.rest ov) ∧ Clo w O f0 128 [ptr q]
 | _ => ∃ t, Mch w q m.want.acc t (m.rest ov) ∧ GClo w O q m t
theorem GClo.keep {w w' : World} {O M : Nat → Prop} {t : Value} (h : GClo w O q m t) (k : Keep M w w') (hd : ∀ i, O i → ¬ M i) : GClo w' O q m t := by
 unfold GClo at h ⊢
 split at h
 ·exact h
 ·obtain ⟨rb, pb, h1, h2, h3, h4, h5⟩ := h
  exact ⟨rb, pb, h1.keep k hd, h2.keep k (hd _ h4), h3.keep k (hd _ h5), h4, h5⟩
 ·obtain ⟨v1, h1, h2⟩ := h
  exact ⟨v1, h1.keep k hd, h2.keep k hd⟩
 ·exact h.keep k hd
 ·exact h
theorem GetAt.keep {w w' : World} {O R M : Nat → Prop} (h : GetAt w O R q m ov) (k : Keep M w w') (hd : ∀ i, O i → ¬ M i) (hr : ∀ i, R i → ¬ M i) (hq : ¬ M q) : GetAt w' O R q m ov := by
 unfold GetAt at h ⊢
 split at h
 ·obtain ⟨t, hvv, fv, h1, h2, h3, h4, h5⟩ := h
  exact ⟨t, hvv, fv, Blk.keep h1 k hq, h2.keep k hd, ownsRow_keep h3 k (fun i hi => hr i (h4 i hi)), h4, h5.keep k hd⟩
 ·obtain ⟨f0, h1, h2⟩ := h
  exact ⟨f0, h1.keep k hd hq, h2.keep k hd⟩
 ·obtain ⟨t, h1, h2⟩ := h
  exact ⟨t, Blk.keep h1 k hq, h2.keep k hd⟩
theorem GetAt.mch (h : GetAt w O R q m ov) : ∃ c t, Mch w q c t (m.rest ov) := by
 unfold GetAt at h
 split at h
 ·obtain ⟨t, hvv, fv, h1, _⟩ := h
  exact ⟨_, _, h1⟩
 ·obtain ⟨f0, ⟨b, off, cap, n, t, hm, _⟩, _⟩ := h
  exact ⟨_, _, hm⟩
 ·obtain ⟨t, h1, _⟩ := h
  exact ⟨_, _, h1⟩
structure GetW (w : World) (O R : Nat → Prop) (q : Nat) (m : GetM) (ov : Value) : Prop where
 mch : Mch w q accZ .nilFunc (m.rest ov)
 ms : MsIn w O R ov m.out
 nqo : ¬ O q
 nqr : ¬ R q
 dj : ∀ i, O i → ¬ R i
 lo : ∀ i, O i ∨ R i → i < w.heap.size
 ok : m.c.ok = true
structure GetI (w : World) (O R : Nat → Prop) (q : Nat) (m : GetM) (ov : Value) : Prop where
 at_ : GetAt w O R q m ov
 ms : MsIn w O R ov m.out
 nqo : ¬ O q
 nqr : ¬ R q
 dj : ∀ i, O i → ¬ R i
 lo : ∀ i, O i ∨ R i → i < w.heap.size
def GetTo (w : World) (O R : Nat → Prop) (q : Nat) (m : GetM) (w' : World) : Prop := ∃ O' R' ov', GetI w' O' R' q m ov' ∧ (∀ i, O' i ∨ R' i → O i ∨ R i ∨ w.heap.size ≤ i) ∧ Keep (fun i => i = q ∨ R i) w w'
theorem GetTo.from {w w1 w' : World} {O O1 R R1 : Nat → Prop} (h : GetTo w1 O1 R1 q m w') (k : Keep (fun i => i = q ∨ R i) w w1) (hO : ∀ i, O1 i → O i ∨ R i ∨ w.heap.size ≤ i) (hR : ∀ i, R1 i → R i ∨ w.heap.size ≤ i) : GetTo w O R q m w' := by
 obtain ⟨O', R', ov', hI, hs, k'⟩ := h
 refine ⟨O', R', ov', hI, fun i hi => ?_, k.then k' (fun i hi h => ?_)⟩
 ·rcases hs i hi with h | h | h
  ·exact hO i h
  ·rcases hR i h with h | h
   ·exact .inr (.inl h)
   ·exact .inr (.inr h)
  ·exact .inr (.inr (Nat.le_trans k.size h))
 ·rcases h with h | h
  ·exact .inl h
  ·rcases hR i h with h | h
   ·exact .inr h
   ·omega
theorem GetTo.after {w w1 w' : World} (h : GetTo w1 O R q m w') (k : Keep (fun i => i = q ∨ R i) w w1) : GetTo w O R q m w' := h.from k (fun i hi => .inl hi) (fun i hi => .inl hi)
theorem GetW.lt (h : GetW w O R q m ov) : q < w.heap.size := Blk.lt h.mch
theorem GetW.keep {w w' : World} {O R M : Nat → Prop} (h : GetW w O R q m ov) (k : Keep M w w') (hd : ∀ i, O i → ¬ M i) (hr : ∀ i, R i → ¬ M i) (hq : ¬ M q) : GetW w' O R q m ov :=
 ⟨Blk.keep h.mch k hq, h.ms.keep k hd hr, h.nqo, h.nqr, h.dj, fun i hi => Nat.lt_of_lt_of_le (h.lo i hi) k.size, h.ok⟩
theorem GetW.below {w w' : World} (h : GetW w O R q m ov) (b : Below w.heap.size w w') : GetW w' O R q m ov := h.keep (M := fun _ => False) (Below.keeps b) (fun _ _ => id) (fun _ _ => id) id
theorem GetW.drew (h : GetW w O R q m ov) : GetW w.drew O R q m ov := h.below (bel_drewN 1 (Below.refl _ _))
theorem GetW.mono {O O' R : Nat → Prop} (h : GetW w O R q m ov) (hd : ∀ i, O i → O' i) (nq : ¬ O' q) (dj : ∀ i, O' i → ¬ R i) (lo : ∀ i, O' i → i < w.heap.size) : GetW w O' R q m ov :=
 ⟨h.mch, h.ms.mono hd (fun _ => id), nq, h.nqr, dj, fun i hi => hi.elim (lo i) (fun h' => h.lo i (.inr h')), h.ok⟩
theorem GetW.put {m m' : GetM} (h : GetW w O R q m ov) (i : Nat) (u : Value) (hc : m'.c = m.c) (ho : m'.out = m.out) (hm : (accZ.cs ++ Value.nilFunc :: m.rest ov).set i u = accZ.cs ++ Value.nilFunc :: m'.rest ov) : GetW (w.setCell ⟨q, i, none⟩ u) O R q m' ov := by
 have k : Keep (· = q) w (w.setCell ⟨q, i, none⟩ u) := Keep.setCell (M := (· = q)) (Keep.refl _ w) (p := ⟨q, i, none⟩) (.inl rfl) _
 refine ⟨?_, ?_, h.nqo, h.nqr, h.dj, fun j hj => Nat.lt_of_lt_of_le (h.lo j hj) k.size, by rw [hc]; exact h.ok⟩
 ·have := Blk.set h.mch i u
  rw [hm] at this
  exact this
 ·rw [ho]
  exact h.ms.keep k (fun j hj e => h.nqo (e ▸ hj)) (fun j hj e => h.nqr (e ▸ hj))
theorem GetW.bd (h : GetW w O R q m ov) :
  (m.c.s = 64 ∨ m.c.s = 128 ∨ m.c.s = 256 ∨ m.c.s = 512 ∨ m.c.s = 1024 ∨ m.c.s = 2048 ∨ m.c.s = 4096 ∨ m.c.s = 8192) ∧ isP m.c.s = true ∧ 64 ≤ m.c.s ∧ m.c.s ≤ 8192 ∧ 0 ≤ m.c.b ∧ m.c.b ≤ 131040 - m.c.s ∧ 1 ≤ m.c.most := by
 have := h.ok
 unfold GetC.ok at this
 simp at this
 obtain ⟨a1, a2, a3, a4, a5, a6⟩ := rgOk_bd this.1
 exact ⟨rg_pow a1 a2 a3, a1, a2, a3, a4, a6, this.2⟩
structure GetM.bas (m : GetM) : Prop where
 hd : inU m.hd
 f0 : 0 ≤ m.first
 f1 : m.first < m.c.s
 d0 : 0 ≤ m.dn
 d1 : m.first + m.dn ≤ m.c.s
 l8 : 8 * (m.out.length : Int) ≤ m.dn
theorem GetTo.simple {w w' : World} {O R O' : Nat → Prop} {m m' : GetM} {ov t : Value} (h : GetW w O R q m ov) (k : Keep (· = q) w w') (hpc : (∀ sz typ p n hv, m'.pc ≠ .rd sz typ p n hv) ∧ ∀ p n, m'.pc ≠ .zr p n) (hm : Mch w' q m'.want.acc t (m'.rest ov)) (ho : m'.out = m.out) (hc : GClo w' (fun i => O i ∨ O' i) q m' t) (hO' : ∀ i, O' i → w.heap.size ≤ i ∧ i < w'.heap.size) : GetTo w O R q m' w' := by
 have hlt := h.lt
 refine ⟨fun i => O i ∨ O' i, R, ov, ⟨?_, ?_, ?_, h.nqr, ?_, ?_⟩, ?_, k.mono (fun i _ e => .inl e)⟩
 ·unfold GetAt
  split
  ·rename_i e
   exact absurd e (hpc.1 _ _ _ _ _)
  ·rename_i e
   exact absurd e (hpc.2 _ _)
  ·exact ⟨t, hm, hc⟩
 ·rw [ho]
  exact (h.ms.keep k (fun j hj e => h.nqo (e ▸ hj)) (fun j hj e => h.nqr (e ▸ hj))).mono (fun i hi => .inl hi) (fun _ => id)
 ·rintro (h1 | h1)
  ·exact h.nqo h1
  ·have := hO' _ h1
   omega
 ·rintro i (h1 | h1) h2
  ·exact h.dj i h1 h2
  ·have := hO' _ h1
   have := h.lo i (.inr h2)
   omega
 ·rintro i ((h1 | h1) | h1)
  ·exact Nat.lt_of_lt_of_le (h.lo i (.inl h1)) k.size
  ·exact (hO' _ h1).2
  ·exact Nat.lt_of_lt_of_le (h.lo i (.inr h1)) k.size
 ·rintro i ((h1 | h1) | h1)
  ·exact .inl h1
  ·exact .inr (.inr (hO' _ h1).1)
  ·exact .inr (.inl h1)
set_option maxHeartbeats 1000000 in
theorem gStop_any (w : World) (h : GetW w O R q m ov) :
  Calls Tryz.prog 126 #[.pointer (some ⟨q, 0, none⟩)] w fun e w' => e = .returned (.tuple #[]) ∧ GetTo w O R q m.stop w' := by
 have hlt := h.lt
 have H := Lib.hid h
 have c14 := Blk.cell h.mch 14
 have c15 := Blk.cell h.mch 15
 have f15 := Blk.frozen h.mch 15
 have e14 : (accZ.cs ++ Value.nilFunc :: m.rest ov)[14]? = some (.bool m.odd) := rfl
 rw [e14] at c14
 cases ho : m.odd with
 | true =>
  have HS := Lib.hid (show m.stop = { m with pc := .done, e := 13 } by unfold GetM.stop; rw [ho]; rfl)
  rw [ho] at c14
  clear h e14
  go_enter Tryz.func126, Tryz.ntmps126
  go_wp2
  go_end0
  refine ⟨rfl, ?_⟩
  rw [HS.out]
  have k1 : Keep (· = q) w (w.setCell ⟨q, 15, none⟩ (.int .i64 0)) := Keep.setCell (M := (· = q)) (Keep.refl _ w) (p := ⟨q, 15, none⟩) (.inl rfl) _
  have h1 := H.out.put (m' := { m with e := 0 }) 15 (.int .i64 0) rfl rfl rfl
  have h2 := h1.put (m' := { m with e := 13 }) 15 (.int .i64 13) rfl rfl rfl
  exact GetTo.simple (O' := fun _ => False) H.out (k1.setCell (p := ⟨q, 15, none⟩) (.inl rfl) _) ⟨nofun, nofun⟩ h2.mch rfl rfl (fun i hi => hi.elim)
 | false =>
  have HS := Lib.hid (show m.stop = { m with pc := .done, e := 0 } by unfold GetM.stop; rw [ho]; rfl)
  rw [ho] at c14
  clear h e14
  go_enter Tryz.func126, Tryz.ntmps126
  go_wp2
  go_end0
  refine ⟨rfl, ?_⟩
  rw [HS.out]
  have k1 : Keep (· = q) w (w.setCell ⟨q, 15, none⟩ (.int .i64 0)) := Keep.setCell (M := (· = q)) (Keep.refl _ w) (p := ⟨q, 15, none⟩) (.inl rfl) _
  have h1 := H.out.put (m' := { m with e := 0 }) 15 (.int .i64 0) rfl rfl rfl
  exact GetTo.simple (O' := fun _ => False) H.out k1 ⟨nofun, nofun⟩ h1.mch rfl rfl (fun i hi => hi.elim)
set_option maxHeartbeats 1000000 in
theorem gLeft_any (w : World) (h : GetW w O R q m ov) (hb : m.bas) :
  Calls Tryz.prog 94 #[.pointer (some ⟨q, 0, none⟩)] w fun e w' => e = .returned (.int .i64 m.left) ∧ Below w.heap.size w w' := by
 obtain ⟨b0, b1, b2, b3, b4, b5, b6⟩ := h.bd
 obtain ⟨g1, g2, g3, g4, g5, g6⟩ := hb
 have hlt := h.lt
 obtain ⟨c7, c8, c9, c10, c11, c12, c13, c14, c15⟩ := get_cells h.mch
 have W1 : IntKind.i64.wrap (m.c.s - m.first) = m.c.s - m.first := IntWalk.i64_in _ ⟨by omega, by omega⟩
 have W2 : IntKind.i64.wrap (m.c.s - m.first - m.dn) = m.c.s - m.first - m.dn := IntWalk.i64_in _ ⟨by omega, by omega⟩
 have HL := Lib.hid (show m.left = m.c.s - m.first - m.dn from rfl)
 clear h b0 b1
 go_enter Tryz.func94, Tryz.ntmps94
 go_wp2
 go_quiet (fail)
 go_wp2
 go_ret
 exact ⟨by rw [HL.out]; rfl, bel_drewN _ (Below.refl _ _)⟩
set_option maxHeartbeats 2000000 in
theorem gZero_any (w : World) (h : GetW w O R q m ov) (hb : m.bas) :
  Calls Tryz.prog 95 #[.pointer (some ⟨q, 0, none⟩)] w fun e w' => e = .returned (.tuple #[]) ∧ GetTo w O R q m.zero w' := by
 obtain ⟨b0, b1, b2, b3, b4, b5, b6⟩ := h.bd
 obtain ⟨g1, g2, g3, g4, g5, g6⟩ := hb
 have hlt := h.lt
 have H := Lib.hid h
 obtain ⟨w1, hw1⟩ : ∃ w1, w1 = w.alloc (.cells #[.pointer (some ⟨q, 0, none⟩)] 95) := ⟨_, rfl⟩
 have X1 := Lib.hid (show Blk w1 w.heap.size [.pointer (some ⟨q, 0, none⟩)] by rw [hw1]; exact Blk.made w _ _)
 have B1 := Lib.hid (show Below w.heap.size w w1 by rw [hw1]; go_grown)
 have z1 : w1.heap.size = w.heap.size + 1 := by rw [hw1]; simp
 have H1 := Lib.hid (H.out.below B1.out)
 obtain ⟨c7, c8, c9, c10, c11, c12, c13, c14, c15⟩ := get_cells H1.out.mch
 have hlt1 := H1.out.lt
 have p0 := X1.out.cell 0
 have lx := X1.out.lt
 simp only [List.getElem?_cons_zero] at p0
 have W1 : IntKind.i64.wrap (m.c.b + m.first) = m.c.b + m.first := IntWalk.i64_in _ ⟨by omega, by omega⟩
 clear h b0 b1
 go_enter Tryz.func95, Tryz.ntmps95
 go_upto_region 1 with fail
 rw [← hw1]
 clear hw1
 by_cases hd : m.dn = 0
 ·have HZ := Lib.hid (show m.zero = m.stop from if_pos hd)
  rw [hd] at c12
  go_wp2_with fail
  refine (gStop_any _ H1.out).mono ?_
  rintro e w5 ⟨rfl, hto⟩
  go_wp2
  refine bodyPost_ret (v := .tuple #[]) (results_none rfl _ _ _) rfl ⟨rfl, ?_⟩
  rw [HZ.out]
  exact hto.after (Below.keeps B1.out)
 ·have HZ := Lib.hid (show m.zero = { m with pc := .zr (m.c.b + m.first) m.dn } from if_neg hd)
  obtain ⟨k, hk⟩ : ∃ k : Nat, m.dn = k := ⟨m.dn.toNat, by omega⟩
  have HK := Lib.hid hk
  have hk0 : ¬ (k : Int) = 0 := by omega
  rw [hk] at c12
  have hkb : k ≤ 8192 := by omega
  clear hk hd
  go_wp2_with fail
  go_region_held3 (fun w' => w'.cell? ⟨w.heap.size, 0, none⟩ = some (.pointer (some ⟨q, 0, none⟩)) ∧ w'.cell? ⟨q, 7, none⟩ = some (.int .i64 m.c.b) ∧ w'.cell? ⟨q, 11, none⟩ = some (.int .i64 m.first) ∧ w'.cell? ⟨q, 12, none⟩ = some (.int .i64 k)) (first | go_keep | trivial)
   (first
    | (go_at_call 127; refine (cZero_st q _ _ _ (m.c.b + m.first) k _ _ _ (H1.out.drew).mch (by omega) (by omega)).mono ?_; rintro e w5 ⟨rfl, hin, k5⟩; have hd0 := fun o => k5.cell (b := w.heap.size) o (by simp; omega) (by show ¬ w.heap.size = q; omega); obtain ⟨_, _, _, _, _, hmm, _⟩ := id hin; obtain ⟨e7, _, _, _, e11, e12, _⟩ := get_cells hmm; rw [HK.out] at e12))
  all_goals
   clear hd0 e7 e11 e12 hmm
   have z5 := k5.size
   simp at z5
   go_wp2
   go_end0
   refine ⟨rfl, ?_⟩
   rw [HZ.out]
   have k5' : Keep (· = q) w w5 := ((Below.keeps B1.out).drew).trans k5
   have HH := H.out
   refine ⟨fun i => O i ∨ (w.heap.size ≤ i ∧ i < w5.heap.size), R, ov, ⟨⟨_, ?_, Clo.mk1 (b := w.heap.size) ?_ ?_⟩, ?_, ?_, HH.nqr, ?_, ?_⟩, ?_, k5'.mono (fun i _ e => .inl e)⟩
   ·have hkk : m.dn.toNat = k := by have := HK.out; omega
    rw [hkk]
    exact hin.mono (fun i hi => .inr ⟨by have := hi.1; simp at this; omega, hi.2⟩)
   ·exact (X1.out.drew).keep k5 (by show ¬ w.heap.size = q; omega)
   ·exact .inr ⟨Nat.le_refl _, by omega⟩
   ·exact (HH.ms.keep k5' (fun j hj e => HH.nqo (e ▸ hj)) (fun j hj e => HH.nqr (e ▸ hj))).mono (fun i hi => .inl hi) (fun _ => id)
   ·rintro (h1 | h1)
    ·exact HH.nqo h1
    ·omega
   ·rintro i (h1 | h1) h2
    ·exact HH.dj i h1 h2
    ·have := HH.lo i (.inr h2)
     omega
   ·rintro i ((h1 | h1) | h1)
    ·exact Nat.lt_of_lt_of_le (HH.lo i (.inl h1)) k5'.size
    ·exact h1.2
    ·exact Nat.lt_of_lt_of_le (HH.lo i (.inr h1)) k5'.size
   ·rintro i ((h1 | h1) | h1)
    ·exact .inl h1
    ·exact .inr (.inr h1.1)
    ·exact .inr (.inl h1)
set_option maxHeartbeats 4000000 in
theorem gRecord_any (w : World) (h : GetW w O R q m ov) (hb : m.bas) :
  Calls Tryz.prog 65 #[.pointer (some ⟨q, 0, none⟩)] w fun e w' => e = .returned (.tuple #[]) ∧ GetTo w O R q m.record w' := by
 obtain ⟨b0, b1, b2, b3, b4, b5, b6⟩ := h.bd
 obtain ⟨g1, g2, g3, g4, g5, g6⟩ := id hb
 have hlt := h.lt
 have H := Lib.hid h
 have HB := Lib.hid hb
 obtain ⟨oa, oc, rfl⟩ := h.ms.sl
 obtain ⟨w1, hw1⟩ : ∃ w1, w1 = w.alloc (.cells #[.pointer (some ⟨q, 0, none⟩)] 95) := ⟨_, rfl⟩
 have X1 := Lib.hid (show Blk w1 w.heap.size [.pointer (some ⟨q, 0, none⟩)] by rw [hw1]; exact Blk.made w _ _)
 have B1 := Lib.hid (show Below w.heap.size w w1 by rw [hw1]; go_grown)
 have z1 : w1.heap.size = w.heap.size + 1 := by rw [hw1]; simp
 have H1 := Lib.hid (H.out.below B1.out)
 obtain ⟨c7, c8, c9, c10, c11, c12, c13, c14, c15⟩ := get_cells H1.out.mch
 have hlt1 := H1.out.lt
 have p0 := X1.out.cell 0
 have lx := X1.out.lt
 simp only [List.getElem?_cons_zero] at p0
 have W1 : IntKind.i64.wrap (m.c.b + m.first) = m.c.b + m.first := IntWalk.i64_in _ ⟨by omega, by omega⟩
 have W2 : IntKind.i64.wrap (m.c.b + m.first + m.dn) = m.c.b + m.first + m.dn := IntWalk.i64_in _ ⟨by omega, by omega⟩
 have HA := Lib.hid (show m.at = m.c.b + m.first + m.dn from rfl)
 clear h b0 b1 hb
 go_enter Tryz.func65, Tryz.ntmps65
 go_upto_region 1 with fail
 rw [← hw1]
 clear hw1
 by_cases hm : m.c.most ≤ (m.out.length : Int)
 ·have HR := Lib.hid (show m.record = m.zero from if_pos (.inl hm))
  refine wp_region_held_drew (S := (fun w' => w'.cell? ⟨w.heap.size, 0, none⟩ = some (.pointer (some ⟨q, 0, none⟩)) ∧ w'.cell? ⟨q, 13, none⟩ = some (.slice oa m.out.length oc) ∧ w'.cell? ⟨q, 9, none⟩ = some (.int .i64 m.c.most))) (by kernel_rfl) ?_ (fun hHeld => ?_)
  ·try dsimp only
   go_keep
  refine wpT 0 rfl ?_
  try simp only [Act.put, tS]
  refine wpT 1 rfl ?_
  try simp only [Act.put, tS]
  refine wpT 2 rfl ?_
  try simp only [Act.put, tS]
  refine wpT 3 rfl ?_
  try simp only [Act.put, tS]
  refine wpT 4 rfl ?_
  try simp only [Act.put, tS]
  refine wpT 5 rfl ?_
  try simp only [Act.put, tS]
  refine wpT 6 rfl ?_
  try simp only [Act.put, tS]
  refine wpT 7 rfl ?_
  try simp only [Act.put, tS]
  refine wpT 8 rfl ?_
  try simp only [Act.put, tS]
  refine wpT 9 rfl ?_
  try simp only [Act.put, tS]
  refine wpT 10 rfl ?_
  try simp only [Act.put, tS]
  refine wpAnyH_take (i := 11) (v := undef) rfl (by kernel_rfl) (by kernel_rfl) (by kernel_rfl) (fun _ _ _ h => h) (Or.inr ⟨by rfl, rfl⟩) (by assumption) ?_
  simp only [Act.put, tS]
  refine wpAnyH_take (i := 12) (v := undef) rfl (by kernel_rfl) (by kernel_rfl) (by kernel_rfl) (fun _ _ _ h => h) (Or.inr ⟨by rfl, rfl⟩) (by assumption) ?_
  simp only [Act.put, tS]
  refine wpAnyH_take (i := 13) (v := undef) rfl (by kernel_rfl) (by kernel_rfl) (by kernel_rfl) (fun _ _ _ h => h) (Or.inr ⟨by rfl, rfl⟩) (by assumption) ?_
  simp only [Act.put, tS]
  refine wpT 14 rfl ?_
  try simp only [Act.put, tS]
  refine wpAnyH_done (by kernel_rfl) ?_ _
  clear hHeld
  obtain ⟨w2, hw2⟩ : ∃ w2, w2 = w1.drew := ⟨_, rfl⟩
  rw [← hw2]
  have b02 : Below w1.heap.size w1 w2 := by rw [hw2]; exact bel_drewN 1 (Below.refl _ _)
  have H2 := Lib.hid (H1.out.below b02)
  have X2 := Lib.hid (X1.out.below b02 lx)
  have B2 := Lib.hid (B1.out.trans (b02.mono (by omega)))
  have z2 := b02.size
  obtain ⟨c7, c8, c9, c10, c11, c12, c13, c14, c15⟩ := get_cells H2.out.mch
  have hlt2 := H2.out.lt
  have p0 := X2.out.cell 0
  have lx2 := X2.out.lt
  simp only [List.getElem?_cons_zero] at p0
  clear b02
  clear hw2
  go_wp2_with fail
  refine (gZero_any w2 H2.out HB.out).mono ?_
  rintro e w5 ⟨rfl, hto⟩
  go_wp2
  refine bodyPost_ret (v := .tuple #[]) (results_none rfl _ _ _) rfl ⟨rfl, ?_⟩
  rw [HR.out]
  exact hto.after (Below.keeps B2.out)
 ·have hm' : (m.out.length : Int) < m.c.most := by omega
  refine wp_region_held_drew (S := (fun w' => w'.cell? ⟨w.heap.size, 0, none⟩ = some (.pointer (some ⟨q, 0, none⟩)) ∧ w'.cell? ⟨q, 13, none⟩ = some (.slice oa m.out.length oc) ∧ w'.cell? ⟨q, 9, none⟩ = some (.int .i64 m.c.most))) (by kernel_rfl) ?_ (fun hHeld => ?_)
  ·try dsimp only
   go_keep
  refine wpT 0 rfl ?_
  try simp only [Act.put, tS]
  refine wpT 1 rfl ?_
  try simp only [Act.put, tS]
  refine wpT 2 rfl ?_
  try simp only [Act.put, tS]
  refine wpT 3 rfl ?_
  try simp only [Act.put, tS]
  refine wpT 4 rfl ?_
  try simp only [Act.put, tS]
  refine wpT 5 rfl ?_
  try simp only [Act.put, tS]
  refine wpT 6 rfl ?_
  try simp only [Act.put, tS]
  refine wpT 7 rfl ?_
  try simp only [Act.put, tS]
  refine wpT 8 rfl ?_
  try simp only [Act.put, tS]
  refine wpT 9 rfl ?_
  try simp only [Act.put, tS]
  refine wpT 10 rfl ?_
  try simp only [Act.put, tS]
  refine wpT 11 rfl ?_
  try simp only [Act.put, tS]
  refine wpR 12 rfl fun K hK => ?_
  go_simp
  go_at_call 94
  refine (gLeft_any _ (H1.out.below (bel_drewN 1 (Below.refl _ _))) HB.out).mono ?_
  rintro e w2 ⟨rfl, b2⟩
  have hd0 := fun o => b2.cell (p := ⟨w.heap.size, o, none⟩) (by simp; omega)
  have hdq := fun o => b2.cell (p := ⟨q, o, none⟩) (by simp; omega)
  go_wp2_with fail
  refine hK.out _ _ ?_ (fun hHeld => ?_)
  ·try dsimp only
   go_keep
  clear hK K
  try simp only [Act.put, tS]
  refine wpT 13 rfl ?_
  try simp only [Act.put, tS]
  refine wpT 14 rfl ?_
  try simp only [Act.put, tS]
  refine wpAnyH_done (by kernel_rfl) ?_ _
  clear hHeld hd0 hdq
  have z2 := b2.size
  simp at z2
  have b02 : Below w1.heap.size w1 w2 := bel_drewP b2
  have H2 := Lib.hid (H1.out.below b02)
  have X2 := Lib.hid (X1.out.below b02 lx)
  have B2 := Lib.hid (B1.out.trans (b02.mono (by omega)))
  have z2 := b02.size
  obtain ⟨c7, c8, c9, c10, c11, c12, c13, c14, c15⟩ := get_cells H2.out.mch
  have hlt2 := H2.out.lt
  have p0 := X2.out.cell 0
  have lx2 := X2.out.lt
  simp only [List.getElem?_cons_zero] at p0
  clear b02
  clear b2
  by_cases hl : m.left ≤ 0
  ·have HR := Lib.hid (show m.record = m.zero from if_pos (.inr hl))
   go_wp2_with fail
   refine (gZero_any w2 H2.out HB.out).mono ?_
   rintro e w5 ⟨rfl, hto⟩
   go_wp2
   refine bodyPost_ret (v := .tuple #[]) (results_none rfl _ _ _) rfl ⟨rfl, ?_⟩
   rw [HR.out]
   exact hto.after (Below.keeps B2.out)
  ·have HR := Lib.hid (show m.record = { m with pc := .rc } from if_neg (by omega))
   go_wp2_with fail
   refine wp_region_held_drew (S := (fun w' => w'.cell? ⟨w.heap.size, 0, none⟩ = some (.pointer (some ⟨q, 0, none⟩)) ∧ w'.cell? ⟨q, 7, none⟩ = some (.int .i64 m.c.b) ∧ w'.cell? ⟨q, 11, none⟩ = some (.int .i64 m.first) ∧ w'.cell? ⟨q, 12, none⟩ = some (.int .i64 m.dn))) (by kernel_rfl) ?_ (fun hHeld => ?_)
   ·try dsimp only
    go_keep
   refine wpT 0 rfl ?_
   try simp only [Act.put, tS]
   refine wpT 1 rfl ?_
   try simp only [Act.put, tS]
   refine wpT 2 rfl ?_
   try simp only [Act.put, tS]
   refine wpT 3 rfl ?_
   try simp only [Act.put, tS]
   refine wpT 4 rfl ?_
   try simp only [Act.put, tS]
   refine wpT 5 rfl ?_
   try simp only [Act.put, tS]
   refine wpT 6 rfl ?_
   try simp only [Act.put, tS]
   refine wpT 7 rfl ?_
   try simp only [Act.put, tS]
   refine wpT 8 rfl ?_
   try simp only [Act.put, tS]
   refine wpT 9 rfl ?_
   try simp only [Act.put, tS]
   refine wpT 10 rfl ?_
   try simp only [Act.put, tS]
   refine wpT 11 rfl ?_
   try simp only [Act.put, tS]
   refine wpT 12 rfl ?_
   try simp only [Act.put, tS]
   refine wpT 13 rfl ?_
   try simp only [Act.put, tS]
   refine wpT 14 rfl ?_
   try simp only [Act.put, tS]
   refine wpR 15 rfl fun K hK => ?_
   go_simp
   go_wp2_with fail
   refine hK.out _ _ ?_ (fun hHeld => ?_)
   ·try dsimp only
    go_keep
   clear hK K
   try simp only [Act.put, tS]
   refine wpR 16 rfl fun K hK => ?_
   go_simp
   refine hK.out _ _ ?_ (fun hHeld => ?_)
   ·try dsimp only
    go_keep
   clear hK K
   try simp only [Act.put, tS]
   refine wpAnyH_done (by kernel_rfl) ?_ _
   clear hHeld
   go_wp2_with fail
   obtain ⟨w3, hw3⟩ : ∃ w3, w3 = (w2.alloc (.cells #[.int .i64 (m.c.b + m.first + m.dn)] 3)).drew := ⟨_, rfl⟩
   have b3 : Below w2.heap.size w2 w3 := by rw [hw3]; exact bel_drewN 1 ((Below.refl _ _).alloc (Nat.le_refl _) _)
   have X3 := Lib.hid (show Blk w3 w2.heap.size [.int .i64 (m.c.b + m.first + m.dn)] by rw [hw3]; exact Blk.drew (Blk.made _ _ _))
   have z3 : w3.heap.size = w2.heap.size + 1 := by rw [hw3]; simp
   have H3 := Lib.hid (H2.out.below b3)
   have Y2 := Lib.hid (X2.out.below b3 lx2)
   have B3 := Lib.hid (B2.out.trans (b3.mono (by omega)))
   have e0 := Y2.out.cell 0
   have e1 := X3.out.cell 0
   simp only [List.getElem?_cons_zero] at e0 e1
   rw [← hw3]
   clear hw3 b3 c7 c8 c9 c10 c11 c12 c13 c14 c15 p0
   go_region_held3 (fun w' => w'.cell? ⟨w.heap.size, 0, none⟩ = some (.pointer (some ⟨q, 0, none⟩)) ∧ w'.cell? ⟨w2.heap.size, 0, none⟩ = some (.int .i64 (m.c.b + m.first + m.dn))) (first | go_keep | trivial)
    (first
     | (go_at_call 36; refine (cLoad_any q _ _ _ (m.c.b + m.first + m.dn) 8 _ _ _ (H3.out.drew).mch).mono ?_; rintro e w5 ⟨rfl, t5, m5, l5, k5⟩; have hd0 := fun o => k5.cell (b := w.heap.size) o (by simp; omega) (by show ¬ w.heap.size = q; omega); have hd1 := fun o => k5.cell (b := w2.heap.size) o (by simp; omega) (by show ¬ w2.heap.size = q; omega)))
   all_goals
    clear hd0 hd1
    have z5 := k5.size
    simp at z5
    go_wp2
    go_end0
    refine ⟨rfl, ?_⟩
    rw [HR.out]
    refine GetTo.simple (O' := fun i => w.heap.size ≤ i ∧ i < w5.heap.size) H.out (((Below.keeps B3.out).drew).trans k5) ⟨nofun, nofun⟩ (t := t5) (by rw [← HA.out] at m5; exact m5) rfl ⟨_, l5.mono (fun i hi => .inr ⟨by have := hi.1; simp at this; omega, hi.2⟩), Clo.mk2 ?_ (.inr ⟨by omega, by omega⟩) ?_ (.inr ⟨by omega, by omega⟩)⟩ (fun i hi => hi)
    ·exact (Y2.out.drew).keep k5 (by show ¬ w.heap.size = q; omega)
    ·show Blk w5 w2.heap.size [.int .i64 m.at]
     rw [HA.out]
     exact (X3.out.drew).keep k5 (by show ¬ w2.heap.size = q; omega)
end Go.Proofs.YtggjhleomocojaaGreat
