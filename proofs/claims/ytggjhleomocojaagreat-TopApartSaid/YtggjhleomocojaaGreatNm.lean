/- A hear's closures: valid's answer. Conditions: as each says. -/
import Derived.Test.YtggjhleomocojaaGreatNj
namespace Go.Proofs.YtggjhleomocojaaGreat
set_option maxRecDepth 100000
open Go.RowKit
set_option linter.unusedVariables false
set_option linter.unusedSimpArgs false
variable {O R : Nat → Prop} {q : Nat} {m : HeaM} {mv : Value}
set_option maxHeartbeats 2000000 in
theorem hValid1_any (v : Int) (pb eb tb ge gt : Nat) (ae ce at_ ct : Array Value) (w : World) (h : HeaW w O R q m mv) (hp : Blk w pb [ptr q]) (he : Blk w eb [.func (.func ge) ae ce]) (ht : Blk w tb [.func (.func gt) at_ ct]) (hee : En ge) (hte : En gt) (Q : World → Prop)
  (hE : m.over v → ∀ w1, Below w.heap.size w w1 → Calls Tryz.prog ge (ae ++ ce) w1 fun e w' => e = .returned (.tuple #[]) ∧ Q w') (hT : ¬ m.over v → ∀ w1, Below w.heap.size w w1 → Calls Tryz.prog gt (at_ ++ ct) w1 fun e w' => e = .returned (.tuple #[]) ∧ Q w') :
  Calls Tryz.prog 139 #[.int .u64 v, ptr pb, ptr eb, ptr tb] w fun e w' => e = .returned (.tuple #[]) ∧ Q w' := by
 have hlt := h.lt
 obtain ⟨_, c8, _, _, _, c12, _⟩ := hea_cells h.mch
 have p0 := hp.cell 0
 have e0 := he.cell 0
 have t0 := ht.cell 0
 simp only [List.getElem?_cons_zero, ptr] at p0 e0 t0
 have W1 : IntKind.u64.wrap (v - m.c) = u64 (v - m.c) := wrap_u64' _
 have W2 : IntKind.i64.wrap (u64 (v - m.c)) = s64 (u64 (v - m.c)) := by rw [IntKind.wrap_i64]; rfl
 have HE := Lib.hid hE
 have HT := Lib.hid hT
 unfold En at hee hte
 clear h hp he ht hE hT
 unfold ptr
 go_enter Tryz.func139, Tryz.ntmps139
 go_wp2_with fail
 go_quiet (fail)
 by_cases ho : m.over v
 ·have HO := Lib.hid ho
  have h1 : m.s ≤ s64 (u64 (v - m.c)) := ho
  clear ho
  go_wp2_with fail
  refine (HE.out HO.out _ (bel_drewN _ (Below.refl _ _))).mono ?_
  rintro e w' ⟨rfl, hQ⟩
  go_wp2
  refine bodyPost_ret (results_none rfl _ _ _) rfl ?_
  exact ⟨rfl, hQ⟩
 ·have HO := Lib.hid ho
  have h1 : ¬ m.s ≤ s64 (u64 (v - m.c)) := ho
  clear ho
  go_wp2_with fail
  refine (HT.out HO.out _ (bel_drewN _ (Below.refl _ _))).mono ?_
  rintro e w' ⟨rfl, hQ⟩
  go_wp2
  go_end0
  exact ⟨rfl, hQ⟩
set_option maxHeartbeats 2000000 in
theorem hNew1_any (v : Int) (pb : Nat) (w : World) (h : HeaW w O R q m mv) (hp : Blk w pb [ptr q]) (op : O pb) :
  Calls Tryz.prog 117 #[.int .u64 v, ptr pb] w fun e w' => e = .returned (.tuple #[]) ∧ HeaTo w O R q (if s64 (u64 (v - m.c)) ≤ 0 then { m with pc := .done, e := 0 } else { m with pc := .va }) w' := by
 have H := Lib.hid h
 have hlt := h.lt
 have np : pb ≠ q := fun e => h.nqo (e ▸ op)
 obtain ⟨_, _, _, _, _, c12, _, _, _, _, c17⟩ := hea_cells h.mch
 have f17 := Blk.frozen h.mch 17
 have p0 := hp.cell 0
 simp only [List.getElem?_cons_zero, ptr] at p0
 have W1 : IntKind.u64.wrap (v - m.c) = u64 (v - m.c) := wrap_u64' _
 have W2 : IntKind.i64.wrap (u64 (v - m.c)) = s64 (u64 (v - m.c)) := by rw [IntKind.wrap_i64]; rfl
 have HT : Hid (HThen w O q { m with pc := .va } (.func (.func 120) #[] #[.pointer (some ⟨pb, 0, none⟩)]) (.func (.func 119) #[.pointer (some ⟨q, 0, none⟩)] #[])) := Lib.hid ⟨Clo.mk1 hp op, rfl⟩
 clear h hp
 unfold ptr
 by_cases hc : s64 (u64 (v - m.c)) ≤ 0
 ·rw [if_pos hc]
  go_enter Tryz.func117, Tryz.ntmps117
  go_wp2_with fail
  refine bodyPost_ret (results_none rfl _ _ _) rfl ?_
  refine ⟨rfl, O, R, mv, HeaW.stop (m := { m with pc := .done, e := 0 }) ((H.out.put (m' := { m with e := 0 }) 17 _ rfl rfl rfl rfl H.out.fc H.out.pd).c .done) rfl, fun i hi => hi.elim .inl (fun h => .inr (.inl h)), (Keep.refl _ w).setCell (p := ⟨q, 17, none⟩) (.inl (.inl rfl)) _⟩
 ·rw [if_neg hc]
  go_enter Tryz.func117, Tryz.ntmps117
  go_wp2_with fail
  refine (hValid_any .va _ H.out HT.out).mono ?_
  rintro e w5 ⟨rfl, hto⟩
  go_wp2
  go_end0
  exact ⟨rfl, hto⟩
theorem HeaW.mono {w : World} {O O' R : Nat → Prop} (h : HeaW w O R q m mv) (hd : ∀ i, O i → O' i) (nq : ¬ O' q) (dj : ∀ i, O' i → ¬ R i) (lo : ∀ i, O' i → i < w.heap.size) : HeaW w O' R q m mv :=
 ⟨h.mch, h.rd, fun i hi => hd i (h.ob i hi), nq, h.nqr, dj, fun i hi => hi.elim (lo i) (fun h' => h.lo i (.inr h')), h.ok, h.fc, h.pd⟩
theorem HeaW.gr {w0 w : World} (h : HeaW w O R q m mv) (h0 : HeaW w0 O R q m mv) : HeaW w (Gr O w0 w) R q m mv := by
 have hq := h0.lt
 refine h.mono (fun i hi => .inl hi) ?_ ?_ ?_
 ·rintro (hi | hi)
  ·exact h.nqo hi
  ·omega
 ·rintro i (hi | hi) hr
  ·exact h.dj i hi hr
  ·have := h0.lo i (.inr hr)
   omega
 ·rintro i (hi | hi)
  ·exact h.lo i (.inl hi)
  ·exact hi.2
set_option maxHeartbeats 2000000 in
theorem hBytes1_any (pb sb tb : Nat) (sz typ : Int) (l : List Int) (b0 : Option Addr) (bl bc : Nat) (w : World) (h : HeaW w O R q m mv) (hp : Blk w pb [ptr q]) (hs : Blk w sb [.int .i64 sz]) (ht : Blk w tb [.int .i32 typ]) (op : O pb) (os : O sb) (ot : O tb)
  (hr : RdB w (.slice b0 bl bc) l) (ho : ∀ i, (Value.slice b0 bl bc).ownBlock = some i → O i) :
  Calls Tryz.prog 161 #[.slice b0 bl bc, ptr pb, ptr sb, ptr tb] w fun e w' => e = .returned (.tuple #[]) ∧ HeaTo w O R q { m with pc := .bv sz typ l } w' := by
 have H := Lib.hid h
 have hlt := h.lt
 have np : pb ≠ q := fun e => h.nqo (e ▸ op)
 have p0 := hp.cell 0
 simp only [List.getElem?_cons_zero, ptr] at p0
 obtain ⟨w1, hw1⟩ : ∃ w1, w1 = w.alloc (.cells #[.slice b0 bl bc] 32) := ⟨_, rfl⟩
 have b1 : Below w.heap.size w w1 := by rw [hw1]; go_grown
 have X1 : Blk w1 w.heap.size [.slice b0 bl bc] := by rw [hw1]; exact Blk.made w _ _
 have H1 := h.below b1
 have HG := Lib.hid (H1.gr h)
 have l1 := X1.lt
 have HT : Hid (HThen w1 (Gr O w w1) q { m with pc := .bv sz typ l } (hLost q) (.func (.func 162) #[] #[.pointer (some ⟨pb, 0, none⟩), .pointer (some ⟨sb, 0, none⟩), .pointer (some ⟨tb, 0, none⟩), .pointer (some ⟨w.heap.size, 0, none⟩)])) := Lib.hid ⟨rfl, _, Clo.mk4 (hp.below b1 hp.lt) (.inl op) (hs.below b1 hs.lt) (.inl os) (ht.below b1 ht.lt) (.inl ot) X1 (.inr ⟨Nat.le_refl _, l1⟩), hr.below b1, fun i hi => .inl (ho i hi)⟩
 have pt : pb < w.heap.size := hp.lt
 have q0 := (b1.cell (p := ⟨pb, 0, none⟩) pt).trans p0
 have B1 := Lib.hid b1
 have HW := Lib.hid hw1
 clear h hp hs ht hr H1 X1 b1
 unfold ptr
 unfold hLost ptr at HT
 go_enter Tryz.func161, Tryz.ntmps161
 go_upto_region 1 with fail
 rw [← hw1]
 clear hw1
 go_wp2_with fail
 refine (hValid_any (.bv sz typ l) _ HG.out HT.out).mono ?_
 rintro e w5 ⟨rfl, hto⟩
 go_wp2
 go_end0
 exact ⟨rfl, hto.from (Below.keeps B1.out) (fun i hi => hi.elim .inl (fun h => .inr (.inr h.1))) (fun i hi => .inl hi)⟩
end Go.Proofs.YtggjhleomocojaaGreat
namespace Go.Proofs.YtggjhleomocojaaGreat
set_option maxRecDepth 100000
open Go.RowKit
set_option linter.unusedVariables false
set_option linter.unusedSimpArgs false
theorem enHB1 : En 161 := enters_of Tryz.func161 (by kernel_rfl) rfl
def HeaM.bytes (m : HeaM) (typ len sz : Int) : HeaM := if len - 8 < 1 then { m with pc := .bv sz typ [] } else { m with pc := .rd sz typ (m.b + m.place + 8) (len - 8) [] }
set_option maxHeartbeats 4000000 in
theorem hBytes_any {O R : Nat → Prop} {q : Nat} {m : HeaM} {mv : Value} (typ len sz : Int) (w : World) (h : HeaW w O R q m mv) (hl0 : 8 ≤ len) (hl1 : len ≤ 8192) :
  Calls Tryz.prog 144 #[.pointer (some ⟨q, 0, none⟩), .int .i32 typ, .int .i64 len, .int .i64 sz] w fun e w' => e = .returned (.tuple #[]) ∧ HeaTo w O R q (m.bytes typ len sz) w' := by
 have H := Lib.hid h
 have hlt := h.lt
 obtain ⟨b0, b1, b2, b3, b4, b5⟩ := h.bd
 obtain ⟨c7, _⟩ := hea_cells h.mch
 obtain ⟨PL, hPL⟩ : ∃ p, p = m.place := ⟨_, rfl⟩
 have m1 : 0 ≤ PL := by rw [hPL]; exact Int.emod_nonneg m.c (show m.s ≠ 0 by omega)
 have m2 : PL < m.s := by rw [hPL]; exact Int.emod_lt_of_pos m.c (show 0 < m.s by omega)
 have W2 : IntKind.i64.wrap (m.b + PL) = m.b + PL := IntWalk.i64_in _ ⟨by omega, by omega⟩
 have W3 : IntKind.i64.wrap (m.b + PL + 8) = m.b + PL + 8 := IntWalk.i64_in _ ⟨by omega, by omega⟩
 have W4 : IntKind.i64.wrap (len - 8) = len - 8 := IntWalk.i64_in _ ⟨by omega, by omega⟩
 have HPL := Lib.hid hPL
 clear h b0 b1 hPL
 go_enter Tryz.func144, Tryz.ntmps144
 go_upto_region 1 with fail
 obtain ⟨w3, hw3, x0, x1, x2, hs3, bb3⟩ := pbox3 w (.pointer (some ⟨q, 0, none⟩)) (.int .i32 typ) (.int .i64 sz) 125 21 2
 rw [← hw3]
 have X0 := Lib.hid x0
 have X1 := Lib.hid x1
 have X2 := Lib.hid x2
 have B3 := Lib.hid bb3
 have p0 := x0.cell 0
 simp only [List.getElem?_cons_zero] at p0
 have l0 : w.heap.size < w3.heap.size := by omega
 have lq : q < w3.heap.size := by omega
 have d7 := (bb3.cell (p := ⟨q, 7, none⟩) hlt).trans c7
 have H3 := Lib.hid ((H.out.below bb3).gr H.out)
 have HS3 := Lib.hid hs3
 clear hw3 x0 x1 x2 bb3 hs3 c7
 by_cases hn : len - 8 < 1
 ·have HR := Lib.hid (show m.bytes typ len sz = { m with pc := .bv sz typ [] } from if_pos hn)
  go_region_held3 (fun w' => w'.cell? ⟨w.heap.size, 0, none⟩ = some (.pointer (some ⟨q, 0, none⟩)) ∧ w'.cell? ⟨q, 7, none⟩ = some (.int .i64 m.b)) (first | go_keep | trivial)
   (first
    | (go_at_call 140; refine (hPlace_any _ H3.out.drew).mono ?_; rintro e w4 ⟨he4, b4⟩; rw [← HPL.out] at he4; subst he4; have hd4 := fun o => b4.cell (p := ⟨w.heap.size, o, none⟩) (by simpa using l0); have hd7 := fun o => b4.cell (p := ⟨q, o, none⟩) (by simpa using lq))
    | (go_at_call 129
       refine (cOut_end q (m.b + PL + 8) (len - 8) none 0 0 _ _ _ hn enHB1 (HeaTo w4 (Gr O w w3) R q { m with pc := .bv sz typ [] }) (fun w5 b5 => ?_)).mono ?_
       ·have z4 := b4.size
        simp at z4
        have z5 := b5.size
        refine (hBytes1_any w.heap.size (w.heap.size + 1 + 1) (w.heap.size + 1) sz typ [] none 0 0 w5 (((H3.out.drew).below b4).below b5) (((X0.out.drew).below b4 (by simpa using l0)).below b5 (by omega)) (((X2.out.drew).below b4 (by have := X2.out.lt; simpa using this)).below b5 (by have := X2.out.lt; omega)) (((X1.out.drew).below b4 (by have := X1.out.lt; simpa using this)).below b5 (by have := X1.out.lt; omega)) (.inr ⟨by omega, by omega⟩) (.inr ⟨by omega, X2.out.lt⟩) (.inr ⟨by omega, X1.out.lt⟩) (.inl ⟨rfl, rfl⟩) (fun i hi => by cases hi)).mono ?_
        rintro e w6 ⟨rfl, hto⟩
        exact ⟨rfl, hto.after (Below.keeps b5)⟩
       rintro e w5 ⟨rfl, hto⟩
       obtain ⟨O9, R9, mv9, hI9, hs9, k9⟩ := id hto
       obtain ⟨_, _, hm9⟩ := hI9.at_.mch
       have he7 := (hea_cells hm9).1
       dsimp only at he7
       have hd0 := fun o => k9.cell (b := w.heap.size) o (by have := b4.size; simp at this; omega) (by rintro (h | h); omega; exact absurd (H.out.lo _ (.inr h)) (by omega))))
  all_goals
   go_wp2
   go_end0
   refine ⟨rfl, ?_⟩
   rw [HR.out]
   exact hto.from ((((Below.keeps B3.out).drew).trans (Below.keeps b4))) (fun i hi => hi.elim .inl (fun h => .inr (.inr h.1))) (fun i hi => .inl hi)
 ·have HR := Lib.hid (show m.bytes typ len sz = { m with pc := .rd sz typ (m.b + m.place + 8) (len - 8) [] } from if_neg hn)
  obtain ⟨n, hnn⟩ : ∃ n : Nat, len - 8 = n := ⟨(len - 8).toNat, by omega⟩
  have hn1 : 1 ≤ n := by omega
  have HN := Lib.hid hnn
  clear hnn
  go_region_held3 (fun w' => w'.cell? ⟨w.heap.size, 0, none⟩ = some (.pointer (some ⟨q, 0, none⟩)) ∧ w'.cell? ⟨q, 7, none⟩ = some (.int .i64 m.b)) (first | go_keep | trivial)
   (first
    | (go_at_call 140; refine (hPlace_any _ H3.out.drew).mono ?_; rintro e w4 ⟨he4, b4⟩; rw [← HPL.out] at he4; subst he4; have hd4 := fun o => b4.cell (p := ⟨w.heap.size, o, none⟩) (by simpa using l0); have hd7 := fun o => b4.cell (p := ⟨q, o, none⟩) (by simpa using lq))
    | (go_at_call 129; rw [HN.out]; refine (cOut_more q _ _ _ (m.b + PL + 8) n none 0 0 _ _ _ ((H3.out.drew).below b4).mch hn1).mono ?_; rintro e w5 ⟨rfl, t5, m5, l5, k5⟩; have hd0 := fun o => k5.cell (b := w.heap.size) o (by have := b4.size; simp at this; omega) (by show ¬ w.heap.size = q; omega); have he7 := (hea_cells m5).1))
  all_goals
   have z4 := b4.size
   have z5 := k5.size
   simp at z4
   clear hd0 he7
   go_wp2
   go_end0
   have hs3 := HS3.out
   have K5 : Keep (· = q) w w5 := (((Below.keeps B3.out).drew).trans (Below.keeps b4)).trans k5
   rw [HR.out, HN.out, ← HPL.out]
   refine ⟨rfl, Gr O w w5, R, mv, ⟨⟨t5, _, _, m5, l5.mono (fun i hi => .inr ⟨by omega, hi.2⟩), OwB.nil _ _ _, (fun i hi => by cases hi), Clo.mk3 ?_ (.inr ⟨by omega, by omega⟩) ?_ (.inr ⟨by omega, by omega⟩) ?_ (.inr ⟨by omega, by omega⟩)⟩, ?_, fun i hi => .inl (H.out.ob i hi), ?_, H.out.nqr, ?_, ?_⟩, ?_, K5.mono (fun i _ e => .inl e)⟩
   ·exact ((X0.out.drew).below b4 (by simpa using l0)).keep k5 (by show ¬ w.heap.size = q; omega)
   ·exact ((X2.out.drew).below b4 (by have := X2.out.lt; simpa using this)).keep k5 (by show ¬ w.heap.size + 1 + 1 = q; omega)
   ·exact ((X1.out.drew).below b4 (by have := X1.out.lt; simpa using this)).keep k5 (by show ¬ w.heap.size + 1 = q; omega)
   ·exact H.out.rd.keepP K5 (fun j hj e => H.out.nqo (e ▸ H.out.ob j hj))
   ·rintro (h9 | h9)
    ·exact H.out.nqo h9
    ·omega
   ·rintro i (h9 | h9) h8
    ·exact H.out.dj i h9 h8
    ·have := H.out.lo i (.inr h8)
     omega
   ·rintro i ((h9 | h9) | h9)
    ·have := H.out.lo i (.inl h9)
     omega
    ·exact h9.2
    ·have := H.out.lo i (.inr h9)
     omega
   ·rintro i ((h9 | h9) | h9)
    ·exact .inl h9
    ·exact .inr (.inr h9.1)
    ·exact .inr (.inl h9)
end Go.Proofs.YtggjhleomocojaaGreat
