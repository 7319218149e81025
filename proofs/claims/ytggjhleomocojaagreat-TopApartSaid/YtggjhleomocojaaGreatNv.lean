/- (*relay.Relay).note. Conditions: as it says. -/
import Derived.Test.YtggjhleomocojaaGreatNs
import Derived.Test.YtggjhleomocojaaGreatGp
import Derived.Test.YtggjhleomocojaaGreatNf
import Derived.Test.YtggjhleomocojaaGreatYw
namespace Go.Proofs.YtggjhleomocojaaGreat
set_option maxRecDepth 100000
open Go.RowKit
set_option linter.unusedVariables false
set_option linter.unusedSimpArgs false
theorem hdinfo : (Tryz.prog.info? 50).map (fun i => (i.zero, i.size, i.bytes)) = some (some (.agg #[.int .i64 0, .int .i32 0, .slice none 0 0]), 3, 40) := by kernel_rfl
set_option maxHeartbeats 8000000 in
theorem relNote_any {w0 w : World} {O0 : Nat → Prop} {q : Nat} {L F1 : Nat → Prop} {m : HeaM} {t : RelT} {nv ov : Value} (h : RelB w0 O0 w q L F1 (some m) t nv ov) (hs : t.heard.length + t.left.toNat < 1000 ∧ t.losses + t.left.toNat < 1000) :
  Calls Tryz.prog 81 #[ptr q] w fun e w' => e = .returned (.tuple #[]) ∧ ∃ L' ov', RelB w0 O0 w' q L' F1 (some m) (t.en m) nv ov' := by
 obtain ⟨p, e0, hF⟩ := h.c
 subst e0
 obtain ⟨hf1, hf2, hf3, O, R, mv, hOR, hI⟩ := id hF
 have H := Lib.hid h
 have HI := Lib.hid hI
 have HS := Lib.hid hs
 have ML := Lib.hid hf3.ml
 have hlt := h.b.lt
 have np : p ≠ q := fun e => h.nq.2 (e ▸ hf1)
 have lp := hf2 p hf1
 have c6 : w.cell? ⟨q, 6, none⟩ = some (.pointer (some ⟨p, 0, none⟩)) := Blk.cell h.b 6
 clear h hI hF hs hf1 hf2 hf3 hOR
 unfold ptr
 go_enter Tryz.func81, Tryz.ntmps81
 go_wp2_with fail
 refine (hResult_any w HI.out (by have := ML.out; omega)).mono ?_
 rintro e w1 ⟨s0, sl, sc, rfl, o1, b1⟩
 have z1 := b1.size
 obtain ⟨w2, hw2⟩ : ∃ w2, w2 = w1.alloc (.cells #[.int .i32 m.msg.1, .slice s0 sl sc] 34) := ⟨_, rfl⟩
 have b2 : Below w1.heap.size w1 w2 := by rw [hw2]; go_grown
 have z2 : w2.heap.size = w1.heap.size + 1 := by rw [hw2]; simp
 have X2 := Lib.hid (show Blk w2 w1.heap.size [.int .i32 m.msg.1, .slice s0 sl sc] by rw [hw2]; exact Blk.made w1 _ _)
 have HB2 := Lib.hid ((H.out.below b1).below b2)
 have HI2 := Lib.hid ((HI.out.below b1).below b2)
 have O2 := Lib.hid (ownsRow_keep o1 (Below.keeps (M := fun _ => False) b2) (fun _ _ => id))
 have FR := Lib.hid (World.ownsRow.lt o1)
 have l2 := HB2.out.b.lt
 have d6 : w2.cell? ⟨q, 6, none⟩ = some (.pointer (some ⟨p, 0, none⟩)) := Blk.cell HB2.out.b 6
 clear b1 o1 b2 c6
 go_upto_region 1 with fail
 rw [← hw2]
 clear hw2
 go_wp2_with fail
 refine (hState_any _ HI2.out.at_).mono ?_
 rintro e w3 ⟨rfl, b3⟩
 have z3 := b3.size
 have HB3 := Lib.hid (HB2.out.below b3)
 have X3 := Lib.hid (X2.out.below b3 (by omega))
 have O3 := Lib.hid (ownsRow_keep O2.out (Below.keeps (M := fun _ => False) b3) (fun _ _ => id))
 have l3 := HB3.out.b.lt
 have D3 := HB3.out.d
 have HB4 := Lib.hid (((HB3.out.set1 (t' := { t with ear := ⟨m.cu, t.ear.nx, t.ear.la⟩ }) 2 (.int .i64 m.cu) rfl ⟨D3.hd, D3.nl, D3.ll, D3.bb, D3.bs, D3.sm⟩).set1 (t' := { t with ear := ⟨m.cu, m.nx, t.ear.la⟩ }) 3 (.int .i64 m.nx) rfl (by
  have D := (HB3.out.set1 (t' := { t with ear := ⟨m.cu, t.ear.nx, t.ear.la⟩ }) 2 (.int .i64 m.cu) rfl ⟨D3.hd, D3.nl, D3.ll, D3.bb, D3.bs, D3.sm⟩).d
  exact ⟨D.hd, D.nl, D.ll, D.bb, D.bs, D.sm⟩)).set1 (t' := { t with ear := ⟨m.cu, m.nx, m.la⟩ }) 4 (.int .i64 m.la) rfl (by
  have D := ((HB3.out.set1 (t' := { t with ear := ⟨m.cu, t.ear.nx, t.ear.la⟩ }) 2 (.int .i64 m.cu) rfl ⟨D3.hd, D3.nl, D3.ll, D3.bb, D3.bs, D3.sm⟩).set1 (t' := { t with ear := ⟨m.cu, m.nx, t.ear.la⟩ }) 3 (.int .i64 m.nx) rfl (by
  have D := (HB3.out.set1 (t' := { t with ear := ⟨m.cu, t.ear.nx, t.ear.la⟩ }) 2 (.int .i64 m.cu) rfl ⟨D3.hd, D3.nl, D3.ll, D3.bb, D3.bs, D3.sm⟩).d
  exact ⟨D.hd, D.nl, D.ll, D.bb, D.bs, D.sm⟩)).d
  exact ⟨D.hd, D.nl, D.ll, D.bb, D.bs, D.sm⟩))
 have K4 := Lib.hid (((((Keep.refl (· = q) w3).setCell (p := ⟨q, 2, none⟩) (.inl rfl) (.int .i64 m.cu)).setCell (p := ⟨q, 3, none⟩) (.inl rfl) (.int .i64 m.nx)).setCell (p := ⟨q, 4, none⟩) (.inl rfl) (.int .i64 m.la)))
 have g2 := HB3.out.b.frozen 2
 have g3 := HB3.out.b.frozen 3
 have g4 := HB3.out.b.frozen 4
 have e2 : w3.cell? ⟨q, 2, none⟩ = some (.int .i64 t.ear.cu) := Blk.cell HB3.out.b 2
 have e3 : w3.cell? ⟨q, 3, none⟩ = some (.int .i64 t.ear.nx) := Blk.cell HB3.out.b 3
 have e4 : w3.cell? ⟨q, 4, none⟩ = some (.int .i64 t.ear.la) := Blk.cell HB3.out.b 4
 clear D3 d6
 go_upto_region 2 with fail
 obtain ⟨w4, hw4⟩ : ∃ w4, w4 = ((w3.setCell ⟨q, 2, none⟩ (.int .i64 m.cu)).setCell ⟨q, 3, none⟩ (.int .i64 m.nx)).setCell ⟨q, 4, none⟩ (.int .i64 m.la) := ⟨_, rfl⟩
 rw [← hw4] at HB4 K4
 rw [← hw4]
 clear hw4 e2 e3 e4 g2 g3 g4
 have z4 := K4.out.size
 have nqb : w1.heap.size ≠ q := by have := H.out.b.lt; omega
 have X4 := Lib.hid (X3.out.keep K4.out nqb)
 have nqs : ∀ i, (Value.slice s0 sl sc).ownBlock = some i → i ≠ q := fun i hi e => by have := FR.out i hi; have := H.out.b.lt; omega
 have O4 := Lib.hid (ownsRow_keep O3.out K4.out (fun i hi e => nqs i hi e))
 by_cases hh : m.heard = true
 ·have HEN := Lib.hid (show ({ t.en m with losses := t.losses } : RelT) = { t with ear := ⟨m.cu, m.nx, m.la⟩, heard := t.heard ++ [(m.cu, m.msg)] } by unfold RelT.en HeaM.ear; rw [if_pos hh])
  rw [hh]
  go_upto_if 22 with fail
  go_cut [] from 23 to 38 (fun wx => ∃ L' ov', RelB w0 O0 wx q L' F1 (some m) { t.en m with losses := t.losses } (ptr p) ov')
  case first =>
   obtain ⟨es, he1, he2, he3⟩ := HB4.out.d.hd
   have hel : es.length = t.heard.length := by rw [← he1, List.length_map]
   rw [hel] at he2
   obtain ⟨oa, oc, rfl⟩ : ∃ oa oc, ov = .slice oa t.heard.length oc := by
    rcases he2.2 with ⟨rfl, h0⟩ | ⟨g, cap, cur, rfl, _⟩
    ·exact ⟨none, 0, by rw [h0]⟩
    ·exact ⟨_, _, rfl⟩
   have HES := Lib.hid (And.intro he1 (And.intro he2 he3))
   clear he1 he2 he3 hel
   obtain ⟨i0, hi, hz0', hz1', hz2'⟩ := info_parts hdinfo
   have l4 := HB4.out.b.lt
   have lm4 := X4.out.lt
   have c7 : w4.cell? ⟨q, 7, none⟩ = some (.slice oa t.heard.length oc) := Blk.cell HB4.out.b 7
   have f7 := HB4.out.b.frozen 7
   have c2 : w4.cell? ⟨q, 2, none⟩ = some (.int .i64 m.cu) := Blk.cell HB4.out.b 2
   have x0 := X4.out.cell 0
   have x1 := X4.out.cell 1
   simp only [List.getElem?_cons_zero, List.getElem?_cons_succ] at x0 x1
   have hsz := HS.out.1
   have nov : ∀ i, (Value.slice oa t.heard.length oc).ownBlock = some i → i ≠ q := fun i hi e => HB4.out.qd (e ▸ hi)
   have nom : ∀ i, (Value.slice oa t.heard.length oc).ownBlock = some i → i ≠ w1.heap.size := fun i hi e => by
    have := World.ownsRow.lt HES.out.2.1 i hi
    have h9 := H.out.d.hd
    obtain ⟨es', _, h8, _⟩ := h9
    have := World.ownsRow.lt h8 i hi
    omega
   go_upto_region 3 with fail
   refine wp_region_held_drew (S := fun w' => w'.cell? ⟨q, 2, none⟩ = some (.int .i64 m.cu) ∧ w'.cell? ⟨w1.heap.size, 0, none⟩ = some (.int .i32 m.msg.1) ∧ w'.cell? ⟨w1.heap.size, 1, none⟩ = some (.slice s0 sl sc)) (by kernel_rfl) ?_ (fun hHeld => ?_)
   ·try dsimp only
    exact ⟨c2, x0, x1⟩
   refine wpT 0 rfl ?_
   try simp only [Act.put, tS]
   refine wpT 1 rfl ?_
   try simp only [Act.put, tS]
   refine wpT 2 rfl ?_
   try simp only [Act.put, tS]
   refine wpT 3 rfl ?_
   try simp only [Act.put, tS]
   refine wpT 5 rfl ?_
   try simp only [Act.put, tS]
   refine wpT 6 rfl ?_
   try simp only [Act.put, tS]
   refine wpT 7 rfl ?_
   try simp only [Act.put, tS]
   refine wpT 8 rfl ?_
   try simp only [Act.put, tS]
   refine wpT 9 rfl ?_
   try simp only [Act.put, tS]
   refine wpT 10 rfl ?_
   try simp only [Act.put, tS]
   refine wpT 11 rfl ?_
   try simp only [Act.put, tS]
   refine wpAnyH_ready (rs := [4, 12]) (by kernel_rfl) (by simp) ?_
   refine AllReadyH.cons rfl (fun K hK => ?_) (AllReadyH.cons rfl (fun K hK => ?_) AllReadyH.nil)
   ·go_simp
    refine hK.out _ _ ?_ (fun hHeld => ?_)
    ·try dsimp only
     go_keep
    clear hK K
    try simp only [Act.put, tS]
    refine wpR 12 rfl fun K hK => ?_
    try go_simp
    go_wp2_with fail
    refine hK.out _ _ ?_ (fun hHeld => ?_)
    ·try dsimp only
     go_keep
    clear hK K
    try simp only [Act.put, tS]
    refine wpR 13 rfl fun K hK => ?_
    have hnew := Blk.made (w4.drew) #[Value.int .i64 m.cu, Value.int .i32 m.msg.1, Value.slice s0 sl sc] 50
    have bA : Below w4.heap.size w4 ((w4.drew).alloc (Obj.cells #[Value.int .i64 m.cu, Value.int .i32 m.msg.1, Value.slice s0 sl sc] 50)) := by go_grown
    refine step_app1 (by rfl) _ _ 47 50 (by rfl) Tryz.underlying47 hi hz0' hz1' hz2' rfl (by decide) (.slice oa t.heard.length oc) t.heard.length (es.flatMap hsL) (by rfl) (ownsRow_keep HES.out.2.1 (Below.keeps (M := fun _ => False) bA) (fun _ _ => id)) w4.heap.size [Value.int .i64 m.cu, Value.int .i32 m.msg.1, Value.slice s0 sl sc] (by rfl) hnew rfl (by intro u hu; simp at hu; rcases hu with rfl | rfl | rfl <;> rfl) (by omega) (by unfold maxLen; omega) ?_
    intro ov' w5 ow5 gr5 hov5
    obtain ⟨ra, rn, rc, rfl⟩ : ∃ ra rn rc, ov' = .slice ra rn rc := by
     rcases ow5.2 with ⟨e, _⟩ | ⟨_, _, _, e, _⟩
     ·exact ⟨_, _, _, e⟩
     ·exact ⟨_, _, _, e⟩
    have kg5 := grown_keep gr5
    have zg5 := kg5.size
    simp at zg5
    have eq7 := (kg5.cell (b := q) 7 (by simp; omega) (fun e => nov _ e rfl)).trans ((bA.cell (p := ⟨q, 7, none⟩) l4).trans c7)
    have eq2 := (kg5.cell (b := q) 2 (by simp; omega) (fun e => nov _ e rfl)).trans ((bA.cell (p := ⟨q, 2, none⟩) l4).trans c2)
    have ex0 := (kg5.cell (b := w1.heap.size) 0 (by simp; omega) (fun e => nom _ e rfl)).trans ((bA.cell (p := ⟨w1.heap.size, 0, none⟩) lm4).trans x0)
    have ex1 := (kg5.cell (b := w1.heap.size) 1 (by simp; omega) (fun e => nom _ e rfl)).trans ((bA.cell (p := ⟨w1.heap.size, 1, none⟩) lm4).trans x1)
    have fq7 := (kg5.frozen (b := q) 7 (by simp; omega) (fun e => nov _ e rfl)).trans (((Below.keeps (M := fun _ => False) bA).frozen (b := q) 7 l4 id).trans f7)
    refine hK.out _ _ ?_ (fun hHeld => ?_)
    ·try dsimp only
     exact ⟨eq2, ex0, ex1⟩
    clear hK K
    try simp only [Act.put, tS]
    refine wpT 14 rfl ?_
    try simp only [Act.put, tS]
    refine wpT 15 rfl ?_
    try simp only [Act.put, tS]
    have kW : Keep (fun i => (Value.slice oa t.heard.length oc).ownBlock = some i) w4 w5 := (Below.keeps bA).trans kg5
    have B5 := HB4.out.b.keep kW HB4.out.qd
    have ks5 := Keep.setCell (M := (· = q)) (Keep.refl _ w5) (p := ⟨q, 7, none⟩) (.inl rfl) (.slice ra rn rc)
    refine wpR 16 rfl fun K hK => ?_
    go_simp
    refine hK.out _ _ ?_ (fun hHeld => ?_)
    ·try dsimp only
     exact ⟨Blk.cell (B5.set 7 (.slice ra rn rc)) 2, (ks5.cell (b := w1.heap.size) 0 (by omega) nqb).trans ex0, (ks5.cell (b := w1.heap.size) 1 (by omega) nqb).trans ex1⟩
    clear hK K
    try simp only [Act.put, tS]
    refine wpAnyH_done (by kernel_rfl) ?_ _
    clear hHeld
    go_wp2_with fail
    go_meet
    refine ⟨fun i => L i ∨ (Value.slice s0 sl sc).ownBlock = some i, .slice ra rn rc, ?_⟩
    rw [HEN.out]
    refine HB4.out.pushH m.cu m.msg.1 m.msg.2 (.slice s0 sl sc) (by show t.heard.length + 1 + t.left.toNat ≤ 1000; omega) ML.out (OwB.rd O4.out) (fun i hi => ?_) es HES.out.1 HES.out.2.2 kW ow5 (hov5.imp id fun h => ⟨_, h, by simp⟩)
    have h1 := FR.out i hi
    have h2 := H.out.k.size
    refine ⟨by omega, by omega, nqs i hi, fun h => by have := H.out.f1 i h; omega, fun h => ?_⟩
    obtain ⟨es', _, h8, _⟩ := H.out.d.hd
    have := World.ownsRow.lt h8 i h
    omega
   ·try go_simp
    go_wp2_with fail
    refine hK.out _ _ ?_ (fun hHeld => ?_)
    ·try dsimp only
     go_keep
    clear hK K
    try simp only [Act.put, tS]
    refine wpR 4 rfl fun K hK => ?_
    go_simp
    refine hK.out _ _ ?_ (fun hHeld => ?_)
    ·try dsimp only
     go_keep
    clear hK K
    try simp only [Act.put, tS]
    refine wpR 13 rfl fun K hK => ?_
    have hnew := Blk.made (w4.drew) #[Value.int .i64 m.cu, Value.int .i32 m.msg.1, Value.slice s0 sl sc] 50
    have bA : Below w4.heap.size w4 ((w4.drew).alloc (Obj.cells #[Value.int .i64 m.cu, Value.int .i32 m.msg.1, Value.slice s0 sl sc] 50)) := by go_grown
    refine step_app1 (by rfl) _ _ 47 50 (by rfl) Tryz.underlying47 hi hz0' hz1' hz2' rfl (by decide) (.slice oa t.heard.length oc) t.heard.length (es.flatMap hsL) (by rfl) (ownsRow_keep HES.out.2.1 (Below.keeps (M := fun _ => False) bA) (fun _ _ => id)) w4.heap.size [Value.int .i64 m.cu, Value.int .i32 m.msg.1, Value.slice s0 sl sc] (by rfl) hnew rfl (by intro u hu; simp at hu; rcases hu with rfl | rfl | rfl <;> rfl) (by omega) (by unfold maxLen; omega) ?_
    intro ov' w5 ow5 gr5 hov5
    obtain ⟨ra, rn, rc, rfl⟩ : ∃ ra rn rc, ov' = .slice ra rn rc := by
     rcases ow5.2 with ⟨e, _⟩ | ⟨_, _, _, e, _⟩
     ·exact ⟨_, _, _, e⟩
     ·exact ⟨_, _, _, e⟩
    have kg5 := grown_keep gr5
    have zg5 := kg5.size
    simp at zg5
    have eq7 := (kg5.cell (b := q) 7 (by simp; omega) (fun e => nov _ e rfl)).trans ((bA.cell (p := ⟨q, 7, none⟩) l4).trans c7)
    have eq2 := (kg5.cell (b := q) 2 (by simp; omega) (fun e => nov _ e rfl)).trans ((bA.cell (p := ⟨q, 2, none⟩) l4).trans c2)
    have ex0 := (kg5.cell (b := w1.heap.size) 0 (by simp; omega) (fun e => nom _ e rfl)).trans ((bA.cell (p := ⟨w1.heap.size, 0, none⟩) lm4).trans x0)
    have ex1 := (kg5.cell (b := w1.heap.size) 1 (by simp; omega) (fun e => nom _ e rfl)).trans ((bA.cell (p := ⟨w1.heap.size, 1, none⟩) lm4).trans x1)
    have fq7 := (kg5.frozen (b := q) 7 (by simp; omega) (fun e => nov _ e rfl)).trans (((Below.keeps (M := fun _ => False) bA).frozen (b := q) 7 l4 id).trans f7)
    refine hK.out _ _ ?_ (fun hHeld => ?_)
    ·try dsimp only
     exact ⟨eq2, ex0, ex1⟩
    clear hK K
    try simp only [Act.put, tS]
    refine wpT 14 rfl ?_
    try simp only [Act.put, tS]
    refine wpT 15 rfl ?_
    try simp only [Act.put, tS]
    have kW : Keep (fun i => (Value.slice oa t.heard.length oc).ownBlock = some i) w4 w5 := (Below.keeps bA).trans kg5
    have B5 := HB4.out.b.keep kW HB4.out.qd
    have ks5 := Keep.setCell (M := (· = q)) (Keep.refl _ w5) (p := ⟨q, 7, none⟩) (.inl rfl) (.slice ra rn rc)
    refine wpR 16 rfl fun K hK => ?_
    go_simp
    refine hK.out _ _ ?_ (fun hHeld => ?_)
    ·try dsimp only
     exact ⟨Blk.cell (B5.set 7 (.slice ra rn rc)) 2, (ks5.cell (b := w1.heap.size) 0 (by omega) nqb).trans ex0, (ks5.cell (b := w1.heap.size) 1 (by omega) nqb).trans ex1⟩
    clear hK K
    try simp only [Act.put, tS]
    refine wpAnyH_done (by kernel_rfl) ?_ _
    clear hHeld
    go_wp2_with fail
    go_meet
    refine ⟨fun i => L i ∨ (Value.slice s0 sl sc).ownBlock = some i, .slice ra rn rc, ?_⟩
    rw [HEN.out]
    refine HB4.out.pushH m.cu m.msg.1 m.msg.2 (.slice s0 sl sc) (by show t.heard.length + 1 + t.left.toNat ≤ 1000; omega) ML.out (OwB.rd O4.out) (fun i hi => ?_) es HES.out.1 HES.out.2.2 kW ow5 (hov5.imp id fun h => ⟨_, h, by simp⟩)
    have h1 := FR.out i hi
    have h2 := H.out.k.size
    refine ⟨by omega, by omega, nqs i hi, fun h => by have := H.out.f1 i h; omega, fun h => ?_⟩
    obtain ⟨es', _, h8, _⟩ := H.out.d.hd
    have := World.ownsRow.lt h8 i h
    omega
  case rest =>
   obtain ⟨L', ov', hB⟩ := hcut
   have HB := Lib.hid hB
   clear hB
   by_cases he : m.e = 9
   ·have HEN := Lib.hid (show t.en m = { ({ t.en m with losses := t.losses } : RelT) with losses := t.losses + 1 } by unfold RelT.en; rw [if_pos he])
    rw [he]
    have c8 : wc.cell? ⟨q, 8, none⟩ = some (.int .i64 t.losses) := Blk.cell HB.out.b 8
    have f8 := HB.out.b.frozen 8
    have hs2 := HS.out.2
    have hsm := H.out.d.sm
    have W1 : IntKind.i64.wrap (t.losses + 1) = t.losses + 1 := IntWalk.i64_in _ ⟨by omega, by omega⟩
    have lc := HB.out.b.lt
    go_wp2
    go_end0
    refine ⟨rfl, L', ov', ?_⟩
    rw [HEN.out]
    have D := HB.out.d
    have S := D.sm
    exact HB.out.set1 (t' := { ({ t.en m with losses := t.losses } : RelT) with losses := t.losses + 1 }) 8 (.int .i64 (t.losses + 1)) rfl ⟨D.hd, D.nl, D.ll, D.bb, D.bs, ⟨S.1, by show 0 ≤ t.losses + 1; omega, by show t.losses + 1 + (t.left.toNat : Int) ≤ 1000; omega, S.2.2.2⟩⟩
   ·have HEN := Lib.hid (show t.en m = ({ t.en m with losses := t.losses } : RelT) by unfold RelT.en; rw [if_neg he])
    have he' : (m.e == 9) = false := by simpa using he
    go_wp2_with fail
    go_end0
    exact ⟨rfl, L', ov', by rw [HEN.out]; exact HB.out⟩
 ·have hh' : m.heard = false := by simpa using hh
  have HEN := Lib.hid (show ({ t.en m with losses := t.losses } : RelT) = { t with ear := ⟨m.cu, m.nx, m.la⟩ } by unfold RelT.en HeaM.ear; rw [if_neg hh])
  rw [hh']
  go_upto_if 22 with fail
  go_cut [] from 23 to 38 (fun wx => ∃ L' ov', RelB w0 O0 wx q L' F1 (some m) { t.en m with losses := t.losses } (ptr p) ov')
  case first =>
   go_wp2_with fail
   go_meet
   exact ⟨L, ov, by rw [HEN.out]; exact HB4.out⟩
  case rest =>
   obtain ⟨L', ov', hB⟩ := hcut
   have HB := Lib.hid hB
   clear hB
   by_cases he : m.e = 9
   ·have HEN := Lib.hid (show t.en m = { ({ t.en m with losses := t.losses } : RelT) with losses := t.losses + 1 } by unfold RelT.en; rw [if_pos he])
    rw [he]
    have c8 : wc.cell? ⟨q, 8, none⟩ = some (.int .i64 t.losses) := Blk.cell HB.out.b 8
    have f8 := HB.out.b.frozen 8
    have hs2 := HS.out.2
    have hsm := H.out.d.sm
    have W1 : IntKind.i64.wrap (t.losses + 1) = t.losses + 1 := IntWalk.i64_in _ ⟨by omega, by omega⟩
    have lc := HB.out.b.lt
    go_wp2
    go_end0
    refine ⟨rfl, L', ov', ?_⟩
    rw [HEN.out]
    have D := HB.out.d
    have S := D.sm
    exact HB.out.set1 (t' := { ({ t.en m with losses := t.losses } : RelT) with losses := t.losses + 1 }) 8 (.int .i64 (t.losses + 1)) rfl ⟨D.hd, D.nl, D.ll, D.bb, D.bs, ⟨S.1, by show 0 ≤ t.losses + 1; omega, by show t.losses + 1 + (t.left.toNat : Int) ≤ 1000; omega, S.2.2.2⟩⟩
   ·have HEN := Lib.hid (show t.en m = ({ t.en m with losses := t.losses } : RelT) by unfold RelT.en; rw [if_neg he])
    have he' : (m.e == 9) = false := by simpa using he
    go_wp2_with fail
    go_end0
    exact ⟨rfl, L', ov', by rw [HEN.out]; exact HB.out⟩
end Go.Proofs.YtggjhleomocojaaGreat
namespace Go.Proofs.YtggjhleomocojaaGreat
set_option maxRecDepth 100000
open Go.RowKit
set_option linter.unusedVariables false
set_option linter.unusedSimpArgs false
def RelT.rm (t : RelT) : Prop := t.heard.length + t.left.toNat < 1000 ∧ t.losses + t.left.toNat < 1000
set_option maxHeartbeats 8000000 in
theorem relSettle_any {w0 w : World} {O0 : Nat → Prop} {q : Nat} {L F1 : Nat → Prop} {cur : Option HeaM} {t : RelT} {nv ov : Value} (k : Nat) (hk : t.left.toNat + 1 ≤ k) (hs : cur ≠ none → t.rm) (h : RelB w0 O0 w q L F1 cur t nv ov) :
  Calls Tryz.prog 40 #[ptr q] w fun e w' => e = .returned (.tuple #[]) ∧ (∀ m, (relL k cur t).1 = some m → m.live = true) ∧ ((relL k cur t).1 ≠ none → (relL k cur t).2.rm) ∧ ∃ L' F1' nv' ov', RelB w0 O0 w' q L' F1' (relL k cur t).1 (relL k cur t).2 nv' ov' := by
 have H := Lib.hid h
 have HK := Lib.hid hk
 have HS := Lib.hid hs
 obtain ⟨R, hR⟩ : ∃ R, R = relL k cur t := ⟨_, rfl⟩
 have HR0 := Lib.hid hR
 rw [← hR]
 clear h hk hR hs
 unfold ptr
 go_enter Tryz.func40, Tryz.ntmps40
 go_wp2_with fail
 go_loopg [] (t.left.toNat + 1) (fun gk wr => ∃ (m : Nat) (cr : Option HeaM) (tr : RelT) (Lr Fr : Nat → Prop) (nvr ovr : Value), gk = tr.left.toNat + 1 ∧ tr.left.toNat + 1 ≤ m ∧ RelB w0 O0 wr q Lr Fr cr tr nvr ovr ∧ relL m cr tr = R ∧ (cr ≠ none → tr.rm))
 case atStart => exact ⟨k, cur, t, L, F1, nv, ov, rfl, HK.out, H.out, HR0.out.symm, HS.out⟩
 case round =>
  obtain ⟨m, cr, tr, Lr, Fr, nvr, ovr, hgk0, hgk, hp, hset, hsr⟩ := hrel
  subst hgk0
  have HP := Lib.hid hp
  have HSET := Lib.hid hset
  have ltr := hp.b.lt
  have c6 : wr.cell? ⟨q, 6, none⟩ = some nvr := Blk.cell hp.b 6
  have cc := hp.c
  have HGK := Lib.hid hgk
  have HSR := Lib.hid hsr
  clear hp hset hgk hsr
  cases cr with
  | none =>
   have e : nvr = .pointer none := cc
   subst e
   clear cc
   go_wp2_with fail
   refine (hNext_nil _).mono ?_
   rintro e w1 ⟨rfl, b1⟩
   unfold AA.V
   dsimp only
   have d6 := (b1.cell (p := ⟨q, 6, none⟩) ltr).trans c6
   have HP1 := Lib.hid (HP.out.below b1)
   have lt1 : q < w1.heap.size := Nat.lt_of_lt_of_le ltr b1.size
   clear b1 c6
   go_upto_if 17 with fail
   go_cut [2, 3] from 4 to 46 (fun y2 y3 wx => ∃ (Lx Fx : Nat → Prop) (cx : Option HeaM) (tt : RelT) (kt : Nat) (nvt ovt : Value), RelB w0 O0 wx q Lx Fx cx tt nvt ovt ∧ relL kt none tt = R ∧ tt.left.toNat ≤ kt ∧ tt.left.toNat = tr.left.toNat)
   case first =>
    go_wp2
    go_meet
    exact ⟨Lr, Fr, none, tr, m, .pointer none, ovr, HP1.out.below (by go_grown), HSET.out, Nat.le_of_succ_le HGK.out, rfl⟩
   obtain ⟨Lx, Fx, cx, tt, kt, nvt, ovt, hcw, hrt, hgk, hgl⟩ := hcut
   have HC := Lib.hid hcw
   have HRT := Lib.hid hrt
   have HGK := Lib.hid hgk
   clear hcw hrt hgk
   have ltw := HC.out.b.lt
   have f6 := HC.out.b.frozen 6
   have ct6 : wc.cell? ⟨q, 6, none⟩ = some nvt := Blk.cell HC.out.b 6
   have ct5 : wc.cell? ⟨q, 5, none⟩ = some (.int .i64 tt.left) := Blk.cell HC.out.b 5
   have S1 := Lib.hid (HC.out.set (F1' := fun _ => False) (cur' := none) (nv' := .pointer none) 6 (.pointer none) rfl HC.out.d rfl id (fun i h => h.elim) (fun i h => h.elim))
   have g5 : (wc.setCell ⟨q, 6, none⟩ (.pointer none)).cell? ⟨q, 5, none⟩ = some (.int .i64 tt.left) := Blk.cell S1.out.b 5
   have k5 := S1.out.b.frozen 5
   by_cases hlt : tt.left < 1
   ·have HLT := Lib.hid hlt
    go_wp2
    refine bodyPost_ret (results_none rfl _ _ _) rfl ?_
    have e := HRT.out
    rw [relL_nil _ HLT.out] at e
    subst e
    exact ⟨rfl, (fun m hm => by cases hm), (fun h => absurd rfl h), _, _, _, _, S1.out⟩
   have HLT := Lib.hid hlt
   have hsm := HC.out.d.sm
   have HSM := Lib.hid hsm
   have W1 : IntKind.i64.wrap (tt.left - 1) = tt.left - 1 := IntWalk.i64_in _ ⟨by omega, by omega⟩
   have lts := S1.out.b.lt
   have D1 := S1.out.d
   have S2 := Lib.hid (S1.out.set1 (t' := { tt with left := tt.left - 1 }) 5 (.int .i64 (tt.left - 1)) rfl ⟨D1.hd, D1.nl, D1.ll, D1.bb, D1.bs, by show tt.heard.length + (tt.left - 1).toNat ≤ 1000 ∧ 0 ≤ tt.losses ∧ tt.losses + ((tt.left - 1).toNat : Int) ≤ 1000 ∧ tt.left - 1 ≤ 1000; omega⟩)
   have HRM : Hid (({ tt with left := tt.left - 1 } : RelT).rm) := Lib.hid (by show tt.heard.length + (tt.left - 1).toNat < 1000 ∧ tt.losses + ((tt.left - 1).toNat : Int) < 1000; omega)
   have HLN : Hid ((tt.left - 1).toNat + 1 = tt.left.toNat) := Lib.hid (by omega)
   clear hsm D1
   go_upto_region 7 with fail
   obtain ⟨w2, hw2⟩ : ∃ w2, w2 = (wc.setCell ⟨q, 6, none⟩ (.pointer none)).setCell ⟨q, 5, none⟩ (.int .i64 (tt.left - 1)) := ⟨_, rfl⟩
   rw [← hw2] at S2
   rw [← hw2]
   clear hw2 g5 k5 ct6 ct5 f6
   have h0 : w2.cell? ⟨q, 0, none⟩ = some (.int .i64 tt.b) := Blk.cell S2.out.b 0
   have h1 : w2.cell? ⟨q, 1, none⟩ = some (.int .i64 tt.s) := Blk.cell S2.out.b 1
   have h2 : w2.cell? ⟨q, 2, none⟩ = some (.int .i64 tt.ear.cu) := Blk.cell S2.out.b 2
   have h3 : w2.cell? ⟨q, 3, none⟩ = some (.int .i64 tt.ear.nx) := Blk.cell S2.out.b 3
   have h4 : w2.cell? ⟨q, 4, none⟩ = some (.int .i64 tt.ear.la) := Blk.cell S2.out.b 4
   have lt2 := S2.out.b.lt
   have HD := Lib.hid S2.out.d
   refine wp_region_held_drew (S := fun w' => w'.cell? ⟨q, 0, none⟩ = some (.int .i64 tt.b) ∧ w'.cell? ⟨q, 1, none⟩ = some (.int .i64 tt.s) ∧ w'.cell? ⟨q, 2, none⟩ = some (.int .i64 tt.ear.cu) ∧ w'.cell? ⟨q, 3, none⟩ = some (.int .i64 tt.ear.nx) ∧ w'.cell? ⟨q, 4, none⟩ = some (.int .i64 tt.ear.la)) (by kernel_rfl) ?_ (fun hHeld => ?_)
   ·try dsimp only
    exact ⟨h0, h1, h2, h3, h4⟩
   refine wpT 0 rfl ?_
   try simp only [Act.put, tS]
   refine wpT 1 rfl ?_
   try simp only [Act.put, tS]
   refine wpT 2 rfl ?_
   try simp only [Act.put, tS]
   refine wpT 3 rfl ?_
   try simp only [Act.put, tS]
   refine wpT 4 rfl ?_
   try simp only [Act.put, tS]
   refine wpT 5 rfl ?_
   try simp only [Act.put, tS]
   refine wpT 6 rfl ?_
   try simp only [Act.put, tS]
   refine wpT 7 rfl ?_
   try simp only [Act.put, tS]
   refine wpT 8 rfl ?_
   try simp only [Act.put, tS]
   refine wpR 9 rfl fun K hK => ?_
   go_simp
   go_at_call 82
   refine (hNew_f tt.b tt.s tt.ear _ HD.out.bb.1 HD.out.bb.2 HD.out.bs.1 HD.out.bs.2).mono ?_
   rintro e w3 ⟨p, rfl, hp, hf, b3⟩
   have S3 := Lib.hid (S2.out.below (Below.trans (bel_drewN 1 (Below.refl _ _)) b3))
   have f36 := S3.out.b.frozen 6
   have c36 : w3.cell? ⟨q, 6, none⟩ = some (.pointer none) := Blk.cell S3.out.b 6
   have lt3 := S3.out.b.lt
   have z3 := b3.size
   simp at z3 hp
   have HF := Lib.hid hf
   go_wp2_with fail
   refine hK.out _ _ ?_ (fun hHeld => ?_)
   ·try dsimp only
    exact ⟨Blk.cell S3.out.b 0, Blk.cell S3.out.b 1, Blk.cell S3.out.b 2, Blk.cell S3.out.b 3, Blk.cell S3.out.b 4⟩
   clear hK K
   try simp only [Act.put, tS]
   refine wpT 10 rfl ?_
   try simp only [Act.put, tS]
   refine wpT 11 rfl ?_
   try simp only [Act.put, tS]
   have HNX := Lib.hid (S3.out.set (F1' := fun k => w2.heap.size ≤ k ∧ k < w3.heap.size) (cur' := some (HeaM.init tt.b tt.s tt.ear)) (nv' := ptr p) 6 (ptr p) rfl S3.out.d ⟨p, rfl, HF.out⟩ (fun h => by omega) (fun i hi => ⟨hi.2, fun h => by have := S2.out.d.ll i h; omega, fun h => by obtain ⟨es', _, h8, _⟩ := S2.out.d.hd; have := World.ownsRow.lt h8 i h; omega⟩) (fun i hi => .inr (Nat.le_trans S2.out.k.size hi.1)))
   refine wpR 12 rfl fun K hK => ?_
   go_simp
   refine hK.out _ _ ?_ (fun hHeld => ?_)
   ·try dsimp only
    exact ⟨Blk.cell HNX.out.b 0, Blk.cell HNX.out.b 1, Blk.cell HNX.out.b 2, Blk.cell HNX.out.b 3, Blk.cell HNX.out.b 4⟩
   clear hK K
   try simp only [Act.put, tS]
   refine wpAnyH_done (by kernel_rfl) ?_ _
   clear hHeld
   go_wp2_with fail
   go_roundg ((tt.left - 1).toNat + 1)
   case measure => (have := hgl; have := HLN.out; omega)
   case rel =>
    refine ⟨kt, _, { tt with left := tt.left - 1 }, _, _, _, _, rfl, ?_, HNX.out, ?_, fun _ => HRM.out⟩
    ·show (tt.left - 1).toNat + 1 ≤ kt
     have := HGK.out
     have := HLN.out
     omega
    ·exact (relL_cons kt (fun h => by have := HLT.out; omega)).symm.trans HRT.out
  | some s =>
   obtain ⟨p, e, hsf⟩ := cc
   subst e
   obtain ⟨hfine, O, Rh, mv, hO, hI⟩ := hsf.2.2
   have HI := Lib.hid hI
   clear hO hI hsf hfine
   unfold ptr at c6
   go_wp2_with fail
   refine (hNext_any _ HI.out).mono ?_
   rintro e w1 ⟨s0, sl, sc, rfl, hr, b1⟩
   unfold AA.V
   dsimp only
   have d6 := (b1.cell (p := ⟨q, 6, none⟩) ltr).trans c6
   have HP1 := Lib.hid (HP.out.below b1)
   have lt1 : q < w1.heap.size := Nat.lt_of_lt_of_le ltr b1.size
   clear b1 c6 hr
   by_cases hl : s.live = true
   ·rw [hl]
    have HL := Lib.hid hl
    clear hl
    go_wp2
    refine bodyPost_ret (results_none rfl _ _ _) rfl ?_
    have e := HSET.out
    rw [relL_live _ _ HL.out] at e
    subst e
    exact ⟨rfl, (fun m hm => by cases hm; exact HL.out), HSR.out, Lr, Fr, _, _, HP1.out.below (by go_grown)⟩
   ·have hl' : s.live = false := by simpa using hl
    rw [hl']
    have HL := Lib.hid hl'
    clear hl hl'
    obtain ⟨m', rfl⟩ : ∃ m', m = m' + 1 := ⟨m - 1, by have := HGK.out; omega⟩
    have HST := Lib.hid ((relL_dead m' tr HL.out).symm.trans HSET.out)
    have HGM : Hid (tr.left.toNat ≤ m') := Lib.hid (by have := HGK.out; omega)
    go_upto_if 17 with fail
    go_cut [2, 3] from 4 to 46 (fun y2 y3 wx => ∃ (Lx Fx : Nat → Prop) (cx : Option HeaM) (tt : RelT) (kt : Nat) (nvt ovt : Value), RelB w0 O0 wx q Lx Fx cx tt nvt ovt ∧ relL kt none tt = R ∧ tt.left.toNat ≤ kt ∧ tt.left.toNat = tr.left.toNat)
    case first =>
     go_wp2_with fail
     refine (relNote_any (HP1.out.below (by go_grown)) (HSR.out (by simp))).mono ?_
     rintro e w2 ⟨rfl, L2, ov2, hB2⟩
     have HB2 := Lib.hid hB2
     clear hB2
     go_wp2
     go_meet
     exact ⟨L2, Fr, some s, tr.en s, m', _, ov2, HB2.out, HST.out, HGM.out, rfl⟩
    obtain ⟨Lx, Fx, cx, tt, kt, nvt, ovt, hcw, hrt, hgk, hgl⟩ := hcut
    have HC := Lib.hid hcw
    have HRT := Lib.hid hrt
    have HGK := Lib.hid hgk
    clear hcw hrt hgk
    have ltw := HC.out.b.lt
    have f6 := HC.out.b.frozen 6
    have ct6 : wc.cell? ⟨q, 6, none⟩ = some nvt := Blk.cell HC.out.b 6
    have ct5 : wc.cell? ⟨q, 5, none⟩ = some (.int .i64 tt.left) := Blk.cell HC.out.b 5
    have S1 := Lib.hid (HC.out.set (F1' := fun _ => False) (cur' := none) (nv' := .pointer none) 6 (.pointer none) rfl HC.out.d rfl id (fun i h => h.elim) (fun i h => h.elim))
    have g5 : (wc.setCell ⟨q, 6, none⟩ (.pointer none)).cell? ⟨q, 5, none⟩ = some (.int .i64 tt.left) := Blk.cell S1.out.b 5
    have k5 := S1.out.b.frozen 5
    by_cases hlt : tt.left < 1
    ·have HLT := Lib.hid hlt
     go_wp2
     refine bodyPost_ret (results_none rfl _ _ _) rfl ?_
     have e := HRT.out
     rw [relL_nil _ HLT.out] at e
     subst e
     exact ⟨rfl, (fun m hm => by cases hm), (fun h => absurd rfl h), _, _, _, _, S1.out⟩
    have HLT := Lib.hid hlt
    have hsm := HC.out.d.sm
    have HSM := Lib.hid hsm
    have W1 : IntKind.i64.wrap (tt.left - 1) = tt.left - 1 := IntWalk.i64_in _ ⟨by omega, by omega⟩
    have lts := S1.out.b.lt
    have D1 := S1.out.d
    have S2 := Lib.hid (S1.out.set1 (t' := { tt with left := tt.left - 1 }) 5 (.int .i64 (tt.left - 1)) rfl ⟨D1.hd, D1.nl, D1.ll, D1.bb, D1.bs, by show tt.heard.length + (tt.left - 1).toNat ≤ 1000 ∧ 0 ≤ tt.losses ∧ tt.losses + ((tt.left - 1).toNat : Int) ≤ 1000 ∧ tt.left - 1 ≤ 1000; omega⟩)
    have HRM : Hid (({ tt with left := tt.left - 1 } : RelT).rm) := Lib.hid (by show tt.heard.length + (tt.left - 1).toNat < 1000 ∧ tt.losses + ((tt.left - 1).toNat : Int) < 1000; omega)
    have HLN : Hid ((tt.left - 1).toNat + 1 = tt.left.toNat) := Lib.hid (by omega)
    clear hsm D1
    go_upto_region 7 with fail
    obtain ⟨w2, hw2⟩ : ∃ w2, w2 = (wc.setCell ⟨q, 6, none⟩ (.pointer none)).setCell ⟨q, 5, none⟩ (.int .i64 (tt.left - 1)) := ⟨_, rfl⟩
    rw [← hw2] at S2
    rw [← hw2]
    clear hw2 g5 k5 ct6 ct5 f6
    have h0 : w2.cell? ⟨q, 0, none⟩ = some (.int .i64 tt.b) := Blk.cell S2.out.b 0
    have h1 : w2.cell? ⟨q, 1, none⟩ = some (.int .i64 tt.s) := Blk.cell S2.out.b 1
    have h2 : w2.cell? ⟨q, 2, none⟩ = some (.int .i64 tt.ear.cu) := Blk.cell S2.out.b 2
    have h3 : w2.cell? ⟨q, 3, none⟩ = some (.int .i64 tt.ear.nx) := Blk.cell S2.out.b 3
    have h4 : w2.cell? ⟨q, 4, none⟩ = some (.int .i64 tt.ear.la) := Blk.cell S2.out.b 4
    have lt2 := S2.out.b.lt
    have HD := Lib.hid S2.out.d
    refine wp_region_held_drew (S := fun w' => w'.cell? ⟨q, 0, none⟩ = some (.int .i64 tt.b) ∧ w'.cell? ⟨q, 1, none⟩ = some (.int .i64 tt.s) ∧ w'.cell? ⟨q, 2, none⟩ = some (.int .i64 tt.ear.cu) ∧ w'.cell? ⟨q, 3, none⟩ = some (.int .i64 tt.ear.nx) ∧ w'.cell? ⟨q, 4, none⟩ = some (.int .i64 tt.ear.la)) (by kernel_rfl) ?_ (fun hHeld => ?_)
    ·try dsimp only
     exact ⟨h0, h1, h2, h3, h4⟩
    refine wpT 0 rfl ?_
    try simp only [Act.put, tS]
    refine wpT 1 rfl ?_
    try simp only [Act.put, tS]
    refine wpT 2 rfl ?_
    try simp only [Act.put, tS]
    refine wpT 3 rfl ?_
    try simp only [Act.put, tS]
    refine wpT 4 rfl ?_
    try simp only [Act.put, tS]
    refine wpT 5 rfl ?_
    try simp only [Act.put, tS]
    refine wpT 6 rfl ?_
    try simp only [Act.put, tS]
    refine wpT 7 rfl ?_
    try simp only [Act.put, tS]
    refine wpT 8 rfl ?_
    try simp only [Act.put, tS]
    refine wpR 9 rfl fun K hK => ?_
    go_simp
    go_at_call 82
    refine (hNew_f tt.b tt.s tt.ear _ HD.out.bb.1 HD.out.bb.2 HD.out.bs.1 HD.out.bs.2).mono ?_
    rintro e w3 ⟨p, rfl, hp, hf, b3⟩
    have S3 := Lib.hid (S2.out.below (Below.trans (bel_drewN 1 (Below.refl _ _)) b3))
    have f36 := S3.out.b.frozen 6
    have c36 : w3.cell? ⟨q, 6, none⟩ = some (.pointer none) := Blk.cell S3.out.b 6
    have lt3 := S3.out.b.lt
    have z3 := b3.size
    simp at z3 hp
    have HF := Lib.hid hf
    go_wp2_with fail
    refine hK.out _ _ ?_ (fun hHeld => ?_)
    ·try dsimp only
     exact ⟨Blk.cell S3.out.b 0, Blk.cell S3.out.b 1, Blk.cell S3.out.b 2, Blk.cell S3.out.b 3, Blk.cell S3.out.b 4⟩
    clear hK K
    try simp only [Act.put, tS]
    refine wpT 10 rfl ?_
    try simp only [Act.put, tS]
    refine wpT 11 rfl ?_
    try simp only [Act.put, tS]
    have HNX := Lib.hid (S3.out.set (F1' := fun k => w2.heap.size ≤ k ∧ k < w3.heap.size) (cur' := some (HeaM.init tt.b tt.s tt.ear)) (nv' := ptr p) 6 (ptr p) rfl S3.out.d ⟨p, rfl, HF.out⟩ (fun h => by omega) (fun i hi => ⟨hi.2, fun h => by have := S2.out.d.ll i h; omega, fun h => by obtain ⟨es', _, h8, _⟩ := S2.out.d.hd; have := World.ownsRow.lt h8 i h; omega⟩) (fun i hi => .inr (Nat.le_trans S2.out.k.size hi.1)))
    refine wpR 12 rfl fun K hK => ?_
    go_simp
    refine hK.out _ _ ?_ (fun hHeld => ?_)
    ·try dsimp only
     exact ⟨Blk.cell HNX.out.b 0, Blk.cell HNX.out.b 1, Blk.cell HNX.out.b 2, Blk.cell HNX.out.b 3, Blk.cell HNX.out.b 4⟩
    clear hK K
    try simp only [Act.put, tS]
    refine wpAnyH_done (by kernel_rfl) ?_ _
    clear hHeld
    go_wp2_with fail
    go_roundg ((tt.left - 1).toNat + 1)
    case measure => (have := hgl; have := HLN.out; omega)
    case rel =>
     refine ⟨kt, _, { tt with left := tt.left - 1 }, _, _, _, _, rfl, ?_, HNX.out, ?_, fun _ => HRM.out⟩
     ·show (tt.left - 1).toNat + 1 ≤ kt
      have := HGK.out
      have := HLN.out
      omega
     ·exact (relL_cons kt (fun h => by have := HLT.out; omega)).symm.trans HRT.out
end Go.Proofs.YtggjhleomocojaaGreat
namespace Go.Proofs.YtggjhleomocojaaGreat
set_option maxRecDepth 100000
open Go.RowKit
set_option linter.unusedVariables false
set_option linter.unusedSimpArgs false
variable {q : Nat} {L F1 : Nat → Prop} {t : RelT} {nv ov : Value}
theorem RelB.lt {w0 w : World} {O0 : Nat → Prop} {cur : Option HeaM} (h : RelB w0 O0 w q L F1 cur t nv ov) : ∀ i, (i = q ∨ L i ∨ ov.ownBlock = some i ∨ F1 i) → i < w.heap.size := by
 rintro i (rfl | hi | hi | hi)
 ·exact h.b.lt
 ·exact h.d.ll i hi
 ·obtain ⟨es', _, h8, _⟩ := h.d.hd
  exact (World.ownsRow.lt h8 i hi).2
 ·exact (h.f1 i hi).1
theorem RelB.rebase {w0 w : World} {O0 F : Nat → Prop} {cur : Option HeaM} (h : RelB w0 O0 w q L F1 cur t nv ov) (hF : ∀ i, i < w.heap.size → O0 i ∨ w0.heap.size ≤ i → F i) : RelB w F w q L F1 cur t nv ov :=
 ⟨Keep.refl _ _, h.b, h.d, h.c, h.nq, h.qd, h.f1, fun i hi => .inl (hF i (h.lt i hi) (h.o i hi))⟩
def RelF (w : World) (F : Nat → Prop) (q : Nat) (s : relC.mac.σ) : Prop :=
 F q ∧ (∀ i, F i → i < w.heap.size) ∧ relC.fin s ∧ (s.1 ≠ none → RelT.rm s.2) ∧ ∃ L F1 nv ov, RelB w F w q L F1 s.1 s.2 nv ov
variable {w : World} {s : relC.mac.σ}
theorem RelF.mono {F F' : Nat → Prop} (h : RelF w F q s) (h1 : ∀ i, F i → F' i) (h2 : ∀ i, F' i → i < w.heap.size) : RelF w F' q s := by
 obtain ⟨a1, a2, a3, a4, L, F1, nv, ov, hb⟩ := h
 exact ⟨h1 q a1, h2, a3, a4, L, F1, nv, ov, ⟨Keep.refl _ _, hb.b, hb.d, hb.c, hb.nq, hb.qd, hb.f1, fun i hi => (hb.o i hi).imp_left (h1 i)⟩⟩
theorem RelF.keep {w w' : World} {F K : Nat → Prop} (h : RelF w F q s) (k : Keep K w w') (hd : ∀ i, F i → ¬ K i) : RelF w' F q s := by
 obtain ⟨a1, a2, a3, a4, L, F1, nv, ov, hb⟩ := h
 have ho : ∀ i, (i = q ∨ L i ∨ ov.ownBlock = some i ∨ F1 i) → F i := fun i hi => (hb.o i hi).resolve_right (by have := hb.lt i hi; omega)
 exact ⟨a1, fun i hi => Nat.lt_of_lt_of_le (a2 i hi) k.size, a3, a4, L, F1, nv, ov, ⟨Keep.refl _ _, hb.b.keep k (hd q a1), hb.d.keep k (fun i hi => hd i (ho i (.inr (.inl hi)))) (fun i hi => hd i (ho i (.inr (.inr (.inl hi))))),
  hb.c.keep k (fun i hi => hd i (ho i (.inr (.inr (.inr hi))))), hb.nq, hb.qd, fun i hi => ⟨Nat.lt_of_lt_of_le (hb.f1 i hi).1 k.size, (hb.f1 i hi).2⟩, fun i hi => .inl (ho i hi)⟩⟩
variable {F : Nat → Prop}
theorem RelF.below {w w' : World} (h : RelF w F q s) (b : Below w.heap.size w w') : RelF w' F q s := h.keep (K := fun _ => False) (Below.keeps b) (fun _ _ => id)
theorem RelB.take {w0 w w' : World} {O0 : Nat → Prop} {q p : Nat} {L F1 F2 : Nat → Prop} {m m' : HeaM} {ov : Value} (h : RelB w0 O0 w q L F1 (some m) t (ptr p) ov) (hs : HeaF w' F2 p m') (hg : ∀ i, F2 i → F1 i ∨ w.heap.size ≤ i) (k : Keep F1 w w') : RelB w0 O0 w' q L F2 (some m') t (ptr p) ov := by
 have hlt := h.lt
 have hn : ∀ i, i < w.heap.size → ¬ F1 i → ¬ F2 i := fun i hi hf h2 => (hg i h2).elim hf (by omega)
 refine ⟨h.k.then k (fun i hi hf => (h.o i (.inr (.inr (.inr hf)))).resolve_right (by omega)), h.b.keep k h.nq.2, h.d.keep k (fun i hi hf => (h.f1 i hf).2.1 hi) (fun i hi hf => (h.f1 i hf).2.2 hi), ⟨p, rfl, hs⟩, ⟨h.nq.1, hn q h.b.lt h.nq.2⟩, h.qd, fun i hi => ⟨hs.2.1 i hi, ?_, ?_⟩, ?_⟩
 ·intro hl
  exact hn i (h.d.ll i hl) (fun hf => (h.f1 i hf).2.1 hl) hi
 ·intro hl
  exact hn i (hlt i (.inr (.inr (.inl hl)))) (fun hf => (h.f1 i hf).2.2 hl) hi
 ·rintro i (hi | hi | hi | hi)
  ·exact h.o i (.inl hi)
  ·exact h.o i (.inr (.inl hi))
  ·exact h.o i (.inr (.inr (.inl hi)))
  ·rcases hg i hi with h1 | h1
   ·exact h.o i (.inr (.inr (.inr h1)))
   ·exact .inr (Nat.le_trans h.k.size h1)
set_option maxHeartbeats 2000000 in
theorem relNext_of {nv : Value} {W : AA} {L : Bool} (w : World) (hlt : q < w.heap.size) (c3 : w.cell? ⟨q, 6, none⟩ = some nv)
  (hc : ∀ w1, Below w.heap.size w w1 → Calls Tryz.prog 80 #[nv] w1 fun e w' => ∃ s0 sl sc, e = .returned (.tuple #[W.V (.slice s0 sl sc), .bool L]) ∧ RdB w' (.slice s0 sl sc) W.b ∧ Below w1.heap.size w1 w') :
  Calls Tryz.prog 194 #[ptr q] w fun e w' => ∃ s0 sl sc, e = .returned (.tuple #[W.V (.slice s0 sl sc), .bool L]) ∧ RdB w' (.slice s0 sl sc) W.b ∧ Below w.heap.size w w' := by
 have HC := Lib.hid hc
 clear hc
 unfold ptr
 go_enter Tryz.func194, Tryz.ntmps194
 go_wp2_with fail
 refine (HC.out (w.alloc (.cells #[.int .i64 0, .int .i64 0, .int .i64 0, .int .u64 0, .int .u64 0, .slice none 0 0] 72)) ((Below.refl w.heap.size w).alloc (Nat.le_refl _) _)).mono ?_
 rintro e w1 ⟨s0, sl, sc, rfl, hr, b1⟩
 unfold AA.V
 dsimp only
 have z1 := b1.size
 simp at z1
 have A1 := Lib.hid (Blk.below (Blk.made w #[.int .i64 0, .int .i64 0, .int .i64 0, .int .u64 0, .int .u64 0, .slice none 0 0] 72) b1 (by simp))
 have B1 : Below w.heap.size w w1 := ((Below.refl w.heap.size w).alloc (Nat.le_refl _) _).trans (b1.mono (by simp))
 have y1 : w.heap.size < w1.heap.size := by omega
 have HR := Lib.hid hr
 clear b1 hr
 have a0 := A1.out.cell 0
 have a1 := A1.out.cell 1
 have a2 := A1.out.cell 2
 have a3 := A1.out.cell 3
 have a4 := A1.out.cell 4
 have a5 := A1.out.cell 5
 have e0 := A1.out.frozen 0
 have e1 := A1.out.frozen 1
 have e2 := A1.out.frozen 2
 have e3 := A1.out.frozen 3
 have e4 := A1.out.frozen 4
 have e5 := A1.out.frozen 5
 simp only [List.getElem?_toArray, List.getElem?_cons_zero, List.getElem?_cons_succ] at a0 a1 a2 a3 a4 a5
 go_wp2
 refine bodyPost_ret (v := .tuple #[W.V (.slice s0 sl sc), .bool L]) (res_aa (c := W) rfl rfl rfl (((((((A1.out.set 0 _).set 1 _).set 2 _).set 3 _).set 4 _).set 5 _))) rfl ⟨s0, sl, sc, rfl, ?_, ?_⟩
 ·refine HR.out.keep (K := (· = w.heap.size)) ?_ (fun h => HR.out.apart h A1.out rfl)
  repeat' (refine Keep.setCell (M := (· = w.heap.size)) ?_ (Or.inl (by simp)) _)
  exact Keep.refl _ _
 ·repeat' (refine Below.setCell ?_ (by simp; try omega) _)
  exact B1
theorem relNext_any (h : RelF w F q s) :
  Calls Tryz.prog 194 #[ptr q] w fun e w' => ∃ s0 sl sc, e = .returned (.tuple #[(relC.mac.want s).V (.slice s0 sl sc), .bool (relC.mac.live s)]) ∧ RdB w' (.slice s0 sl sc) (relC.mac.want s).b ∧ Below w.heap.size w w' := by
 obtain ⟨cur, t⟩ := s
 obtain ⟨a1, a2, a3, a4, L, F1, nv, ov, hb⟩ := h
 refine relNext_of w (a2 q a1) (Blk.cell hb.b 6) (fun w1 b1 => ?_)
 cases cur with
 | none =>
  have e : nv = .pointer none := hb.c
  subst e
  refine (hNext_nil w1).mono ?_
  rintro e w2 ⟨rfl, b2⟩
  exact ⟨none, 0, 0, rfl, .inl ⟨rfl, rfl⟩, b2⟩
 | some m =>
  obtain ⟨p, rfl, hs⟩ := (hb.below b1).c
  obtain ⟨hf, O, R, mv, hO, hI⟩ := hs.2.2
  have hl : m.live = true := a3 m rfl
  refine (hNext_any w1 hI).mono ?_
  rintro e w2 ⟨s0, sl, sc, rfl, hr, b2⟩
  exact ⟨s0, sl, sc, by rw [hl]; rfl, hr, b2⟩
def RelTo (w : World) (F : Nat → Prop) (q : Nat) (s : relC.mac.σ) (w' : World) : Prop := ∃ F', RelF w' F' q s ∧ (∀ i, F' i → F i ∨ w.heap.size ≤ i) ∧ Keep F w w'
theorem relTo_of {w w' : World} (hF : F q) (h : RelB w F w' q L F1 s.1 s.2 nv ov) (hf : relC.fin s) (hs : s.1 ≠ none → RelT.rm s.2) : RelTo w F q s w' :=
 ⟨fun i => (F i ∨ w.heap.size ≤ i) ∧ i < w'.heap.size, ⟨⟨.inl hF, h.b.lt⟩, fun i hi => hi.2, hf, hs, L, F1, nv, ov, h.rebase fun i h1 h2 => ⟨h2, h1⟩⟩, fun i hi => hi.1, h.k⟩
set_option maxHeartbeats 2000000 in
theorem relTake_any (x : AN) (s0 : Option Addr) (sl sc : Nat) (h : RelF w F q s) (hl : relC.mac.live s = true) (hx : AN.ok (relC.mac.want s) x) (hr : RdB w (.slice s0 sl sc) x.b) :
  Calls Tryz.prog 195 #[ptr q, .agg #[.int .u64 x.v, .bool x.d, .slice s0 sl sc]] w fun e w' => e = .returned (.tuple #[]) ∧ RelTo w F q (relC.mac.step s x) w' := by
 obtain ⟨cur, t⟩ := s
 obtain ⟨a1, a2, a3, a4, L, F1, nv, ov, hb⟩ := h
 cases cur with
 | none => cases hl
 | some m =>
  obtain ⟨p, rfl, hs⟩ := hb.c
  have hml : m.live = true := a3 m rfl
  have hxa : AN.ok m.want x := hx
  obtain ⟨hxv, hxb⟩ := hea_xan hxa
  have hlt := a2 q a1
  have c3 : w.cell? ⟨q, 6, none⟩ = some (ptr p) := Blk.cell hb.b 6
  have HB := Lib.hid hb
  have HSF := Lib.hid hs
  have H4 := Lib.hid (a4 (by simp))
  have HFQ := Lib.hid a1
  have HF1 := Lib.hid (fun i (hi : F1 i) => (hb.f1 i hi).1)
  have HNQ := Lib.hid hb.nq.2
  obtain ⟨v, hv⟩ : ∃ v, v = x.v := ⟨_, rfl⟩
  obtain ⟨d, hd⟩ : ∃ d, d = x.d := ⟨_, rfl⟩
  have HC : Hid (∀ w1, Below w.heap.size w w1 → Calls Tryz.prog 196 #[.pointer (some ⟨p, 0, none⟩), .agg #[.int .u64 v, .bool d, .slice s0 sl sc]] w1 fun e w' => e = .returned (.tuple #[]) ∧ (∃ F2, RelB w F w' q L F2 (some (m.step x)) t (ptr p) ov) ∧ Keep F1 w1 w') := Lib.hid (by
   intro w1 b1
   rw [hv, hd]
   refine (hTake_f x s0 sl sc w1 (hs.below b1) hml hxv hxb (hr.below b1)).mono ?_
   rintro e w' ⟨rfl, F', g1, g2, g3⟩
   exact ⟨rfl, ⟨F', (hb.below b1).take g1 g2 g3⟩, g3⟩)
  rw [← hv, ← hd]
  clear hb hs hml hx hxv hxb hxa hr a4 a1 a2 a3 hv hd
  unfold ptr at c3
  unfold ptr
  go_enter Tryz.func195, Tryz.ntmps195
  go_wp2_with fail
  go_region_held3 (fun w' => w'.cell? ⟨w.heap.size, 0, none⟩ = some (.int .u64 v) ∧ w'.cell? ⟨w.heap.size, 1, none⟩ = some (.bool d) ∧ w'.cell? ⟨w.heap.size, 2, none⟩ = some (.slice s0 sl sc) ∧ w'.cell? ⟨q, 6, none⟩ = some (.pointer (some ⟨p, 0, none⟩))) (first | go_keep | trivial)
   (first
    | (go_at_call 196; refine (HC.out _ (by go_grown)).mono ?_; rintro e w2 ⟨rfl, hQ, hk⟩; have hc := fun o => hk.cell (b := w.heap.size) o (by simp) (fun h => by have := HF1.out _ h; omega); have hc3 := fun o => hk.cell (b := q) o (by simp; omega) HNQ.out))
  all_goals (
   clear hc hc3
   obtain ⟨F2, hQ⟩ := hQ
   have HQ := Lib.hid hQ
   clear hQ hk
   go_wp2_with fail
   refine (relSettle_any (cur := some (m.step x)) (t := t) (t.left.toNat + 2) (by omega) (fun _ => H4.out) (HQ.out.below (by go_grown))).mono ?_
   rintro e w5 ⟨rfl, hlive, hs5, L5, F5, nv5, ov5, hB5⟩
   have HB5 := Lib.hid hB5
   have HL5 := Lib.hid hlive
   have HS5 := Lib.hid hs5
   clear hB5 hlive hs5
   go_wp2
   go_end0
   exact ⟨rfl, relTo_of (s := relC.mac.step (some m, t) x) HFQ.out HB5.out HL5.out HS5.out⟩)
theorem rel_wf (h : RelF w F q s) : (relC.mac.want s).wf := by
 obtain ⟨cur, t⟩ := s
 obtain ⟨a1, a2, a3, a4, L, F1, nv, ov, hb⟩ := h
 cases cur with
 | none => exact aaZ_wf
 | some m =>
  obtain ⟨p, _, hs⟩ := hb.c
  exact hs.2.2.1.wf
theorem relM_next (b : Nat) (w : World) : (method (Tryz.prog.types.size + Made.depth) 43 (.pointer (some ⟨b, 0, none⟩)) "Next").run Tryz.prog w = .ok (194, .pointer (some ⟨b, 0, none⟩)) w := by kernel_rfl
theorem relM_take (b : Nat) (w : World) : (method (Tryz.prog.types.size + Made.depth) 43 (.pointer (some ⟨b, 0, none⟩)) "Take").run Tryz.prog w = .ok (195, .pointer (some ⟨b, 0, none⟩)) w := by kernel_rfl
theorem relE_next (args : Array Value) (w : World) : (callFunc 194 args).run Tryz.prog w = .ok (.enter 194 args) w :=
 enters_of Tryz.func194 (by kernel_rfl) rfl args w
theorem relE_take (args : Array Value) (w : World) : (callFunc 195 args).run Tryz.prog w = .ok (.enter 195 args) w :=
 enters_of Tryz.func195 (by kernel_rfl) rfl args w
def relFam : Fam where
 M := relC.mac
 inv := fun w F q s => RelF w F q s
 ty := fun _ => 43
 fn := fun _ => 194
 ft := fun _ => 195
 mn := fun _ b w => relM_next b w
 mt := fun _ b w => relM_take b w
 en := fun _ args w => relE_next args w
 et := fun _ args w => relE_take args w
 ts := fun _ _ => rfl
 dom := fun h => ⟨h.1, h.2.1⟩
 mono := fun h k1 k2 => RelF.mono h k1 k2
 keep := fun h k hd => RelF.keep h k hd
 wf := fun {w F q s} h => rel_wf h
 next := fun {w F q s} h => relNext_any h
 take := fun {w F q s x s0 sl sc} h hl hx hr => by
  refine (relTake_any x s0 sl sc h hl hx hr).mono ?_
  rintro e w' ⟨rfl, F', g1, g2, g3⟩
  exact ⟨rfl, F', g1, g2, g3⟩
end Go.Proofs.YtggjhleomocojaaGreat
