/- A hear's closures: bytes. Conditions: as each says. -/
import Derived.Test.YtggjhleomocojaaGreatNm
import Derived.Test.YtggjhleomocojaaGreatNo
namespace Go.Proofs.YtggjhleomocojaaGreat
set_option maxRecDepth 100000
open Go.RowKit
set_option linter.unusedVariables false
set_option linter.unusedSimpArgs false
set_option maxHeartbeats 12000000 in
theorem hBytes2_any {O R : Nat → Prop} {q : Nat} {m : HeaM} {mv : Value} (pb sb tb bb : Nat) (sz typ : Int) (l : List Int) (b0 : Option Addr) (bl bc : Nat) (w : World) (h : HeaW w O R q m mv) (hp : Blk w pb [ptr q]) (hs : Blk w sb [.int .i64 sz]) (ht : Blk w tb [.int .i32 typ]) (hb : Blk w bb [.slice b0 bl bc]) (np : pb ≠ q) (ns : sb ≠ q) (nt : tb ≠ q) (nb : bb ≠ q)
  (hr : RdB w (.slice b0 bl bc) l) (ho : ∀ i, (Value.slice b0 bl bc).ownBlock = some i → O i) :
  Calls Tryz.prog 162 #[ptr pb, ptr sb, ptr tb, ptr bb] w fun e w' => e = .returned (.tuple #[]) ∧ HeaTo w O R q { m with pc := .done, cu := s64 m.c, nx := s64 (s64 m.c + sz), msg := (typ, l), heard := true, e := 0 } w' := by
 have H := Lib.hid h
 have hlt := h.lt
 obtain ⟨_, _, c9, c10, _, c12, _, c14, c15, c16, c17⟩ := hea_cells h.mch
 have f9 := Blk.frozen h.mch 9
 have f10 := Blk.frozen h.mch 10
 have p0 := hp.cell 0
 have s0 := hs.cell 0
 simp only [List.getElem?_cons_zero, ptr] at p0 s0
 have W1 : IntKind.i64.wrap m.c = s64 m.c := by rw [IntKind.wrap_i64]; rfl
 have W2 : IntKind.i64.wrap (s64 m.c + sz) = s64 (s64 m.c + sz) := by rw [IntKind.wrap_i64]; rfl
 have HR := Lib.hid hr
 have HO := Lib.hid ho
 have HB := Lib.hid (show Blk w q (accZ.cs ++ Value.nilFunc :: m.rest mv) from h.mch)
 have HP := Lib.hid (And.intro hp (And.intro hs (And.intro ht hb)))
 clear h hp hs ht hb hr ho c14 c15 c16 c17
 unfold ptr
 go_enter Tryz.func162, Tryz.ntmps162
 go_upto_region 0 with fail
 go_cut [] from 4 to 35 (fun wx => Blk wx q (accZ.cs ++ Value.nilFunc :: ({ m with cu := s64 m.c, nx := s64 (s64 m.c + sz) } : HeaM).rest mv) ∧ Keep (· = q) w wx)
 case first =>
  refine wp_region_held_drew (S := fun w' => w'.cell? ⟨pb, 0, none⟩ = some (.pointer (some ⟨q, 0, none⟩)) ∧ w'.cell? ⟨sb, 0, none⟩ = some (.int .i64 sz) ∧ w'.cell? ⟨q, 12, none⟩ = some (.int .u64 m.c)) (by kernel_rfl) ?_ (fun hHeld => ?_)
  ·try dsimp only
   exact ⟨p0, s0, c12⟩
  refine wpT 0 rfl ?_
  try simp only [Act.put, tS]
  refine wpT 1 rfl ?_
  try simp only [Act.put, tS]
  refine wpT 2 rfl ?_
  try simp only [Act.put, tS]
  refine wpT 3 rfl ?_
  try simp only [Act.put, tS]
  refine wpT 4 rfl ?_
  try simp only [Act.put, tS]
  refine wpT 5 rfl ?_
  try simp only [Act.put, tS]
  refine wpT 6 rfl ?_
  try simp only [Act.put, tS]
  refine wpT 7 rfl ?_
  try simp only [Act.put, tS]
  refine wpT 8 rfl ?_
  try simp only [Act.put, tS]
  refine wpT 9 rfl ?_
  try simp only [Act.put, tS]
  refine wpT 10 rfl ?_
  try simp only [Act.put, tS]
  refine wpT 11 rfl ?_
  try simp only [Act.put, tS]
  refine wpT 12 rfl ?_
  try simp only [Act.put, tS]
  refine wpT 13 rfl ?_
  try simp only [Act.put, tS]
  refine wpT 14 rfl ?_
  try simp only [Act.put, tS]
  refine wpT 15 rfl ?_
  try simp only [Act.put, tS]
  refine wpT 16 rfl ?_
  try simp only [Act.put, tS]
  refine wpR 17 rfl fun K hK => ?_
  go_simp
  refine hK.out _ _ ?_ (fun hHeld => ?_)
  ·try dsimp only
   exact ⟨(((Keep.refl (· = q) w).setCell (p := ⟨q, 9, none⟩) (.inl rfl) _).cell (b := pb) 0 HP.out.1.lt np).trans p0, (((Keep.refl (· = q) w).setCell (p := ⟨q, 9, none⟩) (.inl rfl) _).cell (b := sb) 0 HP.out.2.1.lt ns).trans s0, Blk.cell (Blk.set HB.out 9 _) 12⟩
  clear hK K
  try simp only [Act.put, tS]
  refine wpT 18 rfl ?_
  try simp only [Act.put, tS]
  refine wpT 19 rfl ?_
  try simp only [Act.put, tS]
  refine wpT 20 rfl ?_
  try simp only [Act.put, tS]
  refine wpR 21 rfl fun K hK => ?_
  go_simp
  refine hK.out _ _ ?_ (fun hHeld => ?_)
  ·try dsimp only
   exact ⟨((((Keep.refl (· = q) w).setCell (p := ⟨q, 9, none⟩) (.inl rfl) _).setCell (p := ⟨q, 10, none⟩) (.inl rfl) _).cell (b := pb) 0 HP.out.1.lt np).trans p0, ((((Keep.refl (· = q) w).setCell (p := ⟨q, 9, none⟩) (.inl rfl) _).setCell (p := ⟨q, 10, none⟩) (.inl rfl) _).cell (b := sb) 0 HP.out.2.1.lt ns).trans s0, Blk.cell (Blk.set (Blk.set HB.out 9 _) 10 _) 12⟩
  clear hK K
  try simp only [Act.put, tS]
  refine wpAnyH_done (by kernel_rfl) ?_ _
  go_wp2_with fail
  go_meet
  exact ⟨Blk.drew (Blk.set (Blk.set HB.out 9 _) 10 _), (((Keep.refl (· = q) w).setCell (p := ⟨q, 9, none⟩) (.inl rfl) _).setCell (p := ⟨q, 10, none⟩) (.inl rfl) _).drew⟩
 case rest =>
  obtain ⟨B1, k1⟩ := hcut
  obtain ⟨_, _, _, _, _, _, _, c14, c15, c16, c17⟩ := hea_cells (m := { m with cu := s64 m.c, nx := s64 (s64 m.c + sz) }) B1
  dsimp only at c14 c15 c16 c17
  have f14 := Blk.frozen B1 14
  have f15 := Blk.frozen B1 15
  have f16 := Blk.frozen B1 16
  have f17 := Blk.frozen B1 17
  have hq := Blk.lt B1
  have P1 := HP.out.1.keep k1 np
  have T1 := HP.out.2.2.1.keep k1 nt
  have X1 := HP.out.2.2.2.keep k1 nb
  have L1 := And.intro P1.lt (And.intro T1.lt X1.lt)
  have p1 := P1.cell 0
  have t1 := T1.cell 0
  have x1 := X1.cell 0
  simp only [List.getElem?_cons_zero, ptr] at p1 t1 x1
  have HB1 := Lib.hid B1
  have K1 := Lib.hid k1
  have Z1 := Lib.hid k1.size
  clear B1 k1 P1 T1 X1 p0 s0 c9 c10 c12 f9 f10
  have HFIN : Hid (∀ wx : World, Blk wx q (accZ.cs ++ Value.nilFunc :: ({ m with pc := .done, cu := s64 m.c, nx := s64 (s64 m.c + sz), msg := (typ, l), heard := true, e := 0 } : HeaM).rest (.slice b0 bl bc)) → Keep (fun i => i = q ∨ R i) w wx → HeaTo w O R q { m with pc := .done, cu := s64 m.c, nx := s64 (s64 m.c + sz), msg := (typ, l), heard := true, e := 0 } wx) := Lib.hid (by
   intro wx hB hK
   have h := H.out
   exact ⟨O, R, .slice b0 bl bc, HeaW.stop ⟨hB, HR.out.keepP hK (fun i hi e => e.elim (fun e => h.nqo (e ▸ HO.out i hi)) (fun e => h.dj i (HO.out i hi) e)), HO.out, h.nqo, h.nqr, h.dj, fun i hi => Nat.lt_of_lt_of_le (h.lo i hi) hK.size, h.ok, h.fc, h.pd⟩ rfl, fun i hi => hi.elim .inl (fun h => .inr (.inl h)), hK⟩)
  go_upto_region 1 with fail
  refine wp_region_held_drew (S := fun w' => w'.cell? ⟨pb, 0, none⟩ = some (.pointer (some ⟨q, 0, none⟩)) ∧ w'.cell? ⟨tb, 0, none⟩ = some (.int .i32 typ) ∧ w'.cell? ⟨bb, 0, none⟩ = some (.slice b0 bl bc)) (by kernel_rfl) ?_ (fun hHeld => ?_)
  ·try dsimp only
   exact ⟨p1, t1, x1⟩
  refine wpT 0 rfl ?_
  try simp only [Act.put, tS]
  refine wpT 1 rfl ?_
  try simp only [Act.put, tS]
  refine wpT 2 rfl ?_
  try simp only [Act.put, tS]
  refine wpT 3 rfl ?_
  try simp only [Act.put, tS]
  refine wpT 4 rfl ?_
  try simp only [Act.put, tS]
  refine wpT 5 rfl ?_
  try simp only [Act.put, tS]
  refine wpT 6 rfl ?_
  try simp only [Act.put, tS]
  refine wpT 7 rfl ?_
  try simp only [Act.put, tS]
  refine wpR 8 rfl fun K hK => ?_
  go_simp
  refine hK.out _ _ ?_ (fun hHeld => ?_)
  ·try dsimp only
   exact ⟨((((Keep.refl (· = q) wc).setCell (p := ⟨q, 14, none⟩) (.inl rfl) _).setCell (p := ⟨q, 15, none⟩) (.inl rfl) _).cell (b := pb) 0 L1.1 np).trans p1, ((((Keep.refl (· = q) wc).setCell (p := ⟨q, 14, none⟩) (.inl rfl) _).setCell (p := ⟨q, 15, none⟩) (.inl rfl) _).cell (b := tb) 0 L1.2.1 nt).trans t1, ((((Keep.refl (· = q) wc).setCell (p := ⟨q, 14, none⟩) (.inl rfl) _).setCell (p := ⟨q, 15, none⟩) (.inl rfl) _).cell (b := bb) 0 L1.2.2 nb).trans x1⟩
  clear hK K
  try simp only [Act.put, tS]
  refine wpT 9 rfl ?_
  try simp only [Act.put, tS]
  refine wpT 10 rfl ?_
  try simp only [Act.put, tS]
  refine wpR 11 rfl fun K hK => ?_
  go_simp
  refine hK.out _ _ ?_ (fun hHeld => ?_)
  ·try dsimp only
   exact ⟨(((((Keep.refl (· = q) wc).setCell (p := ⟨q, 14, none⟩) (.inl rfl) _).setCell (p := ⟨q, 15, none⟩) (.inl rfl) _).setCell (p := ⟨q, 16, none⟩) (.inl rfl) _).cell (b := pb) 0 L1.1 np).trans p1, (((((Keep.refl (· = q) wc).setCell (p := ⟨q, 14, none⟩) (.inl rfl) _).setCell (p := ⟨q, 15, none⟩) (.inl rfl) _).setCell (p := ⟨q, 16, none⟩) (.inl rfl) _).cell (b := tb) 0 L1.2.1 nt).trans t1, (((((Keep.refl (· = q) wc).setCell (p := ⟨q, 14, none⟩) (.inl rfl) _).setCell (p := ⟨q, 15, none⟩) (.inl rfl) _).setCell (p := ⟨q, 16, none⟩) (.inl rfl) _).cell (b := bb) 0 L1.2.2 nb).trans x1⟩
  clear hK K
  try simp only [Act.put, tS]
  refine wpT 12 rfl ?_
  try simp only [Act.put, tS]
  refine wpT 13 rfl ?_
  try simp only [Act.put, tS]
  refine wpR 14 rfl fun K hK => ?_
  go_simp
  refine hK.out _ _ ?_ (fun hHeld => ?_)
  ·try dsimp only
   exact ⟨((((((Keep.refl (· = q) wc).setCell (p := ⟨q, 14, none⟩) (.inl rfl) _).setCell (p := ⟨q, 15, none⟩) (.inl rfl) _).setCell (p := ⟨q, 16, none⟩) (.inl rfl) _).setCell (p := ⟨q, 17, none⟩) (.inl rfl) _).cell (b := pb) 0 L1.1 np).trans p1, ((((((Keep.refl (· = q) wc).setCell (p := ⟨q, 14, none⟩) (.inl rfl) _).setCell (p := ⟨q, 15, none⟩) (.inl rfl) _).setCell (p := ⟨q, 16, none⟩) (.inl rfl) _).setCell (p := ⟨q, 17, none⟩) (.inl rfl) _).cell (b := tb) 0 L1.2.1 nt).trans t1, ((((((Keep.refl (· = q) wc).setCell (p := ⟨q, 14, none⟩) (.inl rfl) _).setCell (p := ⟨q, 15, none⟩) (.inl rfl) _).setCell (p := ⟨q, 16, none⟩) (.inl rfl) _).setCell (p := ⟨q, 17, none⟩) (.inl rfl) _).cell (b := bb) 0 L1.2.2 nb).trans x1⟩
  clear hK K
  try simp only [Act.put, tS]
  refine wpAnyH_done (by kernel_rfl) ?_ _
  go_wp2_with fail
  go_end0
  exact ⟨rfl, HFIN.out _ (Blk.drew (Blk.set (Blk.set (Blk.set (Blk.set HB1.out 14 _) 15 _) 16 _) 17 _)) ((((((Keep.refl (fun i => i = q ∨ R i) w).trans (K1.out.mono (fun i _ e => .inl e))).setCell (p := ⟨q, 14, none⟩) (.inl (.inl rfl)) _).setCell (p := ⟨q, 15, none⟩) (.inl (.inl rfl)) _).setCell (p := ⟨q, 16, none⟩) (.inl (.inl rfl)) _).setCell (p := ⟨q, 17, none⟩) (.inl (.inl rfl)) _).drew⟩
end Go.Proofs.YtggjhleomocojaaGreat
namespace Go.Proofs.YtggjhleomocojaaGreat
set_option maxRecDepth 100000
open Go.RowKit
set_option linter.unusedVariables false
set_option linter.unusedSimpArgs false
theorem enHNew : En 117 := enters_of Tryz.func117 (by kernel_rfl) rfl
theorem enHNew2 : En 120 := enters_of Tryz.func120 (by kernel_rfl) rfl
theorem enHNew3 : En 121 := enters_of Tryz.func121 (by kernel_rfl) rfl
theorem enHValid : En 139 := enters_of Tryz.func139 (by kernel_rfl) rfl
theorem enHRecord : En 119 := enters_of Tryz.func119 (by kernel_rfl) rfl
theorem enHRecordK : En 141 := enters_of Tryz.func141 (by kernel_rfl) rfl
theorem enHRecord2 : En 143 := enters_of Tryz.func143 (by kernel_rfl) rfl
theorem enHLost : En 142 := enters_of Tryz.func142 (by kernel_rfl) rfl
theorem enHBytes2 : En 162 := enters_of Tryz.func162 (by kernel_rfl) rfl
variable {O R : Nat → Prop} {q : Nat} {m : HeaM} {mv : Value}
theorem HeaI.w {w w1 : World} (h : HeaI w O R q m mv) (hf : m.fine) (hl : m.live = true) (m1 : Mch w1 q accZ .nilFunc (m.rest mv)) (k1 : Keep (· = q) w w1) : HeaW w1 O R q m mv :=
 ⟨m1, h.rd.keepP k1 (fun i hi e => h.nqo (e ▸ h.ob i hi)), h.ob, h.nqo, h.nqr, h.dj, fun i hi => Nat.lt_of_lt_of_le (h.lo i hi) k1.size, hf.ok hl, hf.fc, hf.pd⟩
theorem HeaI.lt {w : World} (h : HeaI w O R q m mv) : q < w.heap.size := by
 obtain ⟨c, t, hm⟩ := h.at_.mch
 exact Blk.lt hm
theorem HeaI.keep {w w' : World} {O R M : Nat → Prop} (h : HeaI w O R q m mv) (k : Keep M w w') (hd : ∀ i, O i → ¬ M i) (hr : ∀ i, R i → ¬ M i) (hq : ¬ M q) : HeaI w' O R q m mv :=
 ⟨h.at_.keep k hd hr hq, h.rd.keepP k (fun i hi => hd i (h.ob i hi)), h.ob, h.nqo, h.nqr, h.dj, fun i hi => Nat.lt_of_lt_of_le (h.lo i hi) k.size⟩
theorem HeaI.below {w w' : World} (h : HeaI w O R q m mv) (b : Below w.heap.size w w') : HeaI w' O R q m mv := h.keep (M := fun _ => False) (Below.keeps b) (fun _ _ => id) (fun _ _ => id) id
set_option maxHeartbeats 4000000 in
theorem hcTake_rd {b s cu nx la c pads e : Int} {msg : Int × List Int} {heard : Bool} {sz typ p n : Int} {hv : List Int} (x : AN) (s0 : Option Addr) (sl sc : Nat) (w : World) (h : HeaI w O R q ⟨b, s, .rd sz typ p n hv, cu, nx, la, c, pads, msg, heard, e⟩ mv) (hf : (HeaM.mk b s (.rd sz typ p n hv) cu nx la c pads msg heard e).fine) (hxb : x.b.length ≤ 1000) (hr : RdB w (.slice s0 sl sc) x.b) :
  Calls Tryz.prog 192 #[.pointer (some ⟨q, 0, none⟩), .agg #[.int .u64 x.v, .bool x.d, .slice s0 sl sc]] w fun e' w' => e' = .returned (.tuple #[]) ∧ HeaTo w O R q ((HeaM.mk b s (.rd sz typ p n hv) cu nx la c pads msg heard e).step x) w' := by
 have hok := hf.ok rfl
 obtain ⟨f1, f2, f3, f4⟩ := hf.pc
 obtain ⟨t, hvv, fv, hm, hk, hown, hvR, hc⟩ := h.at_
 have hlt := h.lt
 obtain ⟨cb, ab, kb, nb, hbk, fb, rfl, ⟨h1, h2, h3, h4, h5, h6⟩, o1, o2, o3, o4, o5, o6⟩ := hk
 obtain ⟨gb, sb, tb, rfl, ⟨hg, og⟩, ⟨hs, os⟩, ht, ot⟩ := hc.c3
 obtain ⟨N, rfl⟩ : ∃ N : Nat, n = N := ⟨n.toNat, by omega⟩
 obtain ⟨K, hK⟩ : ∃ K : Nat, min (N : Int) 8 = (K : Int) := ⟨(min (N : Int) 8).toNat, by omega⟩
 rw [hK] at h3
 refine cTake_any q _ _ _ _ x.v x.d s0 sl sc w hm (fun w1 => enOut1 _ w1) _ ?_
 intro w1 m1 k1
 have hW := h.w hf rfl m1 k1
 have z1 := k1.size
 have nq : ∀ i, O i → ¬ i = q := fun i hi e => h.nqo (e ▸ hi)
 have hown1 : OwB 5 0 w1 hvv hv := ownsRow_keep hown k1 (fun i hi e => h.nqr (e ▸ hvR i hi))
 have hr1 : RdB w1 (.slice s0 sl sc) x.b := by
  by_cases hl : x.b.length = 0
  ·obtain hl : x.b = [] := List.eq_nil_of_length_eq_zero hl
   rw [hl] at hr ⊢
   rcases hr with hr | hr | ⟨b, off, cap, e1, e2, e3, e4⟩
   ·exact .inl hr
   ·exact .inr (.inl hr)
   ·exact .inr (.inr ⟨b, off, cap, e1, e2, e3, fun i hi => by simp at hi⟩)
  ·refine hr.keep k1 (fun _ i hi e => ?_)
   have hap : ∀ i, (Value.slice s0 sl sc).ownBlock = some i → i ≠ q := by
    intro i hi e
    subst e
    rcases hr with ⟨e1, _⟩ | ⟨_, _, e1, e2, _⟩ | ⟨b, off, cap, e1, e2, e3, e4⟩
    ·rw [e1] at hi; cases hi
    ·exact hl (by rw [e2]; rfl)
    ·rw [e1] at hi
     obtain rfl : b = i := by simpa [Value.ownBlock] using hi
     have hcl := e4 0 (by omega)
     obtain ⟨oa, on, oc, rfl⟩ := h.rd.isSl
     have hcl2 := Blk.cell hm (off + 0)
     rw [hcl2] at hcl
     have hmem := List.mem_of_getElem? hcl
     simp [Acc.cs, AA.acc, HeaM.want, HeaM.rest] at hmem
   exact hap i hi e
 refine cOutK_any q p K N hvv _ _ hv x.b x.v x.d s0 sl sc cb ab kb nb hbk fb w1 (h1.keep k1 (nq _ o1)) (h2.keep k1 (nq _ o2)) (h3.keep k1 (nq _ o3)) (h4.keep k1 (nq _ o4)) (h5.keep k1 (nq _ o5)) (h6.keep k1 (nq _ o6)) hown1 hr1 (by omega) (by omega) (by omega) (by omega) (by omega) (by omega)
  (fun i hi => ⟨fun e => h.dj _ o1 (e ▸ hvR i hi), fun e => h.dj _ o2 (e ▸ hvR i hi), fun e => h.dj _ o3 (e ▸ hvR i hi), fun e => h.dj _ o4 (e ▸ hvR i hi), fun e => h.dj _ o5 (e ▸ hvR i hi), fun e => h.dj _ o6 (e ▸ hvR i hi)⟩)
  (fun w' => HeaTo w O R q ((HeaM.mk b s (.rd sz typ p N hv) cu nx la c pads msg heard e).step x) w') (fun i => i = q ∨ R i) (by
   rintro i (rfl | hi)
   ·omega
   ·have := h.lo i (.inr hi)
    omega) ⟨fun hh => hh.elim (nq _ o1) (h.dj _ o1), fun hh => hh.elim (nq _ o2) (h.dj _ o2), fun hh => hh.elim (nq _ o3) (h.dj _ o3), fun hh => hh.elim (nq _ o4) (h.dj _ o4), fun hh => hh.elim (nq _ o5) (h.dj _ o5), fun hh => hh.elim (nq _ o6) (h.dj _ o6)⟩ ?_
 intro w2 ra rn rc hown2 hov2 k2
 have z2 := k2.size
 have k2' : Keep (fun i => i = q ∨ R i) w1 w2 := k2.mono (fun i _ e => .inr (hvR i e))
 have k02 : Keep (fun i => i = q ∨ R i) w w2 := (k1.mono (fun i _ e => .inl e)).trans k2'
 have hnew : ∀ i, (Value.slice ra rn rc).ownBlock = some i → R i ∨ (w.heap.size ≤ i ∧ i < w2.heap.size) := by
  intro i hi
  rcases hov2 with e | ⟨b, e, e2, e3⟩
  ·exact .inl (hvR i (e ▸ hi))
  ·rw [e] at hi
   cases hi
   exact .inr ⟨by omega, e3⟩
 have h2w : Mch w2 q accZ .nilFunc (HeaM.rest ⟨b, s, .rd sz typ p N hv, cu, nx, la, c, pads, msg, heard, e⟩ mv) := Blk.keep m1 k2 (fun e => h.nqr (hvR _ e))
 have nO : ∀ i, O i → ¬ (i = q ∨ R i) := fun i hi hh => hh.elim (nq i hi) (h.dj i hi)
 have hrd2 : RdB w2 mv msg.2 := h.rd.keepP k02 (fun i hi => nO i (h.ob i hi))
 have hstep : (HeaM.mk b s (.rd sz typ p N hv) cu nx la c pads msg heard e).step x = if (N : Int) ≤ 8 then ⟨b, s, .bv sz typ (hv ++ x.b), cu, nx, la, c, pads, msg, heard, e⟩ else ⟨b, s, .rd sz typ (p + 8) (N - 8) (hv ++ x.b), cu, nx, la, c, pads, msg, heard, e⟩ := rfl
 rw [hstep]
 by_cases h8 : (N : Int) ≤ 8
 ·rw [if_pos h8]
  have hKN : (N : Int) - K = 0 := by omega
  rw [hKN]
  refine (cOut_end q (p + K) 0 ra rn rc _ _ w2 (by omega) enHB1 (fun w' => HeaTo w O R q ⟨b, s, .bv sz typ (hv ++ x.b), cu, nx, la, c, pads, msg, heard, e⟩ w' ∧ Keep (fun i => i = q ∨ R i) w2 w') (fun w3 b3 => ?_))
  have z3 := b3.size
  have kO : ∀ i, O i → i < w2.heap.size := fun i hi => by have := h.lo i (.inl hi); omega
  have hW3 : HeaW w3 (fun i => O i ∨ (Value.slice ra rn rc).ownBlock = some i) (fun i => R i ∧ (Value.slice ra rn rc).ownBlock ≠ some i) q ⟨b, s, .rd sz typ p N hv, cu, nx, la, c, pads, msg, heard, e⟩ mv := by
   refine HeaW.below ⟨h2w, hrd2, fun i hi => .inl (h.ob i hi), ?_, fun hh => h.nqr hh.1, ?_, ?_, hok, hf.fc, hf.pd⟩ b3
   ·rintro (hh | hh)
    ·exact h.nqo hh
    ·rcases hnew _ hh with h9 | h9
     ·exact h.nqr h9
     ·omega
   ·rintro i (hh | hh) ⟨h9, h10⟩
    ·exact h.dj i hh h9
    ·exact h10 hh
   ·rintro i ((hh | hh) | hh)
    ·exact kO i hh
    ·exact (World.ownsRow.lt hown2 _ hh).2
    ·have := h.lo i (.inr hh.1)
     omega
  refine (hBytes1_any gb sb tb sz typ (hv ++ x.b) ra rn rc w3 hW3 ((hg.keep k02 (nO _ og)).below b3 (kO _ og)) ((hs.keep k02 (nO _ os)).below b3 (kO _ os)) ((ht.keep k02 (nO _ ot)).below b3 (kO _ ot)) (.inl og) (.inl os) (.inl ot) (hown2.rd.below b3) (fun i hi => .inr hi)).mono ?_
  rintro e' w4 ⟨rfl, hto⟩
  refine ⟨rfl, hto.from (k02.trans (Below.keeps b3)) (fun i hi => ?_) (fun i hi => .inl hi.1), ?_⟩
  ·rcases hi with hi | hi
   ·exact .inl hi
   ·rcases hnew i hi with h9 | h9
    ·exact .inr (.inl h9)
    ·exact .inr (.inr h9.1)
  ·obtain ⟨_, _, _, _, _, k4⟩ := hto
   exact (Below.keeps b3).trans (k4.mono (fun i _ hh => hh.imp id (fun h9 => h9.1)))
 ·rw [if_neg h8]
  have hK8 : K = 8 := by omega
  have hN8 : (N : Int) - K = ((N - 8 : Nat) : Int) := by omega
  rw [hN8]
  refine (cOut_more q _ _ _ (p + K) (N - 8) ra rn rc _ _ w2 h2w (by omega)).mono ?_
  rintro e' w3 ⟨rfl, t3, m3, l3, k3⟩
  have z3 := k3.size
  have eK : p + K = p + 8 := by omega
  have eN : ((N - 8 : Nat) : Int) = (N : Int) - 8 := by omega
  rw [eK, eN] at m3 l3
  refine ⟨rfl, ⟨fun i => O i ∨ (w2.heap.size ≤ i ∧ i < w3.heap.size), fun i => R i ∨ (w.heap.size ≤ i ∧ i < w2.heap.size ∧ (Value.slice ra rn rc).ownBlock = some i), mv, ⟨⟨t3, _, _, m3, l3.mono (fun i hi => .inr hi), ?_, ?_, Clo.mk3 ?_ (.inl og) ?_ (.inl os) ?_ (.inl ot)⟩, ?_, ?_, ?_, ?_, ?_, ?_⟩, ?_, ?_⟩, k3.mono (fun i _ e => .inl e)⟩
  ·exact ownsRow_keep hown2 k3 (fun i hi e => by
    rcases hnew i hi with h9 | h9
    ·exact h.nqr ((show i = q from e) ▸ h9)
    ·have : i = q := e
     omega)
  ·intro i hi
   rcases hnew i hi with h9 | h9
   ·exact .inl h9
   ·exact .inr ⟨h9.1, h9.2, hi⟩
  ·exact (hg.keep k02 (nO _ og)).keep k3 (nq _ og)
  ·exact (hs.keep k02 (nO _ os)).keep k3 (nq _ os)
  ·exact (ht.keep k02 (nO _ ot)).keep k3 (nq _ ot)
  ·exact hrd2.keepP k3 (fun i hi e => nq i (h.ob i hi) e)
  ·exact fun i hi => .inl (h.ob i hi)
  ·rintro (hh | hh)
   ·exact h.nqo hh
   ·omega
  ·rintro (hh | hh)
   ·exact h.nqr hh
   ·omega
  ·rintro i (hh | hh) (h9 | h9)
   ·exact h.dj i hh h9
   ·have := h.lo i (.inl hh)
    omega
   ·have := h.lo i (.inr h9)
    omega
   ·omega
  ·rintro i ((hh | hh) | (hh | hh))
   ·have := h.lo i (.inl hh)
    omega
   ·exact hh.2
   ·have := h.lo i (.inr hh)
    omega
   ·omega
  ·rintro i ((hh | hh) | (hh | hh))
   ·exact .inl hh
   ·exact .inr (.inr (by omega))
   ·exact .inr (.inl hh)
   ·exact .inr (.inr hh.1)
  ·exact k02.trans (k3.mono (fun i _ e => .inl e))
set_option maxHeartbeats 2000000 in
theorem hcTake_any (x : AN) (s0 : Option Addr) (sl sc : Nat) (w : World) (h : HeaI w O R q m mv) (hf : m.fine) (hl : m.live = true) (hx : inU x.v) (hxb : x.b.length ≤ 1000) (hr : RdB w (.slice s0 sl sc) x.b) :
  Calls Tryz.prog 192 #[.pointer (some ⟨q, 0, none⟩), .agg #[.int .u64 x.v, .bool x.d, .slice s0 sl sc]] w fun e w' => e = .returned (.tuple #[]) ∧ HeaTo w O R q (m.step x) w' := by
 have hok := hf.ok hl
 have hA := h.at_
 have hp := hf.pc
 have nqb : ∀ b, O b → b ≠ q := fun b hb e => h.nqo (e ▸ hb)
 have hl' := hl
 obtain ⟨b, s, pc, cu, nx, la, c, pads, msg, heard, e⟩ := m
 cases pc with
 | done => cases hl
 | rd sz typ p n hv => exact hcTake_rd x s0 sl sc w h hf hxb hr
 | tl =>
  obtain ⟨t, hm, v1, c1, c2⟩ := hA
  obtain ⟨pb, rfl, hpb, opb⟩ := c2.c1
  refine takeLoad O q _ t _ _ _ x.v x.d s0 sl sc w hm c1 h.nqo enHNew _ (fun w1 m1 k1 => ?_)
  refine (hNew1_any x.v pb w1 (h.w hf hl' m1 k1) (hpb.keep k1 (nqb _ opb)) opb).mono ?_
  rintro e' w' ⟨rfl, hto⟩
  exact ⟨rfl, hto.after (k1.mono (fun i _ e => .inl e))⟩
 | lt =>
  obtain ⟨t, hm, v1, c1, c2⟩ := hA
  obtain ⟨pb, rfl, hpb, opb⟩ := c2.c1
  refine takeLoad O q _ t _ _ _ x.v x.d s0 sl sc w hm c1 h.nqo enHNew3 _ (fun w1 m1 k1 => ?_)
  refine (hNew3_any x.v pb w1 (h.w hf hl' m1 k1) (hpb.keep k1 (nqb _ opb)) (nqb _ opb) hx).mono ?_
  rintro e' w' ⟨rfl, hto⟩
  exact ⟨rfl, hto.after (k1.mono (fun i _ e => .inl e))⟩
 | hd =>
  obtain ⟨t, hm, v1, c1, c2⟩ := hA
  obtain ⟨pb, rfl, hpb, opb⟩ := c2.c1
  refine takeLoad O q _ t _ _ _ x.v x.d s0 sl sc w hm c1 h.nqo enHRecordK _ (fun w1 m1 k1 => ?_)
  refine (hRecordK_any x.v pb w1 (h.w hf hl' m1 k1) (hpb.keep k1 (nqb _ opb)) opb hx).mono ?_
  rintro e' w' ⟨rfl, hto⟩
  exact ⟨rfl, hto.after (k1.mono (fun i _ e => .inl e))⟩
 | va =>
  obtain ⟨t, hm, v1, ev, tv, c1, c2, hT⟩ := hA
  obtain ⟨pb, eb, tb, rfl, ⟨hpb, opb⟩, ⟨heb, oeb⟩, htb, otb⟩ := c2.c3
  obtain ⟨hE, rfl⟩ := hT
  obtain ⟨p2, rfl, hp2, op2⟩ := hE.c1
  refine takeLoad O q _ t _ _ _ x.v x.d s0 sl sc w hm c1 h.nqo enHValid _ (fun w1 m1 k1 => ?_)
  have hW := h.w hf hl' m1 k1
  refine (hValid1_any x.v pb eb tb _ _ _ _ _ _ w1 hW (hpb.keep k1 (nqb _ opb)) (heb.keep k1 (nqb _ oeb)) (htb.keep k1 (nqb _ otb)) enHNew2 enHRecord (fun w' => HeaTo w O R q ((HeaM.mk b s .va cu nx la c pads msg heard e).step x) w') (fun ho w2 b2 => ?_) (fun ho w2 b2 => ?_))
  ·rw [show (HeaM.mk b s .va cu nx la c pads msg heard e).step x = ⟨b, s, .lt, cu, nx, s64 (la + 1), c, pads, msg, heard, e⟩ from if_pos ho]
   refine (hNew2_any p2 w2 (hW.below b2) ((hp2.keep k1 (nqb _ op2)).below b2 (hW.lo _ (.inl op2))) op2).mono ?_
   rintro e' w' ⟨rfl, hto⟩
   exact ⟨rfl, hto.after ((k1.mono (fun i _ e => .inl e)).trans (Below.keeps b2))⟩
  ·rw [show (HeaM.mk b s .va cu nx la c pads msg heard e).step x = ⟨b, s, .hd, cu, nx, la, c, pads, msg, heard, e⟩ from if_neg ho]
   refine (hRecord_any w2 (hW.below b2)).mono ?_
   rintro e' w' ⟨rfl, hto⟩
   exact ⟨rfl, hto.after ((k1.mono (fun i _ e => .inl e)).trans (Below.keeps b2))⟩
 | pv sz =>
  obtain ⟨t, hm, v1, ev, tv, c1, c2, hT⟩ := hA
  obtain ⟨pb, eb, tb, rfl, ⟨hpb, opb⟩, ⟨heb, oeb⟩, htb, otb⟩ := c2.c3
  obtain ⟨rfl, hE⟩ := hT
  obtain ⟨p2, s2, rfl, ⟨hp2, op2⟩, hs2, os2⟩ := hE.c2
  obtain ⟨q1, q2, q3⟩ := hp
  dsimp only at q1
  subst q1
  refine takeLoad O q _ t _ _ _ x.v x.d s0 sl sc w hm c1 h.nqo enHValid _ (fun w1 m1 k1 => ?_)
  have hW := h.w hf hl' m1 k1
  refine (hValid1_any x.v pb eb tb _ _ _ _ _ _ w1 hW (hpb.keep k1 (nqb _ opb)) (heb.keep k1 (nqb _ oeb)) (htb.keep k1 (nqb _ otb)) enHLost enHRecord2 (fun w' => HeaTo w O R q ((HeaM.mk b s (.pv sz) cu nx la c 0 msg heard e).step x) w') (fun ho w2 b2 => ?_) (fun ho w2 b2 => ?_))
  ·rw [show (HeaM.mk b s (.pv sz) cu nx la c 0 msg heard e).step x = (HeaM.mk b s (.pv sz) cu nx la c 0 msg heard e).lost from if_pos ho]
   refine (hLost_any w2 (hW.below b2)).mono ?_
   rintro e' w' ⟨rfl, hto⟩
   exact ⟨rfl, hto.after ((k1.mono (fun i _ e => .inl e)).trans (Below.keeps b2))⟩
  ·rw [show (HeaM.mk b s (.pv sz) cu nx la c 0 msg heard e).step x = ⟨b, s, .hd, cu, nx, la, u64 (c + sz), 1, msg, heard, e⟩ from if_neg ho]
   refine (hRecord2_any p2 s2 sz w2 (hW.below b2) ((hp2.keep k1 (nqb _ op2)).below b2 (hW.lo _ (.inl op2))) ((hs2.keep k1 (nqb _ os2)).below b2 (hW.lo _ (.inl os2))) (nqb _ op2) (nqb _ os2) rfl ⟨q2, q3⟩).mono ?_
   rintro e' w' ⟨rfl, hto⟩
   exact ⟨rfl, hto.after ((k1.mono (fun i _ e => .inl e)).trans (Below.keeps b2))⟩
 | bv sz typ l =>
  obtain ⟨t, hm, v1, ev, tv, c1, c2, hT⟩ := hA
  obtain ⟨pb, eb, tb, rfl, ⟨hpb, opb⟩, ⟨heb, oeb⟩, htb, otb⟩ := c2.c3
  obtain ⟨rfl, bv, hE, hrb, hob⟩ := hT
  obtain ⟨p2, s2, y2, z2, rfl, ⟨hp2, op2⟩, ⟨hs2, os2⟩, ⟨hy2, oy2⟩, hz2, oz2⟩ := hE.c4
  obtain ⟨ba, bn, bc, rfl⟩ := hrb.isSl
  refine takeLoad O q _ t _ _ _ x.v x.d s0 sl sc w hm c1 h.nqo enHValid _ (fun w1 m1 k1 => ?_)
  have hW := h.w hf hl' m1 k1
  refine (hValid1_any x.v pb eb tb _ _ _ _ _ _ w1 hW (hpb.keep k1 (nqb _ opb)) (heb.keep k1 (nqb _ oeb)) (htb.keep k1 (nqb _ otb)) enHLost enHBytes2 (fun w' => HeaTo w O R q ((HeaM.mk b s (.bv sz typ l) cu nx la c pads msg heard e).step x) w') (fun ho w2 b2 => ?_) (fun ho w2 b2 => ?_))
  ·rw [show (HeaM.mk b s (.bv sz typ l) cu nx la c pads msg heard e).step x = (HeaM.mk b s (.bv sz typ l) cu nx la c pads msg heard e).lost from if_pos ho]
   refine (hLost_any w2 (hW.below b2)).mono ?_
   rintro e' w' ⟨rfl, hto⟩
   exact ⟨rfl, hto.after ((k1.mono (fun i _ e => .inl e)).trans (Below.keeps b2))⟩
  ·rw [show (HeaM.mk b s (.bv sz typ l) cu nx la c pads msg heard e).step x = ⟨b, s, .done, s64 c, s64 (s64 c + sz), la, c, pads, (typ, l), true, 0⟩ from if_neg ho]
   refine (hBytes2_any p2 s2 y2 z2 sz typ l ba bn bc w2 (hW.below b2) ((hp2.keep k1 (nqb _ op2)).below b2 (hW.lo _ (.inl op2))) ((hs2.keep k1 (nqb _ os2)).below b2 (hW.lo _ (.inl os2))) ((hy2.keep k1 (nqb _ oy2)).below b2 (hW.lo _ (.inl oy2))) ((hz2.keep k1 (nqb _ oz2)).below b2 (hW.lo _ (.inl oz2))) (nqb _ op2) (nqb _ os2) (nqb _ oy2) (nqb _ oz2) ((hrb.keepP k1 (fun i hi => nqb i (hob i hi))).below b2) hob).mono ?_
   rintro e' w' ⟨rfl, hto⟩
   exact ⟨rfl, hto.after ((k1.mono (fun i _ e => .inl e)).trans (Below.keeps b2))⟩
end Go.Proofs.YtggjhleomocojaaGreat
namespace Go.Proofs.YtggjhleomocojaaGreat
set_option maxRecDepth 100000
open Go.RowKit
set_option linter.unusedVariables false
set_option linter.unusedSimpArgs false
variable {O R : Nat → Prop} {q : Nat} {m : HeaM} {mv : Value}
theorem hcNext_any (w : World) (h : HeaAt w O R q m mv) :
  Calls Tryz.prog 113 #[.pointer (some ⟨q, 0, none⟩)] w fun e w' => ∃ s0 sl sc, e = .returned (.tuple #[m.want.V (.slice s0 sl sc), .bool m.live]) ∧ RdB w' (.slice s0 sl sc) m.want.b ∧ Below w.heap.size w w' := by
 obtain ⟨b, s, pc, cu, nx, la, c, pads, msg, heard, e⟩ := m
 have more : ∀ (a : AA) (f : Nat) (cap : Array Value) (r : List Value), a.b = [] → Mch w q a.acc (.func (.func f) #[] cap) r → Calls Tryz.prog 113 #[.pointer (some ⟨q, 0, none⟩)] w fun e w' => ∃ s0 sl sc, e = .returned (.tuple #[a.V (.slice s0 sl sc), .bool true]) ∧ RdB w' (.slice s0 sl sc) a.b ∧ Below w.heap.size w w' := by
  intro a f cap r hb hm
  refine (cNext_more q a.k a.a a.n a.v a.x none 0 0 f _ r w hm).mono ?_
  rintro e w' ⟨rfl, b⟩
  exact ⟨none, 0, 0, rfl, by rw [hb]; exact .inl ⟨rfl, rfl⟩, b⟩
 cases pc with
 | done =>
  obtain ⟨t, hm, rfl⟩ := h
  refine (cNext_end q _ _ w hm).mono ?_
  rintro e w' ⟨rfl, b⟩
  exact ⟨none, 0, 0, rfl, .inl ⟨rfl, rfl⟩, b⟩
 | rd sz typ p n hv => obtain ⟨t, hvv, fv, hm, ⟨cb, ab, kb, nb, hb, fb, rfl, _⟩, _⟩ := h; exact more _ _ _ _ rfl hm
 | tl => obtain ⟨t, hm, v1, c1, _⟩ := h; obtain ⟨bs, rfl, _⟩ := c1; exact more _ _ _ _ rfl hm
 | lt => obtain ⟨t, hm, v1, c1, _⟩ := h; obtain ⟨bs, rfl, _⟩ := c1; exact more _ _ _ _ rfl hm
 | hd => obtain ⟨t, hm, v1, c1, _⟩ := h; obtain ⟨bs, rfl, _⟩ := c1; exact more _ _ _ _ rfl hm
 | va => obtain ⟨t, hm, v1, _, _, c1, _⟩ := h; obtain ⟨bs, rfl, _⟩ := c1; exact more _ _ _ _ rfl hm
 | pv sz => obtain ⟨t, hm, v1, _, _, c1, _⟩ := h; obtain ⟨bs, rfl, _⟩ := c1; exact more _ _ _ _ rfl hm
 | bv sz typ l => obtain ⟨t, hm, v1, _, _, c1, _⟩ := h; obtain ⟨bs, rfl, _⟩ := c1; exact more _ _ _ _ rfl hm
set_option maxHeartbeats 1000000 in
theorem hNext_of {W : AA} {L : Bool} (w : World) (hlt : q < w.heap.size)
  (hc : ∀ w1, Below w.heap.size w w1 → Calls Tryz.prog 113 #[.pointer (some ⟨q, 0, none⟩)] w1 fun e w' => ∃ s0 sl sc, e = .returned (.tuple #[W.V (.slice s0 sl sc), .bool L]) ∧ RdB w' (.slice s0 sl sc) W.b ∧ Below w1.heap.size w1 w') :
  Calls Tryz.prog 80 #[.pointer (some ⟨q, 0, none⟩)] w fun e w' => ∃ s0 sl sc, e = .returned (.tuple #[W.V (.slice s0 sl sc), .bool L]) ∧ RdB w' (.slice s0 sl sc) W.b ∧ Below w.heap.size w w' := by
 have HC := Lib.hid hc
 clear hc
 go_enter Tryz.func80, Tryz.ntmps80
 go_wp2_with fail
 refine (HC.out (w.alloc (.cells #[.int .i64 0, .int .i64 0, .int .i64 0, .int .u64 0, .int .u64 0, .slice none 0 0] 72)) ((Below.refl w.heap.size w).alloc (Nat.le_refl _) _)).mono ?_
 rintro e w1 ⟨s0, sl, sc, rfl, hr, b1⟩
 unfold AA.V
 dsimp only
 have z1 := b1.size
 simp at z1
 have A1 := Lib.hid (Blk.below (Blk.made w #[.int .i64 0, .int .i64 0, .int .i64 0, .int .u64 0, .int .u64 0, .slice none 0 0] 72) b1 (by simp))
 have B1 : Below w.heap.size w w1 := ((Below.refl w.heap.size w).alloc (Nat.le_refl _) _).trans (b1.mono (by simp))
 have y1 : w.heap.size < w1.heap.size := by omega
 have HR := Lib.hid hr
 clear b1 hr
 have a0 := A1.out.cell 0
 have a1 := A1.out.cell 1
 have a2 := A1.out.cell 2
 have a3 := A1.out.cell 3
 have a4 := A1.out.cell 4
 have a5 := A1.out.cell 5
 have e0 := A1.out.frozen 0
 have e1 := A1.out.frozen 1
 have e2 := A1.out.frozen 2
 have e3 := A1.out.frozen 3
 have e4 := A1.out.frozen 4
 have e5 := A1.out.frozen 5
 simp only [List.getElem?_toArray, List.getElem?_cons_zero, List.getElem?_cons_succ] at a0 a1 a2 a3 a4 a5
 go_wp2
 refine bodyPost_ret (v := .tuple #[W.V (.slice s0 sl sc), .bool L]) (res_aa (c := W) rfl rfl rfl (((((((A1.out.set 0 _).set 1 _).set 2 _).set 3 _).set 4 _).set 5 _))) rfl ⟨s0, sl, sc, rfl, ?_, ?_⟩
 ·refine HR.out.keep (K := (· = w.heap.size)) ?_ (fun h => HR.out.apart h A1.out rfl)
  repeat' (refine Keep.setCell (M := (· = w.heap.size)) ?_ (Or.inl (by simp)) _)
  exact Keep.refl _ _
 ·repeat' (refine Below.setCell ?_ (by simp; try omega) _)
  exact B1
set_option maxHeartbeats 2000000 in
theorem hTake_of (v : Int) (d : Bool) (s0 : Option Addr) (sl sc : Nat) (Q : World → Prop) (w : World) (hlt : q < w.heap.size)
  (hc : ∀ w1, Below w.heap.size w w1 → Calls Tryz.prog 192 #[.pointer (some ⟨q, 0, none⟩), .agg #[.int .u64 v, .bool d, .slice s0 sl sc]] w1 fun e w' => e = .returned (.tuple #[]) ∧ Q w' ∧ Keep (fun k => k < w.heap.size) w1 w') :
  Calls Tryz.prog 196 #[.pointer (some ⟨q, 0, none⟩), .agg #[.int .u64 v, .bool d, .slice s0 sl sc]] w fun e w' => e = .returned (.tuple #[]) ∧ Q w' := by
 have HC := Lib.hid hc
 clear hc
 go_enter Tryz.func196, Tryz.ntmps196
 go_wp2_with fail
 go_region_held3 (fun w' => w'.cell? ⟨w.heap.size, 0, none⟩ = some (.int .u64 v) ∧ w'.cell? ⟨w.heap.size, 1, none⟩ = some (.bool d) ∧ w'.cell? ⟨w.heap.size, 2, none⟩ = some (.slice s0 sl sc)) (first | go_keep | trivial)
  (first
   | (go_at_call 192; refine (HC.out _ (by go_grown)).mono ?_; rintro e w2 ⟨rfl, hQ, hk⟩; have hc := fun o => hk.cell (b := w.heap.size) o (by simp) (by simp)))
 all_goals
  clear hc
  go_wp2
  go_end0
  exact ⟨rfl, hQ⟩
set_option maxHeartbeats 1000000 in
theorem hNext_nil (w : World) : Calls Tryz.prog 80 #[.pointer none] w fun e w' => e = .returned (.tuple #[aaZ.V (.slice none 0 0), .bool false]) ∧ Below w.heap.size w w' := by
 go_enter Tryz.func80, Tryz.ntmps80
 go_wp2
 refine bodyPost_ret (v := .tuple #[aaZ.V (.slice none 0 0), .bool false]) (res_aa (c := aaZ) rfl rfl rfl (Blk.made _ _ _)) rfl ⟨rfl, by go_grown⟩
theorem hNext_any (w : World) (h : HeaI w O R q m mv) :
  Calls Tryz.prog 80 #[.pointer (some ⟨q, 0, none⟩)] w fun e w' => ∃ s0 sl sc, e = .returned (.tuple #[m.want.V (.slice s0 sl sc), .bool m.live]) ∧ RdB w' (.slice s0 sl sc) m.want.b ∧ Below w.heap.size w w' :=
 hNext_of w h.lt (fun w1 b1 => hcNext_any w1 (h.below b1).at_)
theorem hTake_any (x : AN) (s0 : Option Addr) (sl sc : Nat) (w : World) (h : HeaI w O R q m mv) (hf : m.fine) (hl : m.live = true) (hx : inU x.v) (hxb : x.b.length ≤ 1000) (hr : RdB w (.slice s0 sl sc) x.b) :
  Calls Tryz.prog 196 #[.pointer (some ⟨q, 0, none⟩), .agg #[.int .u64 x.v, .bool x.d, .slice s0 sl sc]] w fun e w' => e = .returned (.tuple #[]) ∧ HeaTo w O R q (m.step x) w' := by
 refine hTake_of x.v x.d s0 sl sc (fun w' => HeaTo w O R q (m.step x) w') w h.lt (fun w1 b1 => ?_)
 refine (hcTake_any x s0 sl sc w1 (h.below b1) hf hl hx hxb (hr.below b1)).mono ?_
 rintro e w2 ⟨rfl, hto⟩
 have hlt := h.lt
 obtain ⟨_, _, _, _, _, kk⟩ := id hto
 refine ⟨rfl, hto.from (Below.keeps b1) (fun i hi => .inl hi) (fun i hi => .inl hi), kk.mono (fun i _ hh => ?_)⟩
 rcases hh with hh | hh
 ·show i < w.heap.size
  omega
 ·exact h.lo i (.inr hh)
def HeaF (w : World) (F : Nat → Prop) (q : Nat) (m : HeaM) : Prop := F q ∧ (∀ i, F i → i < w.heap.size) ∧ m.fine ∧ ∃ O R mv, (∀ i, O i ∨ R i → F i) ∧ HeaI w O R q m mv
theorem HeaF.keep {w w' : World} {F K : Nat → Prop} (h : HeaF w F q m) (k : Keep K w w') (hd : ∀ i, F i → ¬ K i) : HeaF w' F q m := by
 obtain ⟨a1, a2, a3, O, R, mv, hO, hI⟩ := h
 exact ⟨a1, fun i hi => Nat.lt_of_lt_of_le (a2 i hi) k.size, a3, O, R, mv, hO, hI.keep k (fun i hi => hd i (hO i (.inl hi))) (fun i hi => hd i (hO i (.inr hi))) (hd q a1)⟩
theorem HeaF.below {w w' : World} {F : Nat → Prop} (h : HeaF w F q m) (b : Below w.heap.size w w') : HeaF w' F q m := h.keep (K := fun _ => False) (Below.keeps b) (fun _ _ => id)
theorem hNew_f (b s : Int) (x : EarV) (w : World) (hb0 : -9223372036854775808 ≤ b) (hb1 : b ≤ 9223372036854775807) (hs0 : -9223372036854775808 ≤ s) (hs1 : s ≤ 9223372036854775807) :
  Calls Tryz.prog 82 #[.agg #[.int .i64 b, .int .i64 s], .agg #[.int .i64 x.cu, .int .i64 x.nx, .int .i64 x.la]] w fun e w' => ∃ q, e = .returned (.pointer (some ⟨q, 0, none⟩)) ∧ w.heap.size ≤ q ∧ HeaF w' (fun k => w.heap.size ≤ k ∧ k < w'.heap.size) q (HeaM.init b s x) ∧ Below w.heap.size w w' := by
 refine (hNew_any b s x w hb0 hb1 hs0 hs1).mono ?_
 rintro e w' ⟨q, rfl, h1, h2, ⟨O, R, mv, hI, h3⟩, h4⟩
 exact ⟨q, rfl, h1, ⟨⟨h1, h2⟩, fun i hi => hi.2, HeaM.fine.init b s x, O, R, mv, fun i hi => ⟨h3 i hi, hI.lo i hi⟩, hI⟩, h4⟩
theorem hTake_f {F : Nat → Prop} (x : AN) (s0 : Option Addr) (sl sc : Nat) (w : World) (h : HeaF w F q m) (hl : m.live = true) (hx : inU x.v) (hxb : x.b.length ≤ 1000) (hr : RdB w (.slice s0 sl sc) x.b) :
  Calls Tryz.prog 196 #[.pointer (some ⟨q, 0, none⟩), .agg #[.int .u64 x.v, .bool x.d, .slice s0 sl sc]] w fun e w' => e = .returned (.tuple #[]) ∧ ∃ F', HeaF w' F' q (m.step x) ∧ (∀ i, F' i → F i ∨ w.heap.size ≤ i) ∧ Keep F w w' := by
 obtain ⟨a1, a2, a3, O, R, mv, hO, hI⟩ := h
 refine (hTake_any x s0 sl sc w hI a3 hl hx hxb hr).mono ?_
 rintro e w' ⟨rfl, O', R', mv', hI', hs, k⟩
 have z := k.size
 have hq := a2 q a1
 refine ⟨rfl, fun i => F i ∨ (w.heap.size ≤ i ∧ i < w'.heap.size), ⟨.inl a1, fun i hi => ?_, a3.step hx hxb, O', R', mv', fun i hi => ?_, hI'⟩, fun i hi => hi.imp id (fun h => h.1), k.mono (fun i _ e => e.elim (fun e => e ▸ a1) (fun e => hO i (.inr e)))⟩
 ·rcases hi with hi | hi
  ·have := a2 i hi
   omega
  ·exact hi.2
 ·rcases hs i hi with h9 | h9 | h9
  ·exact .inl (hO i (.inl h9))
  ·exact .inl (hO i (.inr h9))
  ·exact .inr ⟨h9, hI'.lo i hi⟩
theorem res_ear {fn : Func} {tmps : Array Value} {W : World} {a b c : Int} (hf : fn.results = #[.cell 2 46]) (hp : tmps.getD 2 undef = .pointer (some ⟨q, 0, none⟩))
  (h : Blk W q [.int .i64 a, .int .i64 b, .int .i64 c]) : (results fn tmps).run Tryz.prog W = .ok (.agg #[.int .i64 a, .int .i64 b, .int .i64 c]) W := by
 have c0 := h.cell 0
 have c1 := h.cell 1
 have c2 := h.cell 2
 simp only [List.getElem?_cons_zero, List.getElem?_cons_succ] at c0 c1 c2
 clear h
 rw [results_cell1b hf, hp]
 go_simp
set_option maxHeartbeats 1000000 in
theorem hState_any (w : World) (h : HeaAt w O R q m mv) :
  Calls Tryz.prog 115 #[.pointer (some ⟨q, 0, none⟩)] w fun e w' => e = .returned (.agg #[.int .i64 m.cu, .int .i64 m.nx, .int .i64 m.la]) ∧ Below w.heap.size w w' := by
 obtain ⟨c, t, hm⟩ := h.mch
 obtain ⟨_, _, c9, c10, c11, _⟩ := hea_cells hm
 have hlt : q < w.heap.size := Blk.lt hm
 clear h hm
 go_enter Tryz.func115, Tryz.ntmps115
 go_wp2
 refine bodyPost_ret (v := .agg #[.int .i64 m.cu, .int .i64 m.nx, .int .i64 m.la]) (res_ear rfl rfl (Blk.made w _ _)) rfl ⟨rfl, by go_grown⟩
end Go.Proofs.YtggjhleomocojaaGreat
