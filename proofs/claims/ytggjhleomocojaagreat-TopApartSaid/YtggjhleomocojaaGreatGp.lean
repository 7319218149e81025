/- A get in memory: what its closures go on with. Conditions: as each says. -/
import Derived.Test.YtggjhleomocojaaGreatGi
import Derived.Laws.OwnMore
section
namespace Go.Proofs.YtggjhleomocojaaGreat
set_option maxRecDepth 100000
open Go.RowKit
set_option linter.unusedVariables false
set_option linter.unusedSimpArgs false
theorem step_app1 {w : World} {ops : Array Oper} {o : Oper} {a : Act} {K : Act → World → Prop} {Q : Exit → Act → World → Prop} {E0 : Prop} (hgd : o.guard = none) (s x : Operand) (T E : TypeId)
  (ho : o.op = .call { callee := .builtin .append, args := #[s, x], argTypes := #[T, T] }) {i : TypeInfo} {z : Value} {size bytes : Nat} (ht : Tryz.prog.underlying T = some (.slice E)) (hi : Tryz.prog.info? E = some i) (hz : i.zero = some z) (hsize : i.size = size) (hby : i.bytes = bytes) (hzs : z.cells.size = size) (hsz : 0 < size)
  (v : Value) (n : Nat) (xs : List Value) (hs : a.eval s = v) (hown : w.ownsRow 0 E size v n xs) (g : Nat) (news : List Value) (hx : a.eval x = .slice (some ⟨g, 0, none⟩) 1 1) (hb : Blk w g news) (hl : news.length = size) (h1 : ∀ u ∈ news, u.oneCell' = true) (hn : (n + 1) * bytes ≤ 140737488355328) (hm : n + 1 ≤ maxLen)
  (h : ∀ v' w', w'.ownsRow 0 E size v' (n + 1) (xs ++ news) → w.grownBy w' v.ownBlock → (v'.ownBlock = v.ownBlock ∨ v'.ownBlock = some w.heap.size) → K (a.put o.dst v') w') :
  if Region.wanted o (yielded ops a.tmps) = true then Oper.wp Tryz.prog o a w K Q else E0 := by
 have hw : Region.wanted o (yielded ops a.tmps) = true := by simp [Region.wanted, hgd]
 rw [if_pos hw]
 exact wp_app1 s x T E ho ht hi hz hsize hby hzs hsz v n xs hs hown g news hx hb hl h1 hn hm h
theorem enTakeG : En 130 := enters_of Tryz.func130 (by kernel_rfl) rfl
def GetM.kept (m : GetM) (sz typ : Int) (b : List Int) : GetM := { m with out := m.out ++ [(typ, b)], dn := m.dn + sz }
def GetM.taken (m : GetM) (a len sz typ : Int) : GetM := if len - 8 < 1 then m.got sz typ [] else { m with pc := .rd sz typ (a + 8) (len - 8) [] }
theorem GetM.got_eq (m : GetM) (sz typ : Int) (b : List Int) : m.got sz typ b = (m.kept sz typ b).record := rfl
variable {O R : Nat → Prop} {q : Nat} {m : GetM} {ov : Value}
set_option maxHeartbeats 4000000 in
theorem gTakeK_any (bs : Option Addr) (bl bc : Nat) (d : List Int) (sz typ : Int) (gb tb sb : Nat) (w : World) (h : GetW w O R q m ov) (hb : m.bas) (hg : Blk w gb [ptr q]) (ht : Blk w tb [.int .i32 typ]) (hs : Blk w sb [.int .i64 sz]) (og : O gb) (ot : O tb) (os : O sb) (hr : RdB w (.slice bs bl bc) d) (hro0 : ∀ i, (Value.slice bs bl bc).ownBlock = some i → O i) (hz0 : 8 ≤ sz) (hz1 : m.first + m.dn + sz ≤ m.c.s) :
  Calls Tryz.prog 130 #[.slice bs bl bc, ptr gb, ptr tb, ptr sb] w fun e w' => e = .returned (.tuple #[]) ∧ GetTo w O R q (m.got sz typ d) w' := by
 obtain ⟨b0, b1, b2, b3, b4, b5, b6⟩ := h.bd
 obtain ⟨g1, g2, g3, g4, g5, g6⟩ := id hb
 obtain ⟨i0, hi, hz0', hz1', hz2'⟩ := info_parts msinfo
 have hlt := h.lt
 have H := Lib.hid h
 have HB := Lib.hid hb
 obtain ⟨oa, oc, rfl⟩ := h.ms.sl
 obtain ⟨⟨es, hes, hown, hdat⟩, hrb⟩ := h.ms
 have hel : es.length = m.out.length := by rw [← hes, List.length_map]
 rw [hel] at hown
 have HES := Lib.hid (And.intro hes (And.intro hown (And.intro hdat hrb)))
 have hol : (m.out.length : Int) ≤ 1024 := by omega
 have hro : ∀ i, (Value.slice bs bl bc).ownBlock = some i → i ≠ q ∧ ¬ R i ∧ i < w.heap.size := fun i hi => ⟨fun e => h.nqo (e ▸ hro0 i hi), h.dj i (hro0 i hi), h.lo i (.inl (hro0 i hi))⟩
 have lg := hg.lt
 have lt' := ht.lt
 have ls := hs.lt
 have ng : gb ≠ q := fun e => h.nqo (e ▸ og)
 have nt : tb ≠ q := fun e => h.nqo (e ▸ ot)
 have ns : sb ≠ q := fun e => h.nqo (e ▸ os)
 have HG := Lib.hid hg
 have HT := Lib.hid ht
 have HS := Lib.hid hs
 have HRD := Lib.hid hr
 obtain ⟨c7, c8, c9, c10, c11, c12, c13, c14, c15⟩ := get_cells h.mch
 have f13 := Blk.frozen h.mch 13
 have p0 := hg.cell 0
 have p1 := ht.cell 0
 have p2 := hs.cell 0
 simp only [List.getElem?_cons_zero, ptr] at p0 p1 p2
 have W1 : IntKind.i64.wrap (m.dn + sz) = m.dn + sz := IntWalk.i64_in _ ⟨by omega, by omega⟩
 unfold ptr
 clear h hb hg ht hs hr hes hown hdat hrb b0 b1 hel
 go_enter Tryz.func130, Tryz.ntmps130
 go_wp2_with fail
 refine wp_region_held_drew (S := (fun w' => w'.cell? ⟨gb, 0, none⟩ = some (.pointer (some ⟨q, 0, none⟩)) ∧ w'.cell? ⟨tb, 0, none⟩ = some (.int .i32 typ))) (by kernel_rfl) ?_ (fun hHeld => ?_)
 ·try dsimp only
  go_keep
 refine wpT 0 rfl ?_
 try simp only [Act.put, tS]
 refine wpT 1 rfl ?_
 try simp only [Act.put, tS]
 refine wpT 2 rfl ?_
 try simp only [Act.put, tS]
 refine wpT 3 rfl ?_
 try simp only [Act.put, tS]
 refine wpT 5 rfl ?_
 try simp only [Act.put, tS]
 refine wpT 6 rfl ?_
 try simp only [Act.put, tS]
 refine wpT 7 rfl ?_
 try simp only [Act.put, tS]
 refine wpAnyH_ready (rs := [4, 8]) (by kernel_rfl) (by simp) ?_
 refine AllReadyH.cons rfl (fun K hK => ?_) (AllReadyH.cons rfl (fun K hK => ?_) AllReadyH.nil)
 ·go_simp
  refine hK.out _ _ ?_ (fun hHeld => ?_)
  ·try dsimp only
   go_keep
  clear hK K
  try simp only [Act.put, tS]
  refine wpR 8 rfl fun K hK => ?_
  try go_simp
  go_wp2_with fail
  refine hK.out _ _ ?_ (fun hHeld => ?_)
  ·try dsimp only
   go_keep
  clear hK K
  try simp only [Act.put, tS]
  refine wpR 9 rfl fun K hK => ?_
  have hnew := Blk.made (w.drew) #[Value.int .i32 typ, Value.slice bs bl bc] 34
  have bA : Below w.heap.size w ((w.drew).alloc (Obj.cells #[Value.int .i32 typ, Value.slice bs bl bc] 34)) := by go_grown
  refine step_app1 (by rfl) _ _ 22 34 (by rfl) Tryz.underlying22 hi hz0' hz1' hz2' rfl (by decide) (.slice oa m.out.length oc) m.out.length (es.flatMap msL) (by rfl) (ownsRow_keep HES.out.2.1 (Below.keeps (M := fun _ => False) bA) (fun _ _ => id)) w.heap.size [Value.int .i32 typ, Value.slice bs bl bc] (by rfl) hnew rfl (by intro u hu; simp at hu; rcases hu with rfl | rfl <;> rfl) (by omega) (by unfold maxLen; omega) ?_
  intro ov' w1 ow1 gr1 hov1
  obtain ⟨ra, rn, rc, rfl⟩ : ∃ ra rn rc, ov' = .slice ra rn rc := by
   rcases ow1.2 with ⟨e, _⟩ | ⟨_, _, _, e, _⟩
   ·exact ⟨_, _, _, e⟩
   ·exact ⟨_, _, _, e⟩
  have kg1 := grown_keep gr1
  have zg1 := kg1.size
  simp at zg1
  have nov : ∀ i, (Value.slice oa m.out.length oc).ownBlock = some i → R i := HES.out.2.2.2
  have eg := (kg1.cell (b := gb) 0 (by simp; omega) (fun e => H.out.dj _ og (nov _ e))).trans ((bA.cell (p := ⟨gb, 0, none⟩) lg).trans p0)
  have et := (kg1.cell (b := tb) 0 (by simp; omega) (fun e => H.out.dj _ ot (nov _ e))).trans ((bA.cell (p := ⟨tb, 0, none⟩) lt').trans p1)
  have eq13 := (kg1.cell (b := q) 13 (by simp; omega) (fun e => H.out.nqr (nov _ e))).trans ((bA.cell (p := ⟨q, 13, none⟩) hlt).trans c13)
  have fq13 := (kg1.frozen (b := q) 13 (by simp; omega) (fun e => H.out.nqr (nov _ e))).trans (((Below.keeps (M := fun _ => False) bA).frozen (b := q) 13 hlt id).trans f13)
  refine hK.out _ _ ?_ (fun hHeld => ?_)
  ·try dsimp only
   go_keep
  clear hK K
  try simp only [Act.put, tS]
  refine wpT 10 rfl ?_
  try simp only [Act.put, tS]
  refine wpT 11 rfl ?_
  try simp only [Act.put, tS]
  refine wpR 12 rfl fun K hK => ?_
  go_simp
  have ks := Keep.setCell (M := (· = q)) (Keep.refl _ w1) (p := ⟨q, 13, none⟩) (.inl rfl) (.slice ra rn rc)
  refine hK.out _ _ ?_ (fun hHeld => ?_)
  ·try dsimp only
   exact ⟨(ks.cell (b := gb) 0 (by omega) ng).trans eg, (ks.cell (b := tb) 0 (by omega) nt).trans et⟩
  clear hK K
  try simp only [Act.put, tS]
  refine wpAnyH_done (by kernel_rfl) ?_ _
  clear hHeld
  go_wp2_with fail
  have kA : Keep (fun i => (Value.slice oa m.out.length oc).ownBlock = some i) w w1 := by
   refine Keep.trans ?_ kg1
   exact Below.keeps bA
  have zA := kA.size
  have hovR : ∀ i, (Value.slice ra rn rc).ownBlock = some i → R i ∨ (w.heap.size ≤ i ∧ i < w1.heap.size) := by
   intro i hi
   rcases hov1 with e | e
   ·exact .inl (nov i (e ▸ hi))
   ·have h9 := World.ownsRow.lt ow1 _ hi
    rw [e] at hi
    cases hi
    refine .inr ⟨?_, h9.2⟩
    simp
  obtain ⟨w2, hw2⟩ : ∃ w2, w2 = w1.setCell ⟨q, 13, none⟩ (.slice ra rn rc) := ⟨_, rfl⟩
  have ks : Keep (· = q) w1 w2 := by rw [hw2]; exact Keep.setCell (M := (· = q)) (Keep.refl _ w1) (p := ⟨q, 13, none⟩) (.inl rfl) _
  have z2 := ks.size
  have kW : Keep (fun i => i = q ∨ R i) w w2 := (kA.mono (fun i _ e => .inr (nov i e))).trans (ks.mono (fun i _ e => .inl e))
  have nqv : ¬ (Value.slice ra rn rc).ownBlock = some q := by
   intro e
   rcases hovR _ e with h9 | h9
   ·exact H.out.nqr h9
   ·omega
  have h2 : GetW w2 (fun i => O i ∨ (Value.slice bs bl bc).ownBlock = some i) (fun i => R i ∨ (w.heap.size ≤ i ∧ i < w1.heap.size ∧ (Value.slice ra rn rc).ownBlock = some i)) q { m with out := m.out ++ [(typ, d)] } (.slice ra rn rc) := by
   refine ⟨?_, ⟨⟨es ++ [((typ, d), .slice bs bl bc)], ?_, ?_, ?_⟩, ?_⟩, ?_, ?_, ?_, ?_, H.out.ok⟩
   ·have := Blk.set (Blk.keep H.out.mch kA (fun e => H.out.nqr (nov _ e))) 13 (.slice ra rn rc)
    rw [hw2]
    exact this
   ·rw [List.map_append, HES.out.1]
    rfl
   ·have e1 : (es ++ [((typ, d), Value.slice bs bl bc)]).length = m.out.length + 1 := by
     rw [List.length_append, ← HES.out.1, List.length_map]
     rfl
    have e2 : (es ++ [((typ, d), Value.slice bs bl bc)]).flatMap msL = es.flatMap msL ++ [Value.int .i32 typ, Value.slice bs bl bc] := by
     rw [List.flatMap_append]
     rfl
    rw [e1, e2]
    exact ownsRow_keep ow1 ks (fun i hi e => nqv (by have e : i = q := e; exact e ▸ hi))
   ·intro x hx
    rcases List.mem_append.1 hx with hx | hx
    ·obtain ⟨r1, r2⟩ := HES.out.2.2.1 x hx
     exact ⟨(r1.keepP kW (fun i hi hh => by
      rcases hh with hh | hh
      ·exact H.out.nqo (hh ▸ r2 i hi)
      ·exact H.out.dj i (r2 i hi) hh)), fun i hi => .inl (r2 i hi)⟩
    ·obtain rfl := List.mem_singleton.1 hx
     exact ⟨HRD.out.keepP kW (fun i hi hh => by
      have := hro i hi
      rcases hh with hh | hh
      ·exact this.1 hh
      ·exact this.2.1 hh), fun i hi => .inr hi⟩
   ·intro i hi
    rcases hovR i hi with h9 | h9
    ·exact .inl h9
    ·exact .inr ⟨h9.1, h9.2, hi⟩
   ·rintro (h9 | h9)
    ·exact H.out.nqo h9
    ·exact (hro _ h9).1 rfl
   ·rintro (h9 | h9)
    ·exact H.out.nqr h9
    ·omega
   ·rintro i (h9 | h9) (h8 | h8)
    ·exact H.out.dj i h9 h8
    ·have := H.out.lo i (.inl h9)
     omega
    ·exact (hro i h9).2.1 h8
    ·have := (hro i h9).2.2
     omega
   ·rintro i ((h9 | h9) | (h9 | h9))
    ·have := H.out.lo i (.inl h9)
     omega
    ·have := (hro i h9).2.2
     omega
    ·have := H.out.lo i (.inr h9)
     omega
    ·omega
  have H2 := Lib.hid h2
  have KW := Lib.hid kW
  have G2 := Lib.hid (HG.out.keep kW (by rintro (h9 | h9); exact ng h9; exact H.out.dj _ og h9))
  have S2' := Lib.hid (HS.out.keep kW (by rintro (h9 | h9); exact ns h9; exact H.out.dj _ os h9))
  have q0 := G2.out.cell 0
  have q2 := S2'.out.cell 0
  have lg2 := G2.out.lt
  have ls2 := S2'.out.lt
  have hlt2 := h2.lt
  simp only [List.getElem?_cons_zero, ptr] at q0 q2
  obtain ⟨_, _, _, _, _, d12, _⟩ := get_cells h2.mch
  have e12 := Blk.frozen h2.mch 12
  rw [← hw2]
  clear hw2 kA kg1 ow1 gr1 eg et eq13 fq13 ks kW h2 bA hnew c7 c8 c9 c10 c11 c12 c13 c14 c15 f13 p0 p1 p2
  dsimp only at d12
  refine wp_region_held_drew (S := (fun w' => w'.cell? ⟨gb, 0, none⟩ = some (.pointer (some ⟨q, 0, none⟩)) ∧ w'.cell? ⟨sb, 0, none⟩ = some (.int .i64 sz))) (by kernel_rfl) ?_ (fun hHeld => ?_)
  ·try dsimp only
   go_keep
  refine wpT 0 rfl ?_
  try simp only [Act.put, tS]
  refine wpT 1 rfl ?_
  try simp only [Act.put, tS]
  refine wpT 2 rfl ?_
  try simp only [Act.put, tS]
  refine wpT 4 rfl ?_
  try simp only [Act.put, tS]
  refine wpR 3 rfl fun K hK => ?_
  go_simp
  refine hK.out _ _ ?_ (fun hHeld => ?_)
  ·try dsimp only
   go_keep
  clear hK K
  try simp only [Act.put, tS]
  refine wpT 5 rfl ?_
  try simp only [Act.put, tS]
  refine wpT 6 rfl ?_
  try simp only [Act.put, tS]
  refine wpT 7 rfl ?_
  try simp only [Act.put, tS]
  refine wpR 8 rfl fun K hK => ?_
  go_simp
  have ks2 := Keep.setCell (M := (· = q)) (Keep.refl _ w2.drew) (p := ⟨q, 12, none⟩) (.inl rfl) (.int .i64 (m.dn + sz))
  refine hK.out _ _ ?_ (fun hHeld => ?_)
  ·try dsimp only
   exact ⟨(ks2.cell (b := gb) 0 lg2 ng).trans q0, (ks2.cell (b := sb) 0 ls2 ns).trans q2⟩
  clear hK K
  try simp only [Act.put, tS]
  refine wpAnyH_done (by kernel_rfl) ?_ _
  clear hHeld
  go_wp2_with fail
  have h3 : GetW (w2.drew.setCell ⟨q, 12, none⟩ (.int .i64 (m.dn + sz))) (fun i => O i ∨ (Value.slice bs bl bc).ownBlock = some i) (fun i => R i ∨ (w.heap.size ≤ i ∧ i < w1.heap.size ∧ (Value.slice ra rn rc).ownBlock = some i)) q (m.kept sz typ d) (.slice ra rn rc) :=
   (H2.out.drew).put (m' := m.kept sz typ d) 12 (.int .i64 (m.dn + sz)) rfl rfl rfl
  refine (gRecord_any _ h3 ⟨g1, g2, g3, by show 0 ≤ m.dn + sz; omega, by show m.first + (m.dn + sz) ≤ m.c.s; omega, by show 8 * ((m.out ++ [(typ, d)]).length : Int) ≤ m.dn + sz; rw [List.length_append]; simp; omega⟩).mono ?_
  rintro e w5 ⟨rfl, hto⟩
  go_wp2
  go_end0
  refine ⟨rfl, ?_⟩
  rw [GetM.got_eq]
  refine hto.from ((KW.out.drew).setCell (p := ⟨q, 12, none⟩) (.inl (.inl rfl)) _) (fun i hi => ?_) (fun i hi => ?_)
  ·rcases hi with h9 | h9
   ·exact .inl h9
   ·exact .inl (hro0 i h9)
  ·rcases hi with h9 | h9
   ·exact .inl h9
   ·exact .inr h9.1
 ·try go_simp
  go_wp2_with fail
  refine hK.out _ _ ?_ (fun hHeld => ?_)
  ·try dsimp only
   go_keep
  clear hK K
  try simp only [Act.put, tS]
  refine wpR 4 rfl fun K hK => ?_
  go_simp
  refine hK.out _ _ ?_ (fun hHeld => ?_)
  ·try dsimp only
   go_keep
  clear hK K
  try simp only [Act.put, tS]
  refine wpR 9 rfl fun K hK => ?_
  have hnew := Blk.made (w.drew) #[Value.int .i32 typ, Value.slice bs bl bc] 34
  have bA : Below w.heap.size w ((w.drew).alloc (Obj.cells #[Value.int .i32 typ, Value.slice bs bl bc] 34)) := by go_grown
  refine step_app1 (by rfl) _ _ 22 34 (by rfl) Tryz.underlying22 hi hz0' hz1' hz2' rfl (by decide) (.slice oa m.out.length oc) m.out.length (es.flatMap msL) (by rfl) (ownsRow_keep HES.out.2.1 (Below.keeps (M := fun _ => False) bA) (fun _ _ => id)) w.heap.size [Value.int .i32 typ, Value.slice bs bl bc] (by rfl) hnew rfl (by intro u hu; simp at hu; rcases hu with rfl | rfl <;> rfl) (by omega) (by unfold maxLen; omega) ?_
  intro ov' w1 ow1 gr1 hov1
  obtain ⟨ra, rn, rc, rfl⟩ : ∃ ra rn rc, ov' = .slice ra rn rc := by
   rcases ow1.2 with ⟨e, _⟩ | ⟨_, _, _, e, _⟩
   ·exact ⟨_, _, _, e⟩
   ·exact ⟨_, _, _, e⟩
  have kg1 := grown_keep gr1
  have zg1 := kg1.size
  simp at zg1
  have nov : ∀ i, (Value.slice oa m.out.length oc).ownBlock = some i → R i := HES.out.2.2.2
  have eg := (kg1.cell (b := gb) 0 (by simp; omega) (fun e => H.out.dj _ og (nov _ e))).trans ((bA.cell (p := ⟨gb, 0, none⟩) lg).trans p0)
  have et := (kg1.cell (b := tb) 0 (by simp; omega) (fun e => H.out.dj _ ot (nov _ e))).trans ((bA.cell (p := ⟨tb, 0, none⟩) lt').trans p1)
  have eq13 := (kg1.cell (b := q) 13 (by simp; omega) (fun e => H.out.nqr (nov _ e))).trans ((bA.cell (p := ⟨q, 13, none⟩) hlt).trans c13)
  have fq13 := (kg1.frozen (b := q) 13 (by simp; omega) (fun e => H.out.nqr (nov _ e))).trans (((Below.keeps (M := fun _ => False) bA).frozen (b := q) 13 hlt id).trans f13)
  refine hK.out _ _ ?_ (fun hHeld => ?_)
  ·try dsimp only
   go_keep
  clear hK K
  try simp only [Act.put, tS]
  refine wpT 10 rfl ?_
  try simp only [Act.put, tS]
  refine wpT 11 rfl ?_
  try simp only [Act.put, tS]
  refine wpR 12 rfl fun K hK => ?_
  go_simp
  have ks := Keep.setCell (M := (· = q)) (Keep.refl _ w1) (p := ⟨q, 13, none⟩) (.inl rfl) (.slice ra rn rc)
  refine hK.out _ _ ?_ (fun hHeld => ?_)
  ·try dsimp only
   exact ⟨(ks.cell (b := gb) 0 (by omega) ng).trans eg, (ks.cell (b := tb) 0 (by omega) nt).trans et⟩
  clear hK K
  try simp only [Act.put, tS]
  refine wpAnyH_done (by kernel_rfl) ?_ _
  clear hHeld
  go_wp2_with fail
  have kA : Keep (fun i => (Value.slice oa m.out.length oc).ownBlock = some i) w w1 := by
   refine Keep.trans ?_ kg1
   exact Below.keeps bA
  have zA := kA.size
  have hovR : ∀ i, (Value.slice ra rn rc).ownBlock = some i → R i ∨ (w.heap.size ≤ i ∧ i < w1.heap.size) := by
   intro i hi
   rcases hov1 with e | e
   ·exact .inl (nov i (e ▸ hi))
   ·have h9 := World.ownsRow.lt ow1 _ hi
    rw [e] at hi
    cases hi
    refine .inr ⟨?_, h9.2⟩
    simp
  obtain ⟨w2, hw2⟩ : ∃ w2, w2 = w1.setCell ⟨q, 13, none⟩ (.slice ra rn rc) := ⟨_, rfl⟩
  have ks : Keep (· = q) w1 w2 := by rw [hw2]; exact Keep.setCell (M := (· = q)) (Keep.refl _ w1) (p := ⟨q, 13, none⟩) (.inl rfl) _
  have z2 := ks.size
  have kW : Keep (fun i => i = q ∨ R i) w w2 := (kA.mono (fun i _ e => .inr (nov i e))).trans (ks.mono (fun i _ e => .inl e))
  have nqv : ¬ (Value.slice ra rn rc).ownBlock = some q := by
   intro e
   rcases hovR _ e with h9 | h9
   ·exact H.out.nqr h9
   ·omega
  have h2 : GetW w2 (fun i => O i ∨ (Value.slice bs bl bc).ownBlock = some i) (fun i => R i ∨ (w.heap.size ≤ i ∧ i < w1.heap.size ∧ (Value.slice ra rn rc).ownBlock = some i)) q { m with out := m.out ++ [(typ, d)] } (.slice ra rn rc) := by
   refine ⟨?_, ⟨⟨es ++ [((typ, d), .slice bs bl bc)], ?_, ?_, ?_⟩, ?_⟩, ?_, ?_, ?_, ?_, H.out.ok⟩
   ·have := Blk.set (Blk.keep H.out.mch kA (fun e => H.out.nqr (nov _ e))) 13 (.slice ra rn rc)
    rw [hw2]
    exact this
   ·rw [List.map_append, HES.out.1]
    rfl
   ·have e1 : (es ++ [((typ, d), Value.slice bs bl bc)]).length = m.out.length + 1 := by
     rw [List.length_append, ← HES.out.1, List.length_map]
     rfl
    have e2 : (es ++ [((typ, d), Value.slice bs bl bc)]).flatMap msL = es.flatMap msL ++ [Value.int .i32 typ, Value.slice bs bl bc] := by
     rw [List.flatMap_append]
     rfl
    rw [e1, e2]
    exact ownsRow_keep ow1 ks (fun i hi e => nqv (by have e : i = q := e; exact e ▸ hi))
   ·intro x hx
    rcases List.mem_append.1 hx with hx | hx
    ·obtain ⟨r1, r2⟩ := HES.out.2.2.1 x hx
     exact ⟨(r1.keepP kW (fun i hi hh => by
      rcases hh with hh | hh
      ·exact H.out.nqo (hh ▸ r2 i hi)
      ·exact H.out.dj i (r2 i hi) hh)), fun i hi => .inl (r2 i hi)⟩
    ·obtain rfl := List.mem_singleton.1 hx
     exact ⟨HRD.out.keepP kW (fun i hi hh => by
      have := hro i hi
      rcases hh with hh | hh
      ·exact this.1 hh
      ·exact this.2.1 hh), fun i hi => .inr hi⟩
   ·intro i hi
    rcases hovR i hi with h9 | h9
    ·exact .inl h9
    ·exact .inr ⟨h9.1, h9.2, hi⟩
   ·rintro (h9 | h9)
    ·exact H.out.nqo h9
    ·exact (hro _ h9).1 rfl
   ·rintro (h9 | h9)
    ·exact H.out.nqr h9
    ·omega
   ·rintro i (h9 | h9) (h8 | h8)
    ·exact H.out.dj i h9 h8
    ·have := H.out.lo i (.inl h9)
     omega
    ·exact (hro i h9).2.1 h8
    ·have := (hro i h9).2.2
     omega
   ·rintro i ((h9 | h9) | (h9 | h9))
    ·have := H.out.lo i (.inl h9)
     omega
    ·have := (hro i h9).2.2
     omega
    ·have := H.out.lo i (.inr h9)
     omega
    ·omega
  have H2 := Lib.hid h2
  have KW := Lib.hid kW
  have G2 := Lib.hid (HG.out.keep kW (by rintro (h9 | h9); exact ng h9; exact H.out.dj _ og h9))
  have S2' := Lib.hid (HS.out.keep kW (by rintro (h9 | h9); exact ns h9; exact H.out.dj _ os h9))
  have q0 := G2.out.cell 0
  have q2 := S2'.out.cell 0
  have lg2 := G2.out.lt
  have ls2 := S2'.out.lt
  have hlt2 := h2.lt
  simp only [List.getElem?_cons_zero, ptr] at q0 q2
  obtain ⟨_, _, _, _, _, d12, _⟩ := get_cells h2.mch
  have e12 := Blk.frozen h2.mch 12
  rw [← hw2]
  clear hw2 kA kg1 ow1 gr1 eg et eq13 fq13 ks kW h2 bA hnew c7 c8 c9 c10 c11 c12 c13 c14 c15 f13 p0 p1 p2
  dsimp only at d12
  refine wp_region_held_drew (S := (fun w' => w'.cell? ⟨gb, 0, none⟩ = some (.pointer (some ⟨q, 0, none⟩)) ∧ w'.cell? ⟨sb, 0, none⟩ = some (.int .i64 sz))) (by kernel_rfl) ?_ (fun hHeld => ?_)
  ·try dsimp only
   go_keep
  refine wpT 0 rfl ?_
  try simp only [Act.put, tS]
  refine wpT 1 rfl ?_
  try simp only [Act.put, tS]
  refine wpT 2 rfl ?_
  try simp only [Act.put, tS]
  refine wpT 4 rfl ?_
  try simp only [Act.put, tS]
  refine wpR 3 rfl fun K hK => ?_
  go_simp
  refine hK.out _ _ ?_ (fun hHeld => ?_)
  ·try dsimp only
   go_keep
  clear hK K
  try simp only [Act.put, tS]
  refine wpT 5 rfl ?_
  try simp only [Act.put, tS]
  refine wpT 6 rfl ?_
  try simp only [Act.put, tS]
  refine wpT 7 rfl ?_
  try simp only [Act.put, tS]
  refine wpR 8 rfl fun K hK => ?_
  go_simp
  have ks2 := Keep.setCell (M := (· = q)) (Keep.refl _ w2.drew) (p := ⟨q, 12, none⟩) (.inl rfl) (.int .i64 (m.dn + sz))
  refine hK.out _ _ ?_ (fun hHeld => ?_)
  ·try dsimp only
   exact ⟨(ks2.cell (b := gb) 0 lg2 ng).trans q0, (ks2.cell (b := sb) 0 ls2 ns).trans q2⟩
  clear hK K
  try simp only [Act.put, tS]
  refine wpAnyH_done (by kernel_rfl) ?_ _
  clear hHeld
  go_wp2_with fail
  have h3 : GetW (w2.drew.setCell ⟨q, 12, none⟩ (.int .i64 (m.dn + sz))) (fun i => O i ∨ (Value.slice bs bl bc).ownBlock = some i) (fun i => R i ∨ (w.heap.size ≤ i ∧ i < w1.heap.size ∧ (Value.slice ra rn rc).ownBlock = some i)) q (m.kept sz typ d) (.slice ra rn rc) :=
   (H2.out.drew).put (m' := m.kept sz typ d) 12 (.int .i64 (m.dn + sz)) rfl rfl rfl
  refine (gRecord_any _ h3 ⟨g1, g2, g3, by show 0 ≤ m.dn + sz; omega, by show m.first + (m.dn + sz) ≤ m.c.s; omega, by show 8 * ((m.out ++ [(typ, d)]).length : Int) ≤ m.dn + sz; rw [List.length_append]; simp; omega⟩).mono ?_
  rintro e w5 ⟨rfl, hto⟩
  go_wp2
  go_end0
  refine ⟨rfl, ?_⟩
  rw [GetM.got_eq]
  refine hto.from ((KW.out.drew).setCell (p := ⟨q, 12, none⟩) (.inl (.inl rfl)) _) (fun i hi => ?_) (fun i hi => ?_)
  ·rcases hi with h9 | h9
   ·exact .inl h9
   ·exact .inl (hro0 i h9)
  ·rcases hi with h9 | h9
   ·exact .inl h9
   ·exact .inr h9.1
set_option maxHeartbeats 4000000 in
theorem gTakeMsg_any (a len sz typ : Int) (w : World) (h : GetW w O R q m ov) (hb : m.bas) (ha0 : 0 ≤ a) (ha1 : a ≤ 131072) (hl0 : 8 ≤ len) (hl1 : len ≤ sz) (hz0 : 8 ≤ sz) (hz1 : m.first + m.dn + sz ≤ m.c.s) :
  Calls Tryz.prog 97 #[.pointer (some ⟨q, 0, none⟩), .int .i64 a, .int .i64 len, .int .i64 sz, .int .i32 typ] w fun e w' => e = .returned (.tuple #[]) ∧ GetTo w O R q (m.taken a len sz typ) w' := by
 obtain ⟨b0, b1, b2, b3, b4, b5, b6⟩ := h.bd
 obtain ⟨g1, g2, g3, g4, g5, g6⟩ := id hb
 have hlt := h.lt
 have H := Lib.hid h
 have HB := Lib.hid hb
 have W1 : IntKind.i64.wrap (a + 8) = a + 8 := IntWalk.i64_in _ ⟨by omega, by omega⟩
 have W2 : IntKind.i64.wrap (len - 8) = len - 8 := IntWalk.i64_in _ ⟨by omega, by omega⟩
 clear h hb b0 b1
 go_enter Tryz.func97, Tryz.ntmps97
 go_upto_region 1 with fail
 obtain ⟨w3, hw3, x0, x1, x2, hs3, bb3⟩ := pbox3 w (.pointer (some ⟨q, 0, none⟩)) (.int .i64 sz) (.int .i32 typ) 95 3 21
 rw [← hw3]
 have X0 := Lib.hid x0
 have X1 := Lib.hid x1
 have X2 := Lib.hid x2
 have B3 := Lib.hid bb3
 have p0 := x0.cell 0
 have l0 : w.heap.size < w3.heap.size := by omega
 simp only [List.getElem?_cons_zero] at p0
 clear hw3 x0 x1 x2 bb3
 have hO3 : GetW w3 (fun i => O i ∨ (w.heap.size ≤ i ∧ i < w3.heap.size)) R q m ov := (H.out.below B3.out).mono (fun i hi => .inl hi) (by rintro (h9 | h9); exact H.out.nqo h9; omega) (by
  rintro i (h9 | h9) h8
  ·exact H.out.dj i h9 h8
  ·have := H.out.lo i (.inr h8)
   omega) (by
  rintro i (h9 | h9)
  ·have := H.out.lo i (.inl h9)
   omega
  ·exact h9.2)
 have H3 := Lib.hid hO3
 clear hO3
 by_cases hn : len - 8 < 1
 ·have HR := Lib.hid (show m.taken a len sz typ = m.got sz typ [] from if_pos hn)
  go_wp2_with fail
  refine (cOut_end q (a + 8) (len - 8) none 0 0 _ _ _ hn enTakeG (GetTo w O R q (m.got sz typ [])) (fun w4 b4 => ?_)).mono ?_
  ·have z4 := b4.size
   have h4 := H3.out.below b4
   refine (gTakeK_any none 0 0 [] sz typ w.heap.size (w.heap.size + 1 + 1) (w.heap.size + 1) w4 (h4.mono (O' := fun i => O i ∨ (w.heap.size ≤ i ∧ i < w3.heap.size)) (fun i hi => hi) h4.nqo h4.dj (fun i hi => h4.lo i (.inl hi))) HB.out (X0.out.below b4 l0) (X2.out.below b4 (by omega)) (X1.out.below b4 (by omega)) (.inr ⟨by omega, by omega⟩) (.inr ⟨by omega, by omega⟩) (.inr ⟨by omega, by omega⟩) (.inl ⟨rfl, rfl⟩) (fun i hi => by cases hi) hz0 hz1).mono ?_
   rintro e w5 ⟨rfl, hto⟩
   exact ⟨rfl, hto.from (Below.keeps (B3.out.trans (b4.mono (by omega)))) (fun i hi => hi.imp id (fun h9 => .inr h9.1)) (fun i hi => .inl hi)⟩
  ·rintro e w5 ⟨rfl, hto⟩
   go_wp2
   go_end0
   exact ⟨rfl, by rw [HR.out]; exact hto⟩
 ·have HR := Lib.hid (show m.taken a len sz typ = { m with pc := .rd sz typ (a + 8) (len - 8) [] } from if_neg hn)
  obtain ⟨n, hnn⟩ : ∃ n : Nat, len - 8 = n := ⟨(len - 8).toNat, by omega⟩
  have hn1 : 1 ≤ n := by omega
  have HN := Lib.hid hnn
  go_wp2_with fail
  refine (cOut_more q _ _ _ (a + 8) n none 0 0 _ _ _ H3.out.mch hn1).mono ?_
  rintro e w5 ⟨rfl, t5, m5, l5, k5⟩
  have z5 := k5.size
  go_wp2
  go_end0
  rw [HR.out, HN.out]
  refine ⟨rfl, fun i => O i ∨ (w.heap.size ≤ i ∧ i < w5.heap.size), R, ov, ⟨⟨t5, _, _, m5, l5.mono (fun i hi => .inr ⟨by omega, hi.2⟩), ⟨rfl, .inl ⟨rfl, rfl⟩⟩, (fun i hi => by cases hi), Clo.mk3 ?_ (.inr ⟨by omega, by omega⟩) ?_ (.inr ⟨by omega, by omega⟩) ?_ (.inr ⟨by omega, by omega⟩)⟩, ?_, ?_, H.out.nqr, ?_, ?_⟩, ?_, ?_⟩
  ·exact X0.out.keep k5 (by show ¬ w.heap.size = q; omega)
  ·exact X2.out.keep k5 (by show ¬ w.heap.size + 1 + 1 = q; omega)
  ·exact X1.out.keep k5 (by show ¬ w.heap.size + 1 = q; omega)
  ·exact ((H3.out.ms.keep k5 (fun j hj e => H3.out.nqo (e ▸ hj)) (fun j hj e => H3.out.nqr (e ▸ hj)))).mono (fun i hi => hi.imp id (fun h9 => ⟨h9.1, by omega⟩)) (fun _ => id)
  ·rintro (h9 | h9)
   ·exact H.out.nqo h9
   ·omega
  ·rintro i (h9 | h9) h8
   ·exact H.out.dj i h9 h8
   ·have := H.out.lo i (.inr h8)
    omega
  ·rintro i ((h9 | h9) | h9)
   ·have := H.out.lo i (.inl h9)
    omega
   ·exact h9.2
   ·have := H.out.lo i (.inr h9)
    omega
  ·rintro i ((h9 | h9) | h9)
   ·exact .inl h9
   ·exact .inr (.inr h9.1)
   ·exact .inr (.inl h9)
  ·exact ((Below.keeps B3.out).trans (k5.mono (fun i _ e => .inl e)))
theorem alV_8 {n : Int} (h0 : 0 ≤ n) (h1 : n ≤ 2147483647) : alV n 8 = (n + 7) / 8 * 8 := by
 have hp : isP 8 = true := by decide
 have e3 : decide (n < 0) = false := decide_eq_false (by omega)
 have e4 : decide (4611686018427387904 < n) = false := decide_eq_false (by omega)
 unfold alV alBad
 rw [e3, e4, hp]
 simp only [Bool.or_false, Bool.not_true, Bool.false_eq_true, if_false]
 split <;> omega
def GetM.seen (m : GetM) (v : Int) : GetM :=
 if loS v < 1 then m.zero
 else if loS v < 8 ∨ m.left < rsz (loS v) then ({ m with odd := true } : GetM).zero
 else if hiS v = -1 then ({ m with dn := m.dn + rsz (loS v) } : GetM).record
 else m.taken m.at (loS v) (rsz (loS v)) (hiS v)
theorem loS_bdG (v : Int) : -2147483648 ≤ loS v ∧ loS v ≤ 2147483647 := by unfold loS wrap32; omega
theorem hiS_bdG (v : Int) : -2147483648 ≤ hiS v ∧ hiS v ≤ 2147483647 := by unfold hiS wrap32; omega
set_option maxHeartbeats 4000000 in
theorem gRecordK_any (v : Int) (gb ab : Nat) (w : World) (h : GetW w O R q m ov) (hb : m.bas) (hg : Blk w gb [ptr q]) (ha : Blk w ab [.int .i64 m.at]) (og : O gb) (oa : O ab) (hv : inU v) :
  Calls Tryz.prog 96 #[.int .u64 v, ptr gb, ptr ab] w fun e w' => e = .returned (.tuple #[]) ∧ GetTo w O R q (m.seen v) w' := by
 obtain ⟨b0, b1, b2, b3, b4, b5, b6⟩ := h.bd
 obtain ⟨g1, g2, g3, g4, g5, g6⟩ := id hb
 have hlt := h.lt
 have H := Lib.hid h
 have HB := Lib.hid hb
 have lg := hg.lt
 have la := ha.lt
 have ng : gb ≠ q := fun e => h.nqo (e ▸ og)
 have na : ab ≠ q := fun e => h.nqo (e ▸ oa)
 have p0 := hg.cell 0
 have p1 := ha.cell 0
 simp only [List.getElem?_cons_zero, ptr] at p0 p1
 obtain ⟨c7, c8, c9, c10, c11, c12, c13, c14, c15⟩ := get_cells h.mch
 have f14 := Blk.frozen h.mch 14
 have f12 := Blk.frozen h.mch 12
 have lb := loS_bdG v
 have hbb := hiS_bdG v
 obtain ⟨L, hL⟩ : ∃ L, L = loS v := ⟨_, rfl⟩
 obtain ⟨Y, hY⟩ : ∃ Y, Y = hiS v := ⟨_, rfl⟩
 have HL := Lib.hid hL
 have HY := Lib.hid hY
 rw [← hL] at lb
 rw [← hY] at hbb
 have hsz : alV (max L 0) 8 = rsz L := by rw [alV_8 (by omega) (by omega)]; rfl
 obtain ⟨Z, hZ⟩ : ∃ Z, Z = rsz L := ⟨_, rfl⟩
 have HZ := Lib.hid hZ
 have HSZ := Lib.hid (hsz.trans hZ.symm)
 have HA := Lib.hid (show m.at = m.c.b + m.first + m.dn from rfl)
 have W1 : IntKind.i64.wrap (max L 0) = max L 0 := IntWalk.i64_in _ ⟨by omega, by omega⟩
 have W3 : IntKind.i64.wrap L = L := IntWalk.i64_in _ ⟨by omega, by omega⟩
 unfold ptr
 clear h hb hg ha b0 b1 hL hY hZ hsz
 go_enter Tryz.func96, Tryz.ntmps96
 go_wp2_with fail
 refine (split_any v _ hv.1 hv.2).mono ?_
 rintro e w1 ⟨rfl, rfl⟩
 rw [← HL.out, ← HY.out]
 by_cases h1 : L < 1
 ·have HR := Lib.hid (show m.seen v = m.zero by unfold GetM.seen; rw [← HL.out, if_pos h1])
  have hmx : max L 0 = 0 := by omega
  have h1' : L ≤ 0 := by omega
  go_wp2_with fail
  all_goals
   refine (align_any _ _ _ (by decide)).mono ?_
   rintro e w1 ⟨rfl, rfl⟩
   go_wp2_with fail
   refine (gZero_any w H.out HB.out).mono ?_
   rintro e w5 ⟨rfl, hto⟩
   go_wp2
   first
    | (refine bodyPost_ret (v := .tuple #[]) (results_none rfl _ _ _) rfl ⟨rfl, ?_⟩; rw [HR.out]; exact hto)
    | (go_end0; refine ⟨rfl, ?_⟩; rw [HR.out]; exact hto)
 have hmx : max L 0 = L := by omega
 have h1' : ¬ L ≤ 0 := by omega
 have h1'' : 0 ≤ L := by omega
 go_wp2_with fail
 refine (align_any _ _ _ (by decide)).mono ?_
 rintro e w1 ⟨rfl, rfl⟩
 have HSZ2 := HSZ.out
 rw [hmx] at HSZ2
 rw [HSZ2]
 clear HSZ2
 have h1n : ¬ L < 1 := by omega
 have hZ : Z = (L + 7) / 8 * 8 := by
  rw [HZ.out]
  unfold rsz
  omega
 by_cases h2 : L < 8
 ·have HR := Lib.hid (show m.seen v = ({ m with odd := true } : GetM).zero by unfold GetM.seen; rw [← HL.out, if_neg (by omega), if_pos (.inl h2)])
  have HZZ := Lib.hid hZ
  clear hZ
  go_wp2_with fail
  refine (gZero_any (m := { m with odd := true }) _ (H.out.put (m' := { m with odd := true }) 14 (.bool true) rfl rfl rfl) ⟨g1, g2, g3, g4, g5, g6⟩).mono ?_
  have HK := Lib.hid (Keep.setCell (M := fun i => i = q ∨ R i) (Keep.refl _ w) (p := ⟨q, 14, none⟩) (.inl (.inl rfl)) (.bool true))
  rintro e w5 ⟨rfl, hto⟩
  go_wp2
  first
   | (refine bodyPost_ret (v := .tuple #[]) (results_none rfl _ _ _) rfl ⟨rfl, ?_⟩; rw [HR.out]; exact hto.after HK.out)
   | (go_end0; refine ⟨rfl, ?_⟩; rw [HR.out]; exact hto.after HK.out)
 have HZZ := Lib.hid hZ
 have hz8 : 8 ≤ Z := by omega
 have hzl : L ≤ Z := by omega
 have hzb : Z ≤ 2147483656 := by omega
 clear hZ
 go_wp2_with fail
 refine (gLeft_any w H.out HB.out).mono ?_
 rintro e w2 ⟨rfl, b2⟩
 have z2 := b2.size
 have H2 := Lib.hid (H.out.below b2)
 have K2 := Lib.hid (show Keep (fun i => i = q ∨ R i) w w2 from Below.keeps b2)
 have d0 := (b2.cell (p := ⟨gb, 0, none⟩) lg).trans p0
 have d1 := (b2.cell (p := ⟨ab, 0, none⟩) la).trans p1
 obtain ⟨e7, e8, e9, e10, e11, e12, e13, e14, e15⟩ := get_cells H2.out.mch
 have x14 := Blk.frozen H2.out.mch 14
 have x12 := Blk.frozen H2.out.mch 12
 have lg2 : gb < w2.heap.size := by omega
 have la2 : ab < w2.heap.size := by omega
 have lq2 : q < w2.heap.size := by omega
 clear b2 c7 c8 c9 c10 c11 c12 c13 c14 c15 f14 f12 p0 p1
 have hn2 : ¬ L < 8 := by omega
 by_cases h3 : m.left < Z
 ·have HR := Lib.hid (show m.seen v = ({ m with odd := true } : GetM).zero by unfold GetM.seen; rw [← HL.out, if_neg (by omega), if_pos (.inr (by rw [← HZ.out]; exact h3))])
  go_wp2_with fail
  refine (gZero_any (m := { m with odd := true }) _ (H2.out.put (m' := { m with odd := true }) 14 (.bool true) rfl rfl rfl) ⟨g1, g2, g3, g4, g5, g6⟩).mono ?_
  have HK := Lib.hid (K2.out.setCell (p := ⟨q, 14, none⟩) (.inl (.inl rfl)) (.bool true))
  rintro e w5 ⟨rfl, hto⟩
  go_wp2
  first
   | (refine bodyPost_ret (v := .tuple #[]) (results_none rfl _ _ _) rfl ⟨rfl, ?_⟩; rw [HR.out]; exact hto.after HK.out)
   | (go_end0; refine ⟨rfl, ?_⟩; rw [HR.out]; exact hto.after HK.out)
 have h3' : ¬ m.left < Z := by omega
 have hleft : m.left = m.c.s - m.first - m.dn := rfl
 have hz1 : m.first + m.dn + Z ≤ m.c.s := by omega
 have HZ1 := Lib.hid hz1
 have W5 : IntKind.i64.wrap (m.dn + Z) = m.dn + Z := IntWalk.i64_in _ ⟨by omega, by omega⟩
 clear hleft hz1
 by_cases h4 : Y = -1
 ·have HR := Lib.hid (show m.seen v = ({ m with dn := m.dn + Z } : GetM).record by unfold GetM.seen; rw [← HL.out, ← HY.out, if_neg (by omega), if_neg (by rw [← HZ.out]; omega), if_pos h4, ← HZ.out])
  have HY4 := Lib.hid h4
  go_wp2_with fail
  refine (gRecord_any (m := { m with dn := m.dn + Z }) _ (H2.out.put (m' := { m with dn := m.dn + Z }) 12 (.int .i64 (m.dn + Z)) rfl rfl rfl) ⟨g1, g2, g3, by show 0 ≤ m.dn + Z; omega, by show m.first + (m.dn + Z) ≤ m.c.s; have := HZ1.out; omega, by show 8 * (m.out.length : Int) ≤ m.dn + Z; omega⟩).mono ?_
  have HK := Lib.hid (K2.out.setCell (p := ⟨q, 12, none⟩) (.inl (.inl rfl)) (.int .i64 (m.dn + Z)))
  rintro e w5 ⟨rfl, hto⟩
  go_wp2
  first
   | (refine bodyPost_ret (v := .tuple #[]) (results_none rfl _ _ _) rfl ⟨rfl, ?_⟩; rw [HR.out]; exact hto.after HK.out)
   | (go_end0; refine ⟨rfl, ?_⟩; rw [HR.out]; exact hto.after HK.out)
 ·have h4' : ¬ (Y = -1) := by omega
  have HR := Lib.hid (show m.seen v = m.taken m.at L Z Y by unfold GetM.seen; rw [← HL.out, ← HY.out, if_neg (by omega), if_neg (by rw [← HZ.out]; omega), if_neg h4, ← HZ.out])
  have hbY : (Y == -1) = false := by simpa using h4
  go_wp2_with fail
  refine (gTakeMsg_any m.at L Z Y _ H2.out HB.out (by rw [HA.out]; omega) (by rw [HA.out]; omega) (by omega) hzl hz8 HZ1.out).mono ?_
  have HK := K2
  rintro e w5 ⟨rfl, hto⟩
  go_wp2
  first
   | (refine bodyPost_ret (v := .tuple #[]) (results_none rfl _ _ _) rfl ⟨rfl, ?_⟩; rw [HR.out]; exact hto.after HK.out)
   | (go_end0; refine ⟨rfl, ?_⟩; rw [HR.out]; exact hto.after HK.out)
set_option maxHeartbeats 2000000 in
theorem gNewK_any (v : Int) (rb pb : Nat) (w : World) (h : GetW w O R q m ov) (hr : Blk w rb [.int .i64 m.c.b, .int .i64 m.c.s]) (hp : Blk w pb [ptr q]) (or : O rb) (op : O pb) (hv : inU v) (ho : m.out = []) (hd : m.dn = 0) :
  Calls Tryz.prog 64 #[.int .u64 v, ptr rb, ptr pb] w fun e w' => e = .returned (.tuple #[]) ∧ GetTo w O R q (({ m with hd := v, first := v % m.c.s } : GetM).record) w' := by
 obtain ⟨b0, b1, b2, b3, b4, b5, b6⟩ := h.bd
 have hlt := h.lt
 have H := Lib.hid h
 have lp := hp.lt
 have lr := hr.lt
 have np : pb ≠ q := fun e => h.nqo (e ▸ op)
 have nr : rb ≠ q := fun e => h.nqo (e ▸ or)
 have p0 := hp.cell 0
 have r1 := hr.cell 1
 simp only [List.getElem?_cons_zero, List.getElem?_cons_succ, ptr] at p0 r1
 have c10 := Blk.cell h.mch 10
 have c11 := Blk.cell h.mch 11
 have f10 := Blk.frozen h.mch 10
 have f11 := Blk.frozen h.mch 11
 have m1 := Int.emod_nonneg v (show m.c.s ≠ 0 by omega)
 have m2 := Int.emod_lt_of_pos v (show 0 < m.c.s by omega)
 have HM := Lib.hid (show mkS (IntKind.i64.wrap v) m.c.s = v % m.c.s by unfold mkS; rw [if_pos b1, wrap_s64]; exact s64_mod b0 v)
 have HO := Lib.hid (And.intro ho hd)
 unfold ptr
 clear h hr hp b0 b1 ho hd
 go_enter Tryz.func64, Tryz.ntmps64
 go_wp2_with fail
 refine wp_region_held_drew (S := (fun w' => w'.cell? ⟨pb, 0, none⟩ = some (.pointer (some ⟨q, 0, none⟩)) ∧ w'.cell? ⟨rb, 1, none⟩ = some (.int .i64 m.c.s))) (by kernel_rfl) ?_ (fun hHeld => ?_)
 ·try dsimp only
  go_keep
 refine wpT 0 rfl ?_
 try simp only [Act.put, tS]
 refine wpT 1 rfl ?_
 try simp only [Act.put, tS]
 refine wpT 2 rfl ?_
 try simp only [Act.put, tS]
 refine wpT 3 rfl ?_
 try simp only [Act.put, tS]
 refine wpT 4 rfl ?_
 try simp only [Act.put, tS]
 refine wpT 5 rfl ?_
 try simp only [Act.put, tS]
 refine wpT 6 rfl ?_
 try simp only [Act.put, tS]
 refine wpR 7 rfl fun K hK => ?_
 go_simp
 go_at_call 56
 refine (mask_any _ _ _ (by omega)).mono ?_
 rintro e w2 ⟨rfl, rfl⟩
 go_wp2_with fail
 rw [HM.out]
 refine hK.out _ _ ?_ (fun hHeld => ?_)
 ·try dsimp only
  go_keep
 clear hK K
 try simp only [Act.put, tS]
 refine wpT 8 rfl ?_
 try simp only [Act.put, tS]
 refine wpT 9 rfl ?_
 try simp only [Act.put, tS]
 refine wpR 10 rfl fun K hK => ?_
 go_simp
 have ks := Keep.setCell (M := (· = q)) (Keep.refl _ w.drew) (p := ⟨q, 10, none⟩) (.inl rfl) (.int .u64 v)
 refine hK.out _ _ ?_ (fun hHeld => ?_)
 ·try dsimp only
  exact ⟨(ks.cell (b := pb) 0 lp np).trans p0, (ks.cell (b := rb) 1 lr nr).trans r1⟩
 clear hK K
 try simp only [Act.put, tS]
 refine wpT 11 rfl ?_
 try simp only [Act.put, tS]
 refine wpT 12 rfl ?_
 try simp only [Act.put, tS]
 refine wpR 13 rfl fun K hK => ?_
 go_simp
 have ks := Keep.setCell (M := (· = q)) (Keep.setCell (M := (· = q)) (Keep.refl _ w.drew) (p := ⟨q, 10, none⟩) (.inl rfl) (.int .u64 v)) (p := ⟨q, 11, none⟩) (.inl rfl) (.int .i64 (v % m.c.s))
 refine hK.out _ _ ?_ (fun hHeld => ?_)
 ·try dsimp only
  exact ⟨(ks.cell (b := pb) 0 lp np).trans p0, (ks.cell (b := rb) 1 lr nr).trans r1⟩
 clear hK K
 try simp only [Act.put, tS]
 refine wpAnyH_done (by kernel_rfl) ?_ _
 clear hHeld
 go_wp2_with fail
 have hg := ((H.out.drew).put (m' := { m with hd := v }) 10 (.int .u64 v) rfl rfl rfl).put (m' := { m with hd := v, first := v % m.c.s }) 11 (.int .i64 (v % m.c.s)) rfl rfl rfl
 have ks := Keep.setCell (M := fun i => i = q ∨ R i) (Keep.setCell (M := fun i => i = q ∨ R i) ((Keep.refl _ w).drew) (p := ⟨q, 10, none⟩) (.inl (.inl rfl)) (.int .u64 v)) (p := ⟨q, 11, none⟩) (.inl (.inl rfl)) (.int .i64 (v % m.c.s))
 refine (gRecord_any _ hg ⟨hv, m1, m2, by show 0 ≤ m.dn; rw [HO.out.2]; omega, by show v % m.c.s + m.dn ≤ m.c.s; rw [HO.out.2]; omega, by show 8 * (m.out.length : Int) ≤ m.dn; rw [HO.out.2, HO.out.1]; simp⟩).mono ?_
 rintro e w5 ⟨rfl, hto⟩
 go_wp2
 go_end0
 exact ⟨rfl, hto.after ks⟩
set_option maxHeartbeats 2000000 in
theorem gZeroK_any (gb : Nat) (w : World) (h : GetW w O R q m ov) (hg : Blk w gb [ptr q]) (og : O gb) :
  Calls Tryz.prog 128 #[ptr gb] w fun e w' => e = .returned (.tuple #[]) ∧ GetTo w O R q { m with pc := .st } w' := by
 obtain ⟨b0, b1, b2, b3, b4, b5, b6⟩ := h.bd
 have hlt := h.lt
 have H := Lib.hid h
 have lg := hg.lt
 have ng : gb ≠ q := fun e => h.nqo (e ▸ og)
 have p0 := hg.cell 0
 simp only [List.getElem?_cons_zero, ptr] at p0
 obtain ⟨c7, c8, c9, c10, c11, c12, c13, c14, c15⟩ := get_cells h.mch
 have W1 : IntKind.i64.wrap (m.c.b + m.c.s) = m.c.b + m.c.s := IntWalk.i64_in _ ⟨by omega, by omega⟩
 have W2 : IntKind.i64.wrap (m.c.b + m.c.s + 16) = m.c.b + m.c.s + 16 := IntWalk.i64_in _ ⟨by omega, by omega⟩
 have HW3 := Lib.hid (show IntKind.u64.wrap (m.hd + IntKind.u64.wrap m.dn) = u64 (m.hd + m.dn) by rw [wrap_u64', wrap_u64']; unfold u64; rw [Int.add_emod, Int.emod_emod, ← Int.add_emod])
 unfold ptr
 clear h hg b0 b1
 go_enter Tryz.func128, Tryz.ntmps128
 go_wp2_with fail
 go_region_held3 (fun w' => w'.cell? ⟨gb, 0, none⟩ = some (.pointer (some ⟨q, 0, none⟩)) ∧ w'.cell? ⟨q, 7, none⟩ = some (.int .i64 m.c.b) ∧ w'.cell? ⟨q, 8, none⟩ = some (.int .i64 m.c.s) ∧ w'.cell? ⟨q, 10, none⟩ = some (.int .u64 m.hd) ∧ w'.cell? ⟨q, 12, none⟩ = some (.int .i64 m.dn)) (first | go_keep | trivial)
  (first
   | (go_at_call 74; refine (cStore_bd q _ _ _ (m.c.b + m.c.s + 16) 8 _ _ _ _ _ (H.out.drew).mch).mono ?_; rintro e w5 ⟨rfl, t5, m5, l5, k5⟩; have hd0 := fun o => k5.cell (b := gb) o (by simpa using lg) ng; obtain ⟨e7, e8, _, e10, _, e12, _⟩ := get_cells m5))
 all_goals
  clear hd0 e7 e8 e10 e12
  have z5 := k5.size
  simp at z5
  go_wp2
  go_end0
  refine ⟨rfl, GetTo.simple (O' := fun i => w.heap.size ≤ i ∧ i < w5.heap.size) H.out (((Keep.refl _ w).drew).trans k5) ⟨nofun, nofun⟩ (t := t5) ?_ rfl (l5.mono (fun i hi => .inr ⟨by have := hi.1; simp at this; omega, hi.2⟩)) (fun i hi => hi)⟩
  rw [HW3.out] at m5
  exact m5
def GetM.pcOk (m : GetM) : Prop := match m.pc with
 | .done => True
 | .hd0 => m.out = [] ∧ m.dn = 0
 | .rc => m.bas ∧ 0 < m.left
 | .rd sz typ p n hv => m.bas ∧ 8 ≤ sz ∧ m.first + m.dn + sz ≤ m.c.s ∧ 1 ≤ n ∧ n ≤ 8192 ∧ 0 ≤ p ∧ p + n ≤ 200000 ∧ (hv.length : Int) + 1000 * n ≤ 9000000
 | .zr p k => m.bas ∧ 1 ≤ k ∧ k ≤ 8192 ∧ 0 ≤ p ∧ p + k ≤ 200000
 | .st => m.bas
structure GetM.fine (m : GetM) : Prop where
 ok : m.live = true → m.c.ok = true
 pc : m.pcOk
 lo : m.out.length ≤ 1024
 ds : ∀ x ∈ m.out, x.2.length ≤ 9000000
theorem GetM.fine.stop (h1 : m.out.length ≤ 1024) (h2 : ∀ x ∈ m.out, x.2.length ≤ 9000000) : m.stop.fine := ⟨nofun, trivial, h1, h2⟩
theorem GetM.fine.zero (hok : m.c.ok = true) (hb : m.bas) (h1 : m.out.length ≤ 1024) (h2 : ∀ x ∈ m.out, x.2.length ≤ 9000000) : m.zero.fine := by
 obtain ⟨o1, o2⟩ : rgOk m.c.b m.c.s = true ∧ 1 ≤ m.c.most := by
  unfold GetC.ok at hok
  simpa using hok
 obtain ⟨a1, a2, a3, a4, a5, a6⟩ := rgOk_bd o1
 have hb' := hb
 obtain ⟨g1, g2, g3, g4, g5, g6⟩ := hb
 unfold GetM.zero
 split
 ·exact GetM.fine.stop h1 h2
 ·rename_i hd
  refine ⟨fun _ => hok, ⟨⟨g1, g2, g3, g4, g5, g6⟩, ?_, ?_, ?_, ?_⟩, h1, h2⟩ <;> omega
theorem GetM.bas.lo (hb : m.bas) (hok : m.c.ok = true) : m.out.length ≤ 1024 := by
 obtain ⟨o1, o2⟩ : rgOk m.c.b m.c.s = true ∧ 1 ≤ m.c.most := by
  unfold GetC.ok at hok
  simpa using hok
 obtain ⟨a1, a2, a3, a4, a5, a6⟩ := rgOk_bd o1
 obtain ⟨g1, g2, g3, g4, g5, g6⟩ := hb
 omega
theorem GetM.fine.record (hok : m.c.ok = true) (hb : m.bas) (h2 : ∀ x ∈ m.out, x.2.length ≤ 9000000) : m.record.fine := by
 unfold GetM.record
 split
 ·exact GetM.fine.zero hok hb (hb.lo hok) h2
 ·rename_i h
  exact ⟨fun _ => hok, ⟨⟨hb.hd, hb.f0, hb.f1, hb.d0, hb.d1, hb.l8⟩, by show 0 < m.left; omega⟩, hb.lo hok, h2⟩
theorem GetM.bas.kept (hb : m.bas) {sz typ : Int} {d : List Int} (h8 : 8 ≤ sz) (h1 : m.first + m.dn + sz ≤ m.c.s) : (m.kept sz typ d).bas := by
 obtain ⟨g1, g2, g3, g4, g5, g6⟩ := hb
 refine ⟨g1, g2, g3, by show 0 ≤ m.dn + sz; omega, by show m.first + (m.dn + sz) ≤ m.c.s; omega, ?_⟩
 show 8 * ((m.out ++ [(typ, d)]).length : Int) ≤ m.dn + sz
 rw [List.length_append]
 simp
 omega
theorem GetM.fine.got (hok : m.c.ok = true) (hb : m.bas) (h2 : ∀ x ∈ m.out, x.2.length ≤ 9000000) {sz typ : Int} {d : List Int} (h8 : 8 ≤ sz) (h1 : m.first + m.dn + sz ≤ m.c.s) (hd : d.length ≤ 9000000) : (m.got sz typ d).fine := by
 rw [GetM.got_eq]
 refine GetM.fine.record hok (hb.kept h8 h1) ?_
 intro x hx
 rcases List.mem_append.1 hx with hx | hx
 ·exact h2 x hx
 ·obtain rfl := List.mem_singleton.1 hx
  exact hd
theorem GetM.step_rc (m : GetM) (hpc : m.pc = .rc) (x : AN) : m.step x = m.seen x.v := by
 obtain ⟨c, pc, hd, first, dn, out, odd, e⟩ := m
 dsimp only at hpc
 subst hpc
 rfl
theorem GetM.fine.seen (hok : m.c.ok = true) (hb : m.bas) (h2 : ∀ x ∈ m.out, x.2.length ≤ 9000000) (v : Int) : (m.seen v).fine := by
 obtain ⟨o1, o2⟩ : rgOk m.c.b m.c.s = true ∧ 1 ≤ m.c.most := by
  unfold GetC.ok at hok
  simpa using hok
 obtain ⟨a1, a2, a3, a4, a5, a6⟩ := rgOk_bd o1
 have hb' := hb
 obtain ⟨g1, g2, g3, g4, g5, g6⟩ := hb
 have hl : m.left = m.c.s - m.first - m.dn := rfl
 have hsz : 0 ≤ rsz (loS v) ∧ loS v ≤ rsz (loS v) ∧ rsz (loS v) % 8 = 0 := by unfold rsz; omega
 unfold GetM.seen
 split
 ·exact GetM.fine.zero hok hb' (hb'.lo hok) h2
 split
 ·exact GetM.fine.zero (m := { m with odd := true }) hok ⟨g1, g2, g3, g4, g5, g6⟩ (hb'.lo hok) h2
 split
 ·exact GetM.fine.record (m := { m with dn := m.dn + rsz (loS v) }) hok ⟨g1, g2, g3, by show 0 ≤ m.dn + rsz (loS v); omega, by show m.first + (m.dn + rsz (loS v)) ≤ m.c.s; omega, by show 8 * (m.out.length : Int) ≤ m.dn + rsz (loS v); omega⟩ h2
 ·unfold GetM.taken
  have ha : m.at = m.c.b + m.first + m.dn := rfl
  split
  ·exact GetM.fine.got hok hb' h2 (by omega) (by omega) (by simp)
  ·refine ⟨fun _ => hok, ⟨⟨g1, g2, g3, g4, g5, g6⟩, ?_, ?_, ?_, ?_, ?_, ?_, ?_⟩, hb'.lo hok, h2⟩
   ·omega
   ·show m.first + m.dn + rsz (loS v) ≤ m.c.s
    omega
   ·omega
   ·omega
   ·omega
   ·omega
   ·simp
    omega
theorem GetM.fine.step (h : m.fine) (hl : m.live = true) {x : AN} (hx : inU x.v) (hxb : x.b.length ≤ 1000) : (m.step x).fine := by
 have hok := h.ok hl
 have hp := h.pc
 have h2 := h.ds
 have h1 := h.lo
 obtain ⟨o1, o2⟩ : rgOk m.c.b m.c.s = true ∧ 1 ≤ m.c.most := by
  unfold GetC.ok at hok
  simpa using hok
 obtain ⟨a1, a2, a3, a4, a5, a6⟩ := rgOk_bd o1
 obtain ⟨c, pc, hd, first, dn, out, odd, e⟩ := m
 dsimp only at hok a1 a2 a3 a4 a5 a6 h1 h2
 cases pc with
 | done => cases hl
 | hd0 =>
  obtain ⟨p1, p2⟩ := hp
  dsimp only at p1 p2
  subst p1 p2
  have m1 := Int.emod_nonneg x.v (show c.s ≠ 0 by omega)
  have m2 := Int.emod_lt_of_pos x.v (show 0 < c.s by omega)
  exact GetM.fine.record (m := ⟨c, .hd0, x.v, x.v % c.s, 0, [], odd, e⟩) hok ⟨hx, m1, m2, Int.le_refl 0, by show x.v % c.s + 0 ≤ c.s; omega, by simp⟩ h2
 | rc => exact GetM.fine.seen (m := ⟨c, .rc, hd, first, dn, out, odd, e⟩) hok hp.1 h2 x.v
 | rd sz typ p n hv =>
  obtain ⟨hb, p1, p2, p3, p4, p5, p6, p7⟩ := hp
  simp only [GetM.step]
  split
  ·exact GetM.fine.got (m := ⟨c, .rd sz typ p n hv, hd, first, dn, out, odd, e⟩) hok hb h2 p1 p2 (by rw [List.length_append]; omega)
  ·refine ⟨fun _ => hok, ⟨⟨hb.hd, hb.f0, hb.f1, hb.d0, hb.d1, hb.l8⟩, p1, p2, by omega, by omega, by omega, by omega, ?_⟩, h1, h2⟩
   rw [List.length_append]
   omega
 | zr p k =>
  obtain ⟨hb, p1, p2, p3, p4⟩ := hp
  simp only [GetM.step]
  split
  ·exact ⟨fun _ => hok, ⟨hb.hd, hb.f0, hb.f1, hb.d0, hb.d1, hb.l8⟩, h1, h2⟩
  ·exact ⟨fun _ => hok, ⟨⟨hb.hd, hb.f0, hb.f1, hb.d0, hb.d1, hb.l8⟩, by omega, by omega, by omega, by omega⟩, h1, h2⟩
 | st => exact GetM.fine.stop (m := ⟨c, .st, hd, first, dn, out, odd, e⟩) h1 h2
theorem GetM.fine.wf (h : m.fine) : m.want.wf := by
 have u0 : inU 0 := ⟨by omega, by omega⟩
 have hp := h.pc
 obtain ⟨c, pc, hd, first, dn, out, odd, e⟩ := m
 cases pc with
 | zr p k =>
  obtain ⟨hb, p1, p2, p3, p4⟩ := hp
  refine ⟨?_, ?_, u0.1, u0.2, u0.1, u0.2⟩
  ·intro x hx
   have := List.eq_of_mem_replicate hx
   omega
  ·show (List.replicate (min k 8).toNat (0 : Int)).length ≤ 1000000
   simp
   omega
 | st => exact ⟨IsB.nil, by simp [GetM.want], (u64_bdP _).1, (u64_bdP _).2, u0.1, u0.2⟩
 | _ => exact ⟨IsB.nil, by simp [GetM.want, aaZ], u0.1, u0.2, u0.1, u0.2⟩
theorem GetI.w {w w1 : World} (h : GetI w O R q m ov) (hok : m.c.ok = true) (m1 : Mch w1 q accZ .nilFunc (m.rest ov)) (k1 : Keep (· = q) w w1) : GetW w1 O R q m ov :=
 ⟨m1, h.ms.keep k1 (fun i hi e => h.nqo (e ▸ hi)) (fun i hi e => h.nqr (e ▸ hi)), h.nqo, h.nqr, h.dj, fun i hi => Nat.lt_of_lt_of_le (h.lo i hi) k1.size, hok⟩
theorem GetI.lt {w : World} (h : GetI w O R q m ov) : q < w.heap.size := by
 obtain ⟨c, t, hm⟩ := h.at_.mch
 exact Blk.lt hm
theorem GetI.keep {w w' : World} {O R M : Nat → Prop} (h : GetI w O R q m ov) (k : Keep M w w') (hd : ∀ i, O i → ¬ M i) (hr : ∀ i, R i → ¬ M i) (hq : ¬ M q) : GetI w' O R q m ov :=
 ⟨h.at_.keep k hd hr hq, h.ms.keep k hd hr, h.nqo, h.nqr, h.dj, fun i hi => Nat.lt_of_lt_of_le (h.lo i hi) k.size⟩
theorem GetI.below {w w' : World} (h : GetI w O R q m ov) (b : Below w.heap.size w w') : GetI w' O R q m ov := h.keep (M := fun _ => False) (Below.keeps b) (fun _ _ => id) (fun _ _ => id) id
theorem enGNew : En 64 := enters_of Tryz.func64 (by kernel_rfl) rfl
theorem enGRecord : En 96 := enters_of Tryz.func96 (by kernel_rfl) rfl
theorem enGZero : En 128 := enters_of Tryz.func128 (by kernel_rfl) rfl
theorem enGStop : En 126 := enters_of Tryz.func126 (by kernel_rfl) rfl
theorem own_apart {w : World} {v u : Value} {n k : Nat} {xs ys : List Value} (h : w.ownsRow 0 5 1 v n xs) (g : w.ownsRow 0 34 2 u k ys) {i : Nat} (h1 : v.ownBlock = some i) : u.ownBlock ≠ some i := by
 intro h2
 rcases h.2 with ⟨rfl, _⟩ | ⟨a, _, c, rfl, _, e1, _⟩
 ·cases h1
 rcases g.2 with ⟨rfl, _⟩ | ⟨b, _, d, rfl, _, e2, _⟩
 ·cases h2
 obtain rfl : a = i := by simpa [Value.ownBlock] using h1
 obtain rfl : b = a := by simpa [Value.ownBlock] using h2
 rw [e1] at e2
 simp at e2
set_option maxHeartbeats 4000000 in
theorem gcTake_rd {c : GetC} {sz typ p n : Int} {hv : List Int} {hd first dn e : Int} {out : List (Int × List Int)} {odd : Bool} (x : AN) (s0 : Option Addr) (sl sc : Nat) (w : World) (h : GetI w O R q ⟨c, .rd sz typ p n hv, hd, first, dn, out, odd, e⟩ ov) (hf : (GetM.mk c (.rd sz typ p n hv) hd first dn out odd e).fine) (hxb : x.b.length ≤ 1000) (hr : RdB w (.slice s0 sl sc) x.b) :
  Calls Tryz.prog 192 #[.pointer (some ⟨q, 0, none⟩), .agg #[.int .u64 x.v, .bool x.d, .slice s0 sl sc]] w fun e' w' => e' = .returned (.tuple #[]) ∧ GetTo w O R q ((GetM.mk c (.rd sz typ p n hv) hd first dn out odd e).step x) w' := by
 have hok := hf.ok rfl
 obtain ⟨hb, f1, f2, f3, f4, f5, f6, f7⟩ := hf.pc
 dsimp only at f2
 obtain ⟨t, hvv, fv, hm, hk, hown, hvR, hc⟩ := h.at_
 have hlt := h.lt
 obtain ⟨cb, ab, kb, nb, hbk, fb, rfl, ⟨h1, h2, h3, h4, h5, h6⟩, o1, o2, o3, o4, o5, o6⟩ := hk
 obtain ⟨gb, tb, sb, rfl, ⟨hg, og⟩, ⟨ht, ot⟩, hs, os⟩ := hc.c3
 obtain ⟨N, rfl⟩ : ∃ N : Nat, n = N := ⟨n.toNat, by omega⟩
 obtain ⟨K, hK⟩ : ∃ K : Nat, min (N : Int) 8 = (K : Int) := ⟨(min (N : Int) 8).toNat, by omega⟩
 rw [hK] at h3
 refine cTake_any q _ _ _ _ x.v x.d s0 sl sc w hm (fun w1 => enOut1 _ w1) _ ?_
 intro w1 m1 k1
 have hW := h.w hok m1 k1
 have z1 := k1.size
 have nq : ∀ i, O i → ¬ i = q := fun i hi e => h.nqo (e ▸ hi)
 have hown1 : OwB 5 0 w1 hvv hv := ownsRow_keep hown k1 (fun i hi e => h.nqr (e ▸ hvR i hi))
 have hr1 : RdB w1 (.slice s0 sl sc) x.b := by
  by_cases hl : x.b.length = 0
  ·obtain hl : x.b = [] := List.eq_nil_of_length_eq_zero hl
   rw [hl] at hr ⊢
   rcases hr with hr | hr | ⟨b, off, cap, e1, e2, e3, e4⟩
   ·exact .inl hr
   ·exact .inr (.inl hr)
   ·exact .inr (.inr ⟨b, off, cap, e1, e2, e3, fun i hi => by simp at hi⟩)
  ·refine hr.keep k1 (fun _ i hi e => ?_)
   have hap : ∀ i, (Value.slice s0 sl sc).ownBlock = some i → i ≠ q := by
    intro i hi e
    subst e
    rcases hr with ⟨e1, _⟩ | ⟨_, _, e1, e2, _⟩ | ⟨b, off, cap, e1, e2, e3, e4⟩
    ·rw [e1] at hi; cases hi
    ·exact hl (by rw [e2]; rfl)
    ·rw [e1] at hi
     obtain rfl : b = i := by simpa [Value.ownBlock] using hi
     have hcl := e4 0 (by omega)
     obtain ⟨oa, oc, rfl⟩ := h.ms.sl
     have hcl2 := Blk.cell hm (off + 0)
     rw [hcl2] at hcl
     have hmem := List.mem_of_getElem? hcl
     simp [Acc.cs, AA.acc, GetM.want, GetM.rest] at hmem
   exact hap i hi e
 refine cOutK_any q p K N hvv _ _ hv x.b x.v x.d s0 sl sc cb ab kb nb hbk fb w1 (h1.keep k1 (nq _ o1)) (h2.keep k1 (nq _ o2)) (h3.keep k1 (nq _ o3)) (h4.keep k1 (nq _ o4)) (h5.keep k1 (nq _ o5)) (h6.keep k1 (nq _ o6)) hown1 hr1 (by omega) (by omega) (by omega) (by omega) (by omega) (by omega)
  (fun i hi => ⟨fun e => h.dj _ o1 (e ▸ hvR i hi), fun e => h.dj _ o2 (e ▸ hvR i hi), fun e => h.dj _ o3 (e ▸ hvR i hi), fun e => h.dj _ o4 (e ▸ hvR i hi), fun e => h.dj _ o5 (e ▸ hvR i hi), fun e => h.dj _ o6 (e ▸ hvR i hi)⟩)
  (fun w' => GetTo w O R q ((GetM.mk c (.rd sz typ p N hv) hd first dn out odd e).step x) w') (fun i => i = q ∨ R i) (by
   rintro i (rfl | hi)
   ·omega
   ·have := h.lo i (.inr hi)
    omega) ⟨fun hh => hh.elim (nq _ o1) (h.dj _ o1), fun hh => hh.elim (nq _ o2) (h.dj _ o2), fun hh => hh.elim (nq _ o3) (h.dj _ o3), fun hh => hh.elim (nq _ o4) (h.dj _ o4), fun hh => hh.elim (nq _ o5) (h.dj _ o5), fun hh => hh.elim (nq _ o6) (h.dj _ o6)⟩ ?_
 intro w2 ra rn rc hown2 hov2 k2
 have z2 := k2.size
 have k2' : Keep (fun i => i = q ∨ R i) w1 w2 := k2.mono (fun i _ e => .inr (hvR i e))
 have k02 : Keep (fun i => i = q ∨ R i) w w2 := (k1.mono (fun i _ e => .inl e)).trans k2'
 have hnew : ∀ i, (Value.slice ra rn rc).ownBlock = some i → R i ∨ (w.heap.size ≤ i ∧ i < w2.heap.size) := by
  intro i hi
  rcases hov2 with e | ⟨b, e, e2, e3⟩
  ·exact .inl (hvR i (e ▸ hi))
  ·rw [e] at hi
   cases hi
   exact .inr ⟨by omega, e3⟩
 have h2w : Mch w2 q accZ .nilFunc (GetM.rest ⟨c, .rd sz typ p N hv, hd, first, dn, out, odd, e⟩ ov) := Blk.keep m1 k2 (fun e => h.nqr (hvR _ e))
 have hms2 : MsIn w2 O R ov out := by
  have hA := hW.ms
  obtain ⟨⟨es, g1, g2, g3⟩, g4⟩ := hA
  refine ⟨⟨es, g1, ownsRow_keep g2 k2 (fun i hi e => own_apart hown1 g2 e hi), fun y hy => ⟨(g3 y hy).1.keepP k2 (fun i hi e => h.dj i ((g3 y hy).2 i hi) (hvR i e)), (g3 y hy).2⟩⟩, g4⟩
 have hstep : (GetM.mk c (.rd sz typ p N hv) hd first dn out odd e).step x = if (N : Int) ≤ 8 then (GetM.mk c (.rd sz typ p N hv) hd first dn out odd e).got sz typ (hv ++ x.b) else ⟨c, .rd sz typ (p + 8) (N - 8) (hv ++ x.b), hd, first, dn, out, odd, e⟩ := rfl
 rw [hstep]
 by_cases h8 : (N : Int) ≤ 8
 ·rw [if_pos h8]
  have hKN : (N : Int) - K = 0 := by omega
  rw [hKN]
  refine (cOut_end q (p + K) 0 ra rn rc _ _ w2 (by omega) enTakeG (fun w' => GetTo w O R q ((GetM.mk c (.rd sz typ p N hv) hd first dn out odd e).got sz typ (hv ++ x.b)) w' ∧ Keep (fun i => i = q ∨ R i) w2 w') (fun w3 b3 => ?_))
  have z3 := b3.size
  have kO : ∀ i, O i → i < w2.heap.size := fun i hi => by have := h.lo i (.inl hi); omega
  obtain ⟨es, g1, g2, g3⟩ := hms2.ex
  have hW3 : GetW w3 (fun i => O i ∨ (Value.slice ra rn rc).ownBlock = some i) (fun i => R i ∧ (Value.slice ra rn rc).ownBlock ≠ some i) q ⟨c, .rd sz typ p N hv, hd, first, dn, out, odd, e⟩ ov := by
   refine GetW.below ⟨h2w, ⟨⟨es, g1, g2, fun y hy => ⟨(g3 y hy).1, fun i hi => .inl ((g3 y hy).2 i hi)⟩⟩, fun i hi => ⟨hms2.rb i hi, fun e => own_apart hown2 g2 e hi⟩⟩, ?_, fun hh => h.nqr hh.1, ?_, ?_, hok⟩ b3
   ·rintro (hh | hh)
    ·exact h.nqo hh
    ·rcases hnew _ hh with h9 | h9
     ·exact h.nqr h9
     ·omega
   ·rintro i (hh | hh) ⟨h9, h10⟩
    ·exact h.dj i hh h9
    ·exact h10 hh
   ·rintro i ((hh | hh) | hh)
    ·exact kO i hh
    ·exact (World.ownsRow.lt hown2 _ hh).2
    ·have := h.lo i (.inr hh.1)
     omega
  have nO : ∀ i, O i → ¬ (i = q ∨ R i) := fun i hi hh => hh.elim (nq i hi) (h.dj i hi)
  refine (gTakeK_any ra rn rc (hv ++ x.b) sz typ gb tb sb w3 hW3 ⟨hb.hd, hb.f0, hb.f1, hb.d0, hb.d1, hb.l8⟩ ((hg.keep k02 (nO _ og)).below b3 (kO _ og)) ((ht.keep k02 (nO _ ot)).below b3 (kO _ ot)) ((hs.keep k02 (nO _ os)).below b3 (kO _ os)) (.inl og) (.inl ot) (.inl os) (hown2.rd.below b3) (fun i hi => .inr hi) f1 f2).mono ?_
  rintro e' w4 ⟨rfl, hto⟩
  refine ⟨rfl, hto.from (k02.trans (Below.keeps b3)) (fun i hi => ?_) (fun i hi => .inl hi.1), ?_⟩
  ·rcases hi with hi | hi
   ·exact .inl hi
   ·rcases hnew i hi with h9 | h9
    ·exact .inr (.inl h9)
    ·exact .inr (.inr h9.1)
  ·obtain ⟨_, _, _, _, _, k4⟩ := hto
   exact (Below.keeps b3).trans (k4.mono (fun i _ hh => hh.imp id (fun h9 => h9.1)))
 ·rw [if_neg h8]
  have hK8 : K = 8 := by omega
  have hN8 : (N : Int) - K = ((N - 8 : Nat) : Int) := by omega
  rw [hN8]
  refine (cOut_more q _ _ _ (p + K) (N - 8) ra rn rc _ _ w2 h2w (by omega)).mono ?_
  rintro e' w3 ⟨rfl, t3, m3, l3, k3⟩
  have z3 := k3.size
  have eK : p + K = p + 8 := by omega
  have eN : ((N - 8 : Nat) : Int) = (N : Int) - 8 := by omega
  rw [eK, eN] at m3 l3
  have nO : ∀ i, O i → ¬ (i = q ∨ R i) := fun i hi hh => hh.elim (nq i hi) (h.dj i hi)
  refine ⟨rfl, ⟨fun i => O i ∨ (w2.heap.size ≤ i ∧ i < w3.heap.size), fun i => R i ∨ (w.heap.size ≤ i ∧ i < w2.heap.size ∧ (Value.slice ra rn rc).ownBlock = some i), ov, ⟨⟨t3, _, _, m3, l3.mono (fun i hi => .inr hi), ?_, ?_, Clo.mk3 ?_ (.inl og) ?_ (.inl ot) ?_ (.inl os)⟩, ?_, ?_, ?_, ?_, ?_⟩, ?_, ?_⟩, k3.mono (fun i _ e => .inl e)⟩
  ·exact ownsRow_keep hown2 k3 (fun i hi e => by
    rcases hnew i hi with h9 | h9
    ·exact h.nqr ((show i = q from e) ▸ h9)
    ·have : i = q := e
     omega)
  ·intro i hi
   rcases hnew i hi with h9 | h9
   ·exact .inl h9
   ·exact .inr ⟨h9.1, h9.2, hi⟩
  ·exact (hg.keep k02 (nO _ og)).keep k3 (nq _ og)
  ·exact (ht.keep k02 (nO _ ot)).keep k3 (nq _ ot)
  ·exact (hs.keep k02 (nO _ os)).keep k3 (nq _ os)
  ·exact (hms2.keep k3 (fun i hi e => nq i hi e) (fun i hi e => h.nqr ((show i = q from e) ▸ hi))).mono (fun i hi => .inl hi) (fun i hi => .inl hi)
  ·rintro (hh | hh)
   ·exact h.nqo hh
   ·omega
  ·rintro (hh | hh)
   ·exact h.nqr hh
   ·omega
  ·rintro i (hh | hh) (h9 | h9)
   ·exact h.dj i hh h9
   ·have := h.lo i (.inl hh)
    omega
   ·have := h.lo i (.inr h9)
    omega
   ·omega
  ·rintro i ((hh | hh) | (hh | hh))
   ·have := h.lo i (.inl hh)
    omega
   ·exact hh.2
   ·have := h.lo i (.inr hh)
    omega
   ·omega
  ·rintro i ((hh | hh) | (hh | hh))
   ·exact .inl hh
   ·exact .inr (.inr (by omega))
   ·exact .inr (.inl hh)
   ·exact .inr (.inr hh.1)
  ·exact k02.trans (k3.mono (fun i _ e => .inl e))
set_option maxHeartbeats 2000000 in
theorem gcTake_any (x : AN) (s0 : Option Addr) (sl sc : Nat) (w : World) (h : GetI w O R q m ov) (hf : m.fine) (hl : m.live = true) (hx : inU x.v) (hxb : x.b.length ≤ 1000) (hr : RdB w (.slice s0 sl sc) x.b) :
  Calls Tryz.prog 192 #[.pointer (some ⟨q, 0, none⟩), .agg #[.int .u64 x.v, .bool x.d, .slice s0 sl sc]] w fun e w' => e = .returned (.tuple #[]) ∧ GetTo w O R q (m.step x) w' := by
 have hok := hf.ok hl
 have hA := h.at_
 have hp := hf.pc
 have nqb : ∀ b, O b → b ≠ q := fun b hb e => h.nqo (e ▸ hb)
 obtain ⟨c, pc, hd, first, dn, out, odd, e⟩ := m
 cases pc with
 | done => cases hl
 | rd sz typ p n hv => exact gcTake_rd x s0 sl sc w h hf hxb hr
 | hd0 =>
  obtain ⟨t, hm, rb, pb, c1, hrb, hpb, orb, opb⟩ := hA
  refine takeLoad O q _ t _ _ _ x.v x.d s0 sl sc w hm c1 h.nqo enGNew _ (fun w1 m1 k1 => ?_)
  refine (gNewK_any x.v rb pb w1 (h.w hok m1 k1) (hrb.keep k1 (nqb _ orb)) (hpb.keep k1 (nqb _ opb)) orb opb hx hp.1 hp.2).mono ?_
  rintro e' w' ⟨rfl, hto⟩
  exact ⟨rfl, hto.after (k1.mono (fun i _ e => .inl e))⟩
 | rc =>
  obtain ⟨t, hm, v1, c1, c2⟩ := hA
  obtain ⟨pb, eb, rfl, ⟨hpb, opb⟩, he, oe⟩ := c2.c2
  refine takeLoad O q _ t _ _ _ x.v x.d s0 sl sc w hm c1 h.nqo enGRecord _ (fun w1 m1 k1 => ?_)
  refine (gRecordK_any x.v pb eb w1 (h.w hok m1 k1) ⟨hp.1.hd, hp.1.f0, hp.1.f1, hp.1.d0, hp.1.d1, hp.1.l8⟩ (hpb.keep k1 (nqb _ opb)) (he.keep k1 (nqb _ oe)) opb oe hx).mono ?_
  rintro e' w' ⟨rfl, hto⟩
  refine ⟨rfl, ?_⟩
  rw [GetM.step_rc _ rfl]
  exact hto.after (k1.mono (fun i _ e => .inl e))
 | st =>
  obtain ⟨t, hm, c1⟩ := hA
  refine takeStoreB O q _ t _ _ _ x.v x.d s0 sl sc w hm c1 h.nqo enGStop _ (fun w1 m1 k1 => ?_)
  refine (gStop_any w1 (h.w hok m1 k1)).mono ?_
  rintro e' w' ⟨rfl, hto⟩
  exact ⟨rfl, hto.after (k1.mono (fun i _ e => .inl e))⟩
 | zr p k =>
  obtain ⟨f0, hin, c2⟩ := hA
  obtain ⟨gb, rfl, hg, og⟩ := c2.c1
  obtain ⟨hb, p1, p2, p3, p4⟩ := hp
  have hkl : (List.replicate k.toNat (0 : Int)).length = k.toNat := List.length_replicate
  have hstep : (GetM.mk c (.zr p k) hd first dn out odd e).step x = if k ≤ 8 then ⟨c, .st, hd, first, dn, out, odd, e⟩ else ⟨c, .zr (p + 8) (k - 8), hd, first, dn, out, odd, e⟩ := rfl
  rw [hstep]
  by_cases h8 : k ≤ 8
  ·rw [if_pos h8]
   refine (inTake_last O q p _ _ _ _ x.v x.d s0 sl sc w hin h.nqo (by rw [hkl]; omega) (by omega) (by omega) (enGZero _) (fun w' => GetTo w O R q ⟨c, .st, hd, first, dn, out, odd, e⟩ w') (fun i => i = q ∨ R i) (.inl rfl) (fun i hi hh => hh.elim (nqb i hi) (h.dj i hi)) (fun w1 m1 k1 => ?_)).mono ?_
   ·refine (gZeroK_any gb w1 (h.w hok m1 k1) (hg.keep k1 (nqb gb og)) og).mono ?_
    rintro e2 w' ⟨rfl, hto⟩
    obtain ⟨_, _, _, _, _, kk⟩ := id hto
    exact ⟨rfl, hto.after (k1.mono (fun i _ e => .inl e)), kk⟩
   ·rintro e2 w' ⟨rfl, hto, k'⟩
    exact ⟨rfl, hto⟩
  ·rw [if_neg h8]
   refine (inTake_more O q p _ _ _ _ x.v x.d s0 sl sc w hin h.nqo (by rw [hkl]; omega) (by rw [hkl]; omega) (by omega) (by omega)).mono ?_
   rintro e2 w' ⟨rfl, hin', k'⟩
   have zk := k'.size
   have hdr : (List.replicate k.toNat (0 : Int)).drop 8 = List.replicate (k - 8).toNat 0 := by
    rw [List.drop_replicate]
    congr 1
    omega
   rw [hdr] at hin'
   have hlt := h.lt
   refine ⟨rfl, fun i => O i ∨ (w.heap.size ≤ i ∧ i < w'.heap.size), R, ov, ⟨⟨_, hin', Clo.mk1 (hg.keep k' (nqb gb og)) (.inl og)⟩, ?_, ?_, h.nqr, ?_, ?_⟩, ?_, k'.mono (fun i _ e => .inl e)⟩
   ·exact (h.ms.keep k' (fun j hj e => nqb j hj e) (fun j hj e => h.nqr ((show j = q from e) ▸ hj))).mono (fun i hi => .inl hi) (fun _ => id)
   ·rintro (hh | hh)
    ·exact h.nqo hh
    ·omega
   ·rintro i (hh | hh) h9
    ·exact h.dj i hh h9
    ·have := h.lo i (.inr h9)
     omega
   ·rintro i ((hh | hh) | hh)
    ·have := h.lo i (.inl hh)
     omega
    ·exact hh.2
    ·have := h.lo i (.inr hh)
     omega
   ·rintro i ((hh | hh) | hh)
    ·exact .inl hh
    ·exact .inr (.inr hh.1)
    ·exact .inr (.inl hh)
theorem gcNext_any (w : World) (h : GetAt w O R q m ov) (hf : m.fine) :
  Calls Tryz.prog 113 #[.pointer (some ⟨q, 0, none⟩)] w fun e w' => ∃ s0 sl sc, e = .returned (.tuple #[m.want.V (.slice s0 sl sc), .bool m.live]) ∧ RdB w' (.slice s0 sl sc) m.want.b ∧ Below w.heap.size w w' := by
 have hp := hf.pc
 obtain ⟨c, pc, hd, first, dn, out, odd, e⟩ := m
 have more : ∀ (a : AA) (f : Nat) (cap : Array Value) (r : List Value), a.b = [] → Mch w q a.acc (.func (.func f) #[] cap) r → Calls Tryz.prog 113 #[.pointer (some ⟨q, 0, none⟩)] w fun e w' => ∃ s0 sl sc, e = .returned (.tuple #[a.V (.slice s0 sl sc), .bool true]) ∧ RdB w' (.slice s0 sl sc) a.b ∧ Below w.heap.size w w' := by
  intro a f cap r hb hm
  refine (cNext_more q a.k a.a a.n a.v a.x none 0 0 f _ r w hm).mono ?_
  rintro e w' ⟨rfl, b⟩
  exact ⟨none, 0, 0, rfl, by rw [hb]; exact .inl ⟨rfl, rfl⟩, b⟩
 cases pc with
 | done =>
  obtain ⟨t, hm, rfl⟩ := h
  refine (cNext_end q _ _ w hm).mono ?_
  rintro e w' ⟨rfl, b⟩
  exact ⟨none, 0, 0, rfl, .inl ⟨rfl, rfl⟩, b⟩
 | hd0 => obtain ⟨t, hm, rb, pb, c1, _⟩ := h; obtain ⟨bs, rfl, _⟩ := c1; exact more _ _ _ _ rfl hm
 | rc => obtain ⟨t, hm, v1, c1, _⟩ := h; obtain ⟨bs, rfl, _⟩ := c1; exact more _ _ _ _ rfl hm
 | st => obtain ⟨t, hm, c1⟩ := h; obtain ⟨bs, rfl, _⟩ := c1; exact more _ _ _ _ rfl hm
 | rd sz typ p n hv => obtain ⟨t, hvv, fv, hm, ⟨cb, ab, kb, nb, hb, fb, rfl, _⟩, _⟩ := h; exact more _ _ _ _ rfl hm
 | zr p k =>
  obtain ⟨hb, p1, p2, p3, p4⟩ := hp
  obtain ⟨f0, ⟨b, off, cap, n, t, hm, hn, hl0, hc, hcm, ⟨cb, ab, nb, bb, tb, rfl, _⟩, ob, hcell⟩, _⟩ := h
  refine (cNext_more q 6 p n 0 0 (some ⟨b, off, none⟩) n n _ _ _ w hm).mono ?_
  rintro e2 w' ⟨rfl, b2⟩
  have hkl : (List.replicate k.toNat (0 : Int)).length = k.toNat := List.length_replicate
  rw [hkl] at hn hc
  have hn' : (n : Int) = min k 8 := by omega
  refine ⟨some ⟨b, off, none⟩, n, n, ?_, ?_, b2⟩
  ·simp only [AA.V, GetM.want, GetM.live]
   rw [← hn']
   rfl
  ·have e0 : (GetM.mk c (.zr p k) hd first dn out odd e).want.b = List.replicate n 0 := by
    show List.replicate (min k 8).toNat (0 : Int) = _
    rw [← hn', Int.toNat_natCast]
   rw [e0]
   refine .inr <| .inr ⟨b, off, n, by rw [List.length_replicate], by rw [List.length_replicate]; exact Nat.le_refl _, by omega, fun i hi => ?_⟩
   rw [List.length_replicate] at hi
   have hci := hcell i (by rw [hkl]; omega)
   rw [b2.cell (p := ⟨b, off + i, none⟩) (World.block_lt_of_cell? w _ hci), hci]
   simp [gB, hi, show i < k.toNat by omega]
set_option maxHeartbeats 1000000 in
theorem gNext_of {W : AA} {L : Bool} (w : World) (hlt : q < w.heap.size)
  (hc : ∀ w1, Below w.heap.size w w1 → Calls Tryz.prog 113 #[.pointer (some ⟨q, 0, none⟩)] w1 fun e w' => ∃ s0 sl sc, e = .returned (.tuple #[W.V (.slice s0 sl sc), .bool L]) ∧ RdB w' (.slice s0 sl sc) W.b ∧ Below w1.heap.size w1 w') :
  Calls Tryz.prog 212 #[.pointer (some ⟨q, 0, none⟩)] w fun e w' => ∃ s0 sl sc, e = .returned (.tuple #[W.V (.slice s0 sl sc), .bool L]) ∧ RdB w' (.slice s0 sl sc) W.b ∧ Below w.heap.size w w' := by
 have HC := Lib.hid hc
 clear hc
 go_enter Tryz.func212, Tryz.ntmps212
 go_wp2_with fail
 refine (HC.out (w.alloc (.cells #[.int .i64 0, .int .i64 0, .int .i64 0, .int .u64 0, .int .u64 0, .slice none 0 0] 72)) ((Below.refl w.heap.size w).alloc (Nat.le_refl _) _)).mono ?_
 rintro e w1 ⟨s0, sl, sc, rfl, hr, b1⟩
 unfold AA.V
 dsimp only
 have z1 := b1.size
 simp at z1
 have A1 := Lib.hid (Blk.below (Blk.made w #[.int .i64 0, .int .i64 0, .int .i64 0, .int .u64 0, .int .u64 0, .slice none 0 0] 72) b1 (by simp))
 have B1 : Below w.heap.size w w1 := ((Below.refl w.heap.size w).alloc (Nat.le_refl _) _).trans (b1.mono (by simp))
 have y1 : w.heap.size < w1.heap.size := by omega
 have HR := Lib.hid hr
 clear b1 hr
 have a0 := A1.out.cell 0
 have a1 := A1.out.cell 1
 have a2 := A1.out.cell 2
 have a3 := A1.out.cell 3
 have a4 := A1.out.cell 4
 have a5 := A1.out.cell 5
 have e0 := A1.out.frozen 0
 have e1 := A1.out.frozen 1
 have e2 := A1.out.frozen 2
 have e3 := A1.out.frozen 3
 have e4 := A1.out.frozen 4
 have e5 := A1.out.frozen 5
 simp only [List.getElem?_toArray, List.getElem?_cons_zero, List.getElem?_cons_succ] at a0 a1 a2 a3 a4 a5
 go_wp2
 refine bodyPost_ret (v := .tuple #[W.V (.slice s0 sl sc), .bool L]) (res_aa (c := W) rfl rfl rfl (((((((A1.out.set 0 _).set 1 _).set 2 _).set 3 _).set 4 _).set 5 _))) rfl ⟨s0, sl, sc, rfl, ?_, ?_⟩
 ·refine HR.out.keep (K := (· = w.heap.size)) ?_ (fun h => HR.out.apart h A1.out rfl)
  repeat' (refine Keep.setCell (M := (· = w.heap.size)) ?_ (Or.inl (by simp)) _)
  exact Keep.refl _ _
 ·repeat' (refine Below.setCell ?_ (by simp; try omega) _)
  exact B1
set_option maxHeartbeats 2000000 in
theorem gTake_of (v : Int) (d : Bool) (s0 : Option Addr) (sl sc : Nat) (Q : World → Prop) (w : World) (hlt : q < w.heap.size)
  (hc : ∀ w1, Below w.heap.size w w1 → Calls Tryz.prog 192 #[.pointer (some ⟨q, 0, none⟩), .agg #[.int .u64 v, .bool d, .slice s0 sl sc]] w1 fun e w' => e = .returned (.tuple #[]) ∧ Q w' ∧ Keep (fun k => k < w.heap.size) w1 w') :
  Calls Tryz.prog 213 #[.pointer (some ⟨q, 0, none⟩), .agg #[.int .u64 v, .bool d, .slice s0 sl sc]] w fun e w' => e = .returned (.tuple #[]) ∧ Q w' := by
 have HC := Lib.hid hc
 clear hc
 go_enter Tryz.func213, Tryz.ntmps213
 go_wp2_with fail
 go_region_held3 (fun w' => w'.cell? ⟨w.heap.size, 0, none⟩ = some (.int .u64 v) ∧ w'.cell? ⟨w.heap.size, 1, none⟩ = some (.bool d) ∧ w'.cell? ⟨w.heap.size, 2, none⟩ = some (.slice s0 sl sc)) (first | go_keep | trivial)
  (first
   | (go_at_call 192; refine (HC.out _ (by go_grown)).mono ?_; rintro e w2 ⟨rfl, hQ, hk⟩; have hc := fun o => hk.cell (b := w.heap.size) o (by simp) (by simp)))
 all_goals
  clear hc
  go_wp2
  go_end0
  exact ⟨rfl, hQ⟩
theorem gNext_any (w : World) (h : GetI w O R q m ov) (hf : m.fine) :
  Calls Tryz.prog 212 #[.pointer (some ⟨q, 0, none⟩)] w fun e w' => ∃ s0 sl sc, e = .returned (.tuple #[m.want.V (.slice s0 sl sc), .bool m.live]) ∧ RdB w' (.slice s0 sl sc) m.want.b ∧ Below w.heap.size w w' :=
 gNext_of w h.lt (fun w1 b1 => gcNext_any w1 (h.below b1).at_ hf)
theorem gTake_any (x : AN) (s0 : Option Addr) (sl sc : Nat) (w : World) (h : GetI w O R q m ov) (hf : m.fine) (hl : m.live = true) (hx : inU x.v) (hxb : x.b.length ≤ 1000) (hr : RdB w (.slice s0 sl sc) x.b) :
  Calls Tryz.prog 213 #[.pointer (some ⟨q, 0, none⟩), .agg #[.int .u64 x.v, .bool x.d, .slice s0 sl sc]] w fun e w' => e = .returned (.tuple #[]) ∧ GetTo w O R q (m.step x) w' := by
 refine gTake_of x.v x.d s0 sl sc (fun w' => GetTo w O R q (m.step x) w') w h.lt (fun w1 b1 => ?_)
 refine (gcTake_any x s0 sl sc w1 (h.below b1) hf hl hx hxb (hr.below b1)).mono ?_
 rintro e w2 ⟨rfl, hto⟩
 have hlt := h.lt
 obtain ⟨_, _, _, _, _, kk⟩ := id hto
 refine ⟨rfl, hto.from (Below.keeps b1) (fun i hi => .inl hi) (fun i hi => .inl hi), kk.mono (fun i _ hh => ?_)⟩
 rcases hh with hh | hh
 ·show i < w.heap.size
  omega
 ·exact h.lo i (.inr hh)
theorem pboxH3 (w : World) (x0 x1 x2 : Array Value) (t0 t1 t2 : TypeId) : ∃ w3, w3 = ((w.alloc (.cells x0 t0)).alloc (.cells x1 t1)).alloc (.cells x2 t2) ∧ Blk w3 w.heap.size x0.toList ∧ Blk w3 (w.heap.size + 1) x1.toList ∧ Blk w3 (w.heap.size + 1 + 1) x2.toList ∧ w3.heap.size = w.heap.size + 1 + 1 + 1 ∧ Below w.heap.size w w3 := by
 refine ⟨_, rfl, ?_, ?_, ?_, by simp, by go_grown⟩
 ·exact ((Blk.made w x0 t0).alloc _).alloc _
 ·have := (Blk.made (w.alloc (.cells x0 t0)) x1 t1).alloc (.cells x2 t2)
  simpa using this
 ·have := Blk.made ((w.alloc (.cells x0 t0)).alloc (.cells x1 t1)) x2 t2
  simpa using this
set_option maxHeartbeats 4000000 in
theorem gNew_any (b s most : Int) (w : World) (hb0 : -9223372036854775808 ≤ b) (hb1 : b ≤ 9223372036854775807) (hs0 : -9223372036854775808 ≤ s) (hs1 : s ≤ 9223372036854775807) :
  Calls Tryz.prog 31 #[.agg #[.int .i64 b, .int .i64 s], .int .i64 most] w fun e w' => ∃ q, e = .returned (.pointer (some ⟨q, 0, none⟩)) ∧ w.heap.size ≤ q ∧ q < w'.heap.size ∧ (∃ O R ov, GetI w' O R q (GetC.init ⟨b, s, most⟩) ov ∧ ∀ i, O i ∨ R i → w.heap.size ≤ i) ∧ (GetC.init ⟨b, s, most⟩).fine ∧ Below w.heap.size w w' := by
 go_enter Tryz.func31, Tryz.ntmps31
 go_upto_region 2 with fail
 obtain ⟨w3, hw3, x0, x1, x2, hs3, bb3⟩ := pboxH3 w #[.int .i64 b, .int .i64 s] #[.int .i64 0, .int .i64 0, .int .i64 0, .int .u64 0, .int .u64 0, .slice none 0 0, .nilFunc, .int .i64 b, .int .i64 s, .int .i64 most, .int .u64 0, .int .i64 0, .int .i64 0, .slice none 0 0, .bool false, .int .i64 10] #[.pointer (some ⟨w.heap.size + 1, 0, none⟩)] 25 168 95
 rw [← hw3]
 have B3 := Lib.hid bb3
 have X0 := Lib.hid x0
 have X1 := Lib.hid x1
 have X2 := Lib.hid x2
 have c0 := x0.cell 0
 have c1 := x0.cell 1
 have c2 := x2.cell 0
 simp only [List.getElem?_cons_zero, List.getElem?_cons_succ] at c0 c1 c2
 have l0 : w.heap.size < w3.heap.size := by omega
 have l1 : w.heap.size + 1 < w3.heap.size := by omega
 have l2 : w.heap.size + 1 + 1 < w3.heap.size := by omega
 clear hw3 x0 x1 x2 bb3
 go_wp2_with fail
 refine (rCheck_any b s _ hb0 hb1 hs0 hs1).mono ?_
 rintro e w4 ⟨rfl, b4⟩
 have z4 := b4.size
 have B4 := Lib.hid (B3.out.trans (b4.mono (by omega)))
 have Y0 := Lib.hid (X0.out.below b4 l0)
 have Y1 := Lib.hid (X1.out.below b4 l1)
 have Y2 := Lib.hid (X2.out.below b4 l2)
 have c0 := Y0.out.cell 0
 have c1 := Y0.out.cell 1
 have c2 := Y2.out.cell 0
 have f15 := Y1.out.frozen 15
 have c15 := Y1.out.cell 15
 simp only [List.getElem?_cons_zero, List.getElem?_cons_succ] at c0 c1 c2 c15
 have l0 : w.heap.size < w4.heap.size := by omega
 have l1 : w.heap.size + 1 < w4.heap.size := by omega
 have l2 : w.heap.size + 1 + 1 < w4.heap.size := by omega
 clear b4 X0 X1 X2 B3
 have bad : (GetC.mk b s most).ok = false → (∃ O R ov, GetI (w4.setCell ⟨w.heap.size + 1, 15, none⟩ (.int .i64 1)) O R (w.heap.size + 1) (GetC.init ⟨b, s, most⟩) ov ∧ ∀ i, O i ∨ R i → w.heap.size ≤ i) ∧ (GetC.init ⟨b, s, most⟩).fine ∧ Below w.heap.size w (w4.setCell ⟨w.heap.size + 1, 15, none⟩ (.int .i64 1)) := by
  intro hk
  have hi : GetC.init ⟨b, s, most⟩ = ⟨⟨b, s, most⟩, .done, 0, 0, 0, [], false, 1⟩ := by unfold GetC.init; rw [hk]; rfl
  rw [hi]
  refine ⟨⟨fun _ => False, fun _ => False, .slice none 0 0, ⟨⟨.nilFunc, Y1.out.set 15 (.int .i64 1), rfl⟩, ⟨⟨[], rfl, ⟨rfl, .inl ⟨rfl, rfl⟩⟩, fun e he => by cases he⟩, fun i hi => by cases hi⟩, id, id, fun _ _ => id, fun i hi => hi.elim False.elim False.elim⟩, fun i hi => hi.elim False.elim False.elim⟩, ⟨nofun, trivial, by simp, fun x hx => by cases hx⟩, B4.out.setCell (by simp) _⟩
 have BAD := Lib.hid bad
 clear bad
 by_cases hg : rgOk b s = true
 ·have hE : rgE b s = 0 := if_pos hg
  have HG := Lib.hid hg
  obtain ⟨g1, g2, g3, g4, g5, g6⟩ := rgOk_bd hg
  have W1 : IntKind.i64.wrap (b + s) = b + s := IntWalk.i64_in _ ⟨by omega, by omega⟩
  have W2 : IntKind.i64.wrap (b + s + 16) = b + s + 16 := IntWalk.i64_in _ ⟨by omega, by omega⟩
  rw [hE]
  clear hg g1
  by_cases hm : most < 1
  ·have hk : (GetC.mk b s most).ok = false := by
    unfold GetC.ok
    rw [HG.out]
    simp
    omega
   have HK := Lib.hid hk
   clear hk
   go_wp2
   go_ret
   exact ⟨_, rfl, by omega, by simp; omega, BAD.out HK.out⟩
  ·have hk : (GetC.mk b s most).ok = true := by
    unfold GetC.ok
    rw [HG.out]
    simp
    omega
   have HK := Lib.hid hk
   clear hk
   have hm' : 1 ≤ most := by omega
   have M4 := Lib.hid (show Mch w4 (w.heap.size + 1) accZ .nilFunc (GetM.rest ⟨⟨b, s, most⟩, .hd0, 0, 0, 0, [], false, 10⟩ (.slice none 0 0)) from Y1.out)
   go_upto_region 5 with fail
   go_region_held3 (fun w' => w'.cell? ⟨w.heap.size + 1 + 1, 0, none⟩ = some (.pointer (some ⟨w.heap.size + 1, 0, none⟩)) ∧ w'.cell? ⟨w.heap.size, 0, none⟩ = some (.int .i64 b) ∧ w'.cell? ⟨w.heap.size, 1, none⟩ = some (.int .i64 s)) (first | go_keep | trivial)
    (first
     | (go_at_call 36; refine (cLoad_any (w.heap.size + 1) _ _ _ (b + s + 16) 8 _ _ _ (Blk.drew M4.out)).mono ?_; rintro e w6 ⟨rfl, t6, m6, l6, k6⟩; have hd0 := fun o => k6.cell (b := w.heap.size + 1 + 1) o (by simp; omega) (by show ¬ w.heap.size + 1 + 1 = w.heap.size + 1; omega); have hd1 := fun o => k6.cell (b := w.heap.size) o (by simp; omega) (by show ¬ w.heap.size = w.heap.size + 1; omega)))
   all_goals
    have e2 := (hd0 0).trans c2
    have z6 := k6.size
    simp at z6
    have y2 : w.heap.size + 1 + 1 < w6.heap.size := by omega
    clear hd0 hd1
    go_wp2
    go_ret
    have hi : GetC.init ⟨b, s, most⟩ = ⟨⟨b, s, most⟩, .hd0, 0, 0, 0, [], false, 10⟩ := by unfold GetC.init; rw [HK.out]; rfl
    rw [hi]
    refine ⟨_, rfl, by omega, by omega, ⟨fun i => w.heap.size ≤ i ∧ i < w6.heap.size ∧ i ≠ w.heap.size + 1, fun _ => False, .slice none 0 0, ⟨⟨t6, m6, w.heap.size, w.heap.size + 1 + 1, l6.mono (fun i hi => ?_), ?_, ?_, ?_, ?_⟩, ⟨⟨[], rfl, ⟨rfl, .inl ⟨rfl, rfl⟩⟩, fun e he => by cases he⟩, fun i hi => by cases hi⟩, fun h => h.2.2 rfl, id, fun _ _ => id, fun i hi => hi.elim (fun h => h.2.1) False.elim⟩, fun i hi => hi.elim (fun h => h.1) False.elim⟩, ⟨fun _ => HK.out, ⟨rfl, rfl⟩, by simp, fun x hx => by cases hx⟩, (bel_drewN 1 B4.out).trans (k6.below (B := w.heap.size) (by simp; omega) (fun k h1 h2 => by have h2 : k = w.heap.size + 1 := h2; omega))⟩
    ·have h1 := hi.1
     simp at h1
     exact ⟨by omega, hi.2, by omega⟩
    ·exact (Blk.drew Y0.out).keep k6 (by show ¬ w.heap.size = w.heap.size + 1; omega)
    ·exact (Blk.drew Y2.out).keep k6 (by show ¬ w.heap.size + 1 + 1 = w.heap.size + 1; omega)
    ·exact ⟨by omega, by omega, by omega⟩
    ·exact ⟨by omega, by omega, by omega⟩
 ·have hE : rgE b s = 1 := if_neg hg
  have hk : (GetC.mk b s most).ok = false := by
   have hg' : rgOk b s = false := by simpa using hg
   unfold GetC.ok
   rw [hg']
   rfl
  have HK := Lib.hid hk
  rw [hE]
  clear hg hk
  go_wp2
  go_ret
  exact ⟨_, rfl, by omega, by simp; omega, BAD.out HK.out⟩
def GetF (w : World) (F : Nat → Prop) (q : Nat) (m : GetM) : Prop := F q ∧ (∀ i, F i → i < w.heap.size) ∧ m.fine ∧ ∃ O R ov, (∀ i, O i ∨ R i → F i) ∧ GetI w O R q m ov
theorem GetF.mono {w : World} {F F' : Nat → Prop} (h : GetF w F q m) (h1 : ∀ i, F i → F' i) (h2 : ∀ i, F' i → i < w.heap.size) : GetF w F' q m := by
 obtain ⟨a1, a2, a3, O, R, ov, hO, hI⟩ := h
 exact ⟨h1 q a1, h2, a3, O, R, ov, fun i hi => h1 i (hO i hi), hI⟩
theorem GetF.keep {w w' : World} {F K : Nat → Prop} (h : GetF w F q m) (k : Keep K w w') (hd : ∀ i, F i → ¬ K i) : GetF w' F q m := by
 obtain ⟨a1, a2, a3, O, R, ov, hO, hI⟩ := h
 exact ⟨a1, fun i hi => Nat.lt_of_lt_of_le (a2 i hi) k.size, a3, O, R, ov, hO, hI.keep k (fun i hi => hd i (hO i (.inl hi))) (fun i hi => hd i (hO i (.inr hi))) (hd q a1)⟩
theorem GetF.below {w w' : World} {F : Nat → Prop} (h : GetF w F q m) (b : Below w.heap.size w w') : GetF w' F q m := h.keep (K := fun _ => False) (Below.keeps b) (fun _ _ => id)
theorem gNew_f (b s most : Int) (w : World) (hb0 : -9223372036854775808 ≤ b) (hb1 : b ≤ 9223372036854775807) (hs0 : -9223372036854775808 ≤ s) (hs1 : s ≤ 9223372036854775807) :
  Calls Tryz.prog 31 #[.agg #[.int .i64 b, .int .i64 s], .int .i64 most] w fun e w' => ∃ q, e = .returned (.pointer (some ⟨q, 0, none⟩)) ∧ w.heap.size ≤ q ∧ GetF w' (fun k => w.heap.size ≤ k ∧ k < w'.heap.size) q (GetC.init ⟨b, s, most⟩) ∧ Below w.heap.size w w' := by
 refine (gNew_any b s most w hb0 hb1 hs0 hs1).mono ?_
 rintro e w' ⟨q, rfl, h1, h2, ⟨O, R, ov, h3, h4⟩, h5, h6⟩
 exact ⟨q, rfl, h1, ⟨⟨h1, h2⟩, fun i hi => hi.2, h5, O, R, ov, fun i hi => ⟨h4 i hi, h3.lo i hi⟩, h3⟩, h6⟩
theorem gTake_f {F : Nat → Prop} (x : AN) (s0 : Option Addr) (sl sc : Nat) (w : World) (h : GetF w F q m) (hl : m.live = true) (hx : inU x.v) (hxb : x.b.length ≤ 1000) (hr : RdB w (.slice s0 sl sc) x.b) :
  Calls Tryz.prog 213 #[.pointer (some ⟨q, 0, none⟩), .agg #[.int .u64 x.v, .bool x.d, .slice s0 sl sc]] w fun e w' => e = .returned (.tuple #[]) ∧ ∃ F', GetF w' F' q (m.step x) ∧ (∀ i, F' i → F i ∨ w.heap.size ≤ i) ∧ Keep F w w' := by
 obtain ⟨a1, a2, a3, O, R, ov, hO, hI⟩ := h
 refine (gTake_any x s0 sl sc w hI a3 hl hx hxb hr).mono ?_
 rintro e w' ⟨rfl, O', R', ov', hI', hs, k⟩
 have z := k.size
 have hq := a2 q a1
 refine ⟨rfl, fun i => F i ∨ (w.heap.size ≤ i ∧ i < w'.heap.size), ⟨.inl a1, fun i hi => ?_, a3.step hl hx hxb, O', R', ov', fun i hi => ?_, hI'⟩, fun i hi => hi.imp id (fun h => h.1), k.mono (fun i _ e => ?_)⟩
 ·rcases hi with hi | hi
  ·have := a2 i hi
   omega
  ·exact hi.2
 ·rcases hs i hi with h1 | h1 | h1
  ·exact .inl (hO i (.inl h1))
  ·exact .inl (hO i (.inr h1))
  ·exact .inr ⟨h1, hI'.lo i hi⟩
 ·rcases e with e | e
  ·exact e ▸ a1
  ·exact hO i (.inr e)
theorem GetM.want_small (h : m.want.k = 5) : m.want.n ≤ 8 := by
 obtain ⟨c, pc, hd, first, dn, out, odd, e⟩ := m
 cases pc with
 | rd sz typ p n hv => show min n 8 ≤ 8; omega
 | _ => revert h; simp [GetM.want, aaZ]
theorem gM_next (b : Nat) (w : World) : (method (Tryz.prog.types.size + Made.depth) 95 (.pointer (some ⟨b, 0, none⟩)) "Next").run Tryz.prog w = .ok (212, .pointer (some ⟨b, 0, none⟩)) w := by kernel_rfl
theorem gM_take (b : Nat) (w : World) : (method (Tryz.prog.types.size + Made.depth) 95 (.pointer (some ⟨b, 0, none⟩)) "Take").run Tryz.prog w = .ok (213, .pointer (some ⟨b, 0, none⟩)) w := by kernel_rfl
theorem engN (args : Array Value) (w : World) : (callFunc 212 args).run Tryz.prog w = .ok (.enter 212 args) w :=
 enters_of Tryz.func212 (by kernel_rfl) rfl args w
theorem engT (args : Array Value) (w : World) : (callFunc 213 args).run Tryz.prog w = .ok (.enter 213 args) w :=
 enters_of Tryz.func213 (by kernel_rfl) rfl args w
def getMac : Mac := ⟨GetM, GetM.live, GetM.want, GetM.step⟩
def getMacQ : Mac := ⟨Nat × GetM, fun s => s.2.live, fun s => s.2.want, fun s x => (s.1, s.2.step x)⟩
def getFam : Fam where
 M := getMacQ
 inv := fun w F q s => q = s.1 ∧ GetF w F q s.2
 ty := fun _ => 95
 fn := fun _ => 212
 ft := fun _ => 213
 mn := fun _ b w => gM_next b w
 mt := fun _ b w => gM_take b w
 en := fun _ args w => engN args w
 et := fun _ args w => engT args w
 ts := fun _ _ => rfl
 dom := fun h => ⟨h.2.1, h.2.2.1⟩
 mono := fun h h1 h2 => ⟨h.1, h.2.mono h1 h2⟩
 keep := fun h k hd => ⟨h.1, h.2.keep k hd⟩
 wf := fun {w F q s} h => h.2.2.2.1.wf
 next := fun {w F q s} h => by
  obtain ⟨_, _, _, hf, O, R, ov, hO, hI⟩ := h
  exact gNext_any w hI hf
 take := fun {w F q s x s0 sl sc} h hl hx hr => by
  have hxb : x.b.length ≤ 1000 := by
   by_cases hk : (getMacQ.want s).k = 5
   ·have h1 := hx.rd hk
    have h2 : (getMacQ.want s).n ≤ 8 := GetM.want_small hk
    omega
   ·rw [hx.no hk]
    simp
  refine (gTake_f x s0 sl sc w h.2 hl ⟨hx.v0, hx.v1⟩ hxb hr).mono ?_
  rintro e w' ⟨rfl, F', h1, h2, h3⟩
  exact ⟨rfl, F', ⟨h.1, h1⟩, h2, h3⟩
theorem list_appN {w : World} {ops : Array Oper} {rest : List Oper} {o : Oper} {a : Act} {Q : Exit → Act → World → Prop} (hgd : o.guard = none) (s x : Operand) (T E : TypeId)
  (ho : o.op = .call { callee := .builtin .append, args := #[s, x], argTypes := #[T, T] }) {i : TypeInfo} {z : Value} {size bytes : Nat} (ht : Tryz.prog.underlying T = some (.slice E)) (hi : Tryz.prog.info? E = some i) (hz : i.zero = some z) (hsize : i.size = size) (hby : i.bytes = bytes) (hzs : z.cells.size = size) (hsz : 0 < size)
  (v : Value) (n : Nat) (xs : List Value) (hs : a.eval s = v) (hown : w.ownsRow 0 E size v n xs) (g m cap : Nat) (news : List Value) (hx : a.eval x = .slice (some ⟨g, 0, none⟩) m cap) (hnews : ∀ j u, news[j]? = some u → w.cell? ⟨g, j, none⟩ = some u) (hl : news.length = m * size) (h1 : ∀ u ∈ news, u.oneCell' = true) (hn : (n + m) * bytes ≤ 140737488355328) (hm : n + m ≤ maxLen)
  (h : ∀ v' w', w'.ownsRow 0 E size v' (n + m) (xs ++ news) → w.grownBy w' v.ownBlock → (v'.ownBlock = v.ownBlock ∨ v'.ownBlock = some w.heap.size) → wpList Tryz.prog ops Q rest (a.put o.dst v') w') : wpList Tryz.prog ops Q (o :: rest) a w :=
 wpList_plain hgd fun _ hK => by
  have hnews' : ∀ j u, news[j]? = some u → w.cell? ((⟨g, 0, none⟩ : Addr).add j) = some u := by
   intro j u hu
   have e : (⟨g, 0, none⟩ : Addr).add j = ⟨g, 0 + j, none⟩ := by unfold Addr.add; split <;> simp_all
   rw [e, Nat.zero_add]
   exact hnews j u hu
  obtain ⟨v', w', hr, h2, h3, _, h5⟩ := run_append_own_at (P := Tryz.prog) w 0 T o.type E i z size bytes ht hi hz hsize hby hzs hsz v n xs hown ⟨g, 0, none⟩ m cap news hl hnews' h1 hm hn (Nat.zero_le _)
  unfold Oper.wp execOp
  simp only [ho, resolve, invoke, builtin, Sem.run_bind, Sem.run_pure, Result.andThen_ok, List.map_toArray, List.map_cons, List.map_nil, hs, hx, hr]
  exact hK _ _ (h v' w' h2 h3 h5)
theorem qSlM (w : World) (a : Option Addr) (n c n' c' : Nat) : (binOp .eql 22 (.slice a n c) (.slice none n' c')).run Tryz.prog w = .ok (.bool a.isNone) w := Lib.run_eql_slice_nil w _ _ a n c n' c' Tryz.underlying22
theorem ones_ms : ∀ (es : List ((Int × List Int) × Value)) (w : World), (∀ e ∈ es, RdB w e.2 e.1.2) → ∀ u ∈ es.flatMap msL, u.oneCell' = true := by
 intro es w h u hu
 obtain ⟨e, he, hu⟩ := List.mem_flatMap.1 hu
 obtain ⟨a, n, c, h1⟩ := (h e he).isSl
 unfold msL at hu
 rw [h1] at hu
 simp at hu
 rcases hu with rfl | rfl <;> rfl
theorem msL_len (e : (Int × List Int) × Value) : (msL e).length = 2 := rfl
theorem msL_flat (es : List ((Int × List Int) × Value)) : (es.flatMap msL).length = es.length * 2 := by
 induction es with
 | nil => rfl
 | cons x r ih => rw [List.flatMap_cons, List.length_append, ih, msL_len, List.length_cons]; omega
theorem ms_at : ∀ (es : List ((Int × List Int) × Value)) (k : Nat) (e : (Int × List Int) × Value), es[k]? = some e → (es.flatMap msL)[k * 2]? = some (.int .i32 e.1.1) ∧ (es.flatMap msL)[k * 2 + 1]? = some e.2
 | [], k, e, h => by simp at h
 | x :: r, 0, e, h => by
  simp at h
  subst h
  exact ⟨rfl, rfl⟩
 | x :: r, k + 1, e, h => by
  obtain ⟨h1, h2⟩ := ms_at r k e (by simpa using h)
  rw [List.flatMap_cons, List.getElem?_append_right (by rw [msL_len]; omega), List.getElem?_append_right (by rw [msL_len]; omega), msL_len, show (k + 1) * 2 - 2 = k * 2 by omega, show (k + 1) * 2 + 1 - 2 = k * 2 + 1 by omega]
  exact ⟨h1, h2⟩
theorem ms_set : ∀ (es : List ((Int × List Int) × Value)) (k : Nat) (e : (Int × List Int) × Value) (v : Value), es[k]? = some e → (es.flatMap msL).set (k * 2 + 1) v = (es.set k (e.1, v)).flatMap msL
 | [], k, e, _, h => by simp at h
 | x :: r, 0, e, v, h => by
  simp at h
  subst h
  rfl
 | x :: r, k + 1, e, v, h => by
  have ih := ms_set r k e v (by simpa using h)
  rw [List.flatMap_cons, List.set_append_right _ _ (by rw [msL_len]; omega), msL_len, show (k + 1) * 2 + 1 - 2 = k * 2 + 1 by omega, ih, List.set_cons_succ, List.flatMap_cons]
set_option maxHeartbeats 1000000 in
theorem msClone_any {out : List (Int × List Int)} (w : World) (h : MsIn w O R ov out) (hl : out.length ≤ 100000) :
  Calls Tryz.prog 70 #[ov] w fun e w' => ∃ v, e = .returned v ∧ MsIn w' O (fun i => w.heap.size ≤ i) v out ∧ Below w.heap.size w w' := by
 have q := qSlM
 obtain ⟨i0, hi, hz0, hz1, hz2⟩ := info_parts msinfo
 obtain ⟨⟨es, he, ho, hes⟩, hr⟩ := h
 have hel : es.length ≤ 100000 := by rw [← he, List.length_map] at hl; exact hl
 have HE := Lib.hid he
 have HES := Lib.hid hes
 have HO := Lib.hid ho
 rcases ho.2 with ⟨rfl, h0⟩ | ⟨g, cap, cur, rfl, _⟩
 ·clear he hes ho
  have h1 : es = [] := List.eq_nil_of_length_eq_zero h0
  go_enter Tryz.func70, Tryz.ntmps70
  go_wp2
  go_ret
  exact ⟨_, rfl, ⟨⟨es, HE.out, by rw [h1]; exact World.ownsRow_nil _ _ _ _, HES.out⟩, fun i hi => by cases hi⟩, Below.refl _ _⟩
 ·clear he hes ho
  go_enter Tryz.func70, Tryz.ntmps70
  have b1 : Below w.heap.size w (w.alloc (.cells #[] 34)) := (Below.refl _ _).alloc (Nat.le_refl _) _
  have o1 : (w.alloc (.cells #[] 34)).ownsRow 0 34 2 (.slice (some ⟨w.heap.size, 0, none⟩) 0 0) 0 [] := ⟨by simp, .inr ⟨w.heap.size, 0, #[], rfl, Nat.zero_le _, (MapKept.heap_alloc w _).1, Nat.le_refl _, by unfold maxLen; omega, by simp, by simp⟩⟩
  have o2 := ownsRow_keep HO.out (Below.keeps (M := fun _ => False) b1) (fun _ _ => id)
  have HN := Lib.hid (show ∀ j u, (es.flatMap msL)[j]? = some u → (w.alloc (.cells #[] 34)).cell? ⟨g, j, none⟩ = some u from by
   intro j u hu
   have hj : j < es.length * 2 := by have := (List.getElem?_eq_some_iff.1 hu).1; rwa [msL_flat] at this
   rw [World.ownsRow.cellAt o2 j hj]
   exact hu)
  have O1 := Lib.hid o1
  have O2 := Lib.hid o2
  have B1 := Lib.hid b1
  clear o1 o2 b1
  go_wp2_with (refine list_appN rfl (.tmp 5) (.tmp 6) 22 34 rfl Tryz.underlying22 hi hz0 hz1 hz2 rfl (by decide) (.slice (some ⟨w.heap.size, 0, none⟩) 0 0) 0 [] rfl O1.out g es.length cap (es.flatMap msL) rfl HN.out (msL_flat es) (ones_ms es w fun e he => (HES.out e he).1) (by omega) (by unfold maxLen; omega) ?_)
  intro v' w' o3 g3 e3
  have K3 := grown_keep g3
  have kk : Keep (fun i => (Value.slice (some ⟨w.heap.size, 0, none⟩) 0 0).ownBlock = some i) w w' := (Below.keeps B1.out).trans K3
  have bb : Below w.heap.size w w' := (Below.refl w.heap.size w).trans (kk.below (B := w.heap.size) (Nat.le_refl _) (fun i hi h => by have h2 : w.heap.size = i := Option.some.inj h; omega))
  go_wp2
  go_ret
  refine ⟨v', rfl, ⟨⟨es, HE.out, by simpa using o3, fun e he => ⟨(HES.out e he).1.keepP (Below.keeps (M := fun _ => False) bb) (fun _ _ => id), (HES.out e he).2⟩⟩, fun i hi => ?_⟩, bb⟩
  show w.heap.size ≤ i
  rcases e3 with e | e
  ·rw [e] at hi
   cases hi
   exact Nat.le_refl _
  ·rw [e] at hi
   cases hi
   simp
set_option maxHeartbeats 2000000 in
theorem gMessages_at (w : World) (h : GetI w O R q m ov) (hl : m.out.length ≤ 100000) (hb : ∀ x ∈ m.out, x.2.length ≤ 70368744177664) :
  Calls Tryz.prog 33 #[.pointer (some ⟨q, 0, none⟩)] w fun e w' => ∃ v, e = .returned v ∧ MsIn w' (fun i => w.heap.size ≤ i ∧ i < w'.heap.size) (fun i => w.heap.size ≤ i) v m.out ∧ Below w.heap.size w w' := by
 have MS := Lib.hid h.ms
 have LO := Lib.hid h.lo
 have HB := Lib.hid hb
 obtain ⟨c, t, hm⟩ := h.at_.mch
 obtain ⟨_, _, _, _, _, _, c13, _, _⟩ := get_cells hm
 have hlt : q < w.heap.size := Blk.lt hm
 clear h hm hb
 go_enter Tryz.func33, Tryz.ntmps33
 go_wp2_with fail
 refine (msClone_any w MS.out hl).mono ?_
 rintro e w1 ⟨v, rfl, hM, b1⟩
 have z1 := b1.size
 obtain ⟨⟨es, he, ho, hes⟩, hr⟩ := hM
 obtain ⟨va, vl, vc, rfl⟩ := own_isSl ho
 have hvl : vl = es.length := by
  rcases ho.2 with ⟨h1, h2⟩ | ⟨g, cap, cur, h1, _⟩
  ·rw [h2]; injection h1
  ·injection h1
 subst hvl
 have hel : es.length ≤ 100000 := by rw [← he, List.length_map] at hl; exact hl
 have B1 := Lib.hid b1
 have HR := Lib.hid hr
 have INV := Lib.hid (show ∃ es' : List ((Int × List Int) × Value), es'.length = es.length ∧ es'.map (·.1) = m.out ∧ w1.ownsRow 0 34 2 (.slice va es.length vc) es.length (es'.flatMap msL) ∧ ∀ (j : Nat) (e : (Int × List Int) × Value), es'[j]? = some e → RdB w1 e.2 e.1.2 ∧ ∀ i, e.2.ownBlock = some i → (Value.slice va es.length vc).ownBlock ≠ some i ∧ (j < 0 → w.heap.size ≤ i ∧ i < w1.heap.size) from
  ⟨es, rfl, he, ho, fun j e hj => ⟨(hes e (List.mem_of_getElem? hj)).1, fun i hi => ⟨fun h2 => by
   have h3 := LO.out i (.inl ((hes e (List.mem_of_getElem? hj)).2 i hi))
   have h4 : w.heap.size ≤ i := hr i h2
   omega, fun h0 => absurd h0 (by omega)⟩⟩⟩)
 clear he ho hes hr b1 c13
 go_wp2_with fail
 go_loopw [14] (fun i wr => ∃ k : Nat, k ≤ es.length ∧ i = .int .i64 k ∧ (∃ es' : List ((Int × List Int) × Value), es'.length = es.length ∧ es'.map (·.1) = m.out ∧ wr.ownsRow 0 34 2 (.slice va es.length vc) es.length (es'.flatMap msL) ∧ ∀ (j : Nat) (e : (Int × List Int) × Value), es'[j]? = some e → RdB wr e.2 e.1.2 ∧ ∀ i, e.2.ownBlock = some i → (Value.slice va es.length vc).ownBlock ≠ some i ∧ (j < k → w.heap.size ≤ i ∧ i < wr.heap.size)) ∧ Below w.heap.size w wr) (fun i _ => es.length - (intOf i).toNat)
 case atStart => exact ⟨0, by omega, rfl, INV.out, B1.out⟩
 case round =>
  obtain ⟨k, hk, rfl, ⟨es', hlen, hmap, hown, hall⟩, hB⟩ := hrel
  by_cases hlt : k < es.length
  ·obtain ⟨e, hek⟩ : ∃ e, es'[k]? = some e := ⟨_, List.getElem?_eq_getElem (by omega)⟩
   obtain ⟨hrd, hno⟩ := hall k e hek
   obtain ⟨g, cap, hg⟩ : ∃ g cap, Value.slice va es.length vc = .slice (some ⟨g, 0, none⟩) es.length cap := by
    rcases hown.2 with ⟨_, h2⟩ | ⟨g, cap, cur, h1, _⟩
    ·omega
    ·exact ⟨g, cap, h1⟩
   have hva : va = some ⟨g, 0, none⟩ := by injection hg
   have hvc : vc = cap := by injection hg
   subst hva hvc
   have hgl : w.heap.size ≤ g := HR.out g rfl
   obtain ⟨m1, m2⟩ := ms_at es' k e hek
   have hem : e.1 ∈ m.out := by rw [← hmap]; exact List.mem_map.2 ⟨e, List.mem_of_getElem? hek, rfl⟩
   have hbl := HB.out e.1 hem
   obtain ⟨sa, sl, sc, hs⟩ := hrd.isSl
   obtain ⟨e1, e2⟩ := e
   dsimp only at hs hrd hno m1 m2 hem hbl
   subst hs
   have d1 : wr.cell? ⟨g, k * 2 + 1, none⟩ = some (.slice sa sl sc) := by rw [World.ownsRow.cellAt hown _ (by omega), m2]
   have hgw : g < wr.heap.size := World.block_lt_of_cell? _ _ d1
   have HRD := Lib.hid hrd
   have HOWN := Lib.hid hown
   have HALL := Lib.hid hall
   have HEK := Lib.hid hek
   have HMAP := Lib.hid hmap
   have HBw := Lib.hid hB
   have zB := hB.size
   clear hrd hown hall hek hmap hB hno m1 m2 hem hg
   go_wp2_with fail
   refine (clone_any _ _ _ HRD.out hbl).mono ?_
   rintro e w2 ⟨s2, rfl, o2, b2⟩
   obtain ⟨ta, tl, tc, hs2⟩ := own_isSl o2
   subst hs2
   have z2 := b2.size
   have OW := Lib.hid (ownsRow_keep HOWN.out (Below.keeps (M := fun _ => False) b2) (fun _ _ => id))
   have d2 : w2.cell? ⟨g, k * 2 + 1, none⟩ = some (.slice sa sl sc) := (b2.cell (p := ⟨g, k * 2 + 1, none⟩) hgw).trans d1
   have f2 := World.ownsRow.frozenAt OW.out (k * 2 + 1)
   have ST := Lib.hid (World.ownsRow.stored OW.out (k * 2 + 1) (.slice ta tl tc))
   have O2 := Lib.hid o2
   have B2 := Lib.hid b2
   clear o2 b2 d1
   go_wp2
   have kk : Keep (fun i => i = g) w2 (w2.setCell ⟨g, k * 2 + 1, none⟩ (.slice ta tl tc)) := Keep.setCell (M := fun i => i = g) (Keep.refl _ _) (p := ⟨g, k * 2 + 1, none⟩) (.inl rfl) _
   have K := (Below.keeps (M := fun i => i = g) B2.out).trans kk
   refine ⟨⟨k + 1, by omega, by go_num, ⟨es'.set k (e1, .slice ta tl tc), by simp [hlen], ?_, ?_, ?_⟩, ?_⟩, by simp [intOf]; omega⟩
   ·rw [List.map_set]
    have h1 : (es'.map (·.1))[k]? = some e1 := by rw [List.getElem?_map, HEK.out]; rfl
    rw [← HMAP.out]
    apply List.ext_getElem?
    intro j
    by_cases hj : k = j
    ·subst hj
     rw [List.getElem?_set_self (by simp; omega)]
     exact h1.symm
    ·rw [List.getElem?_set_ne hj]
   ·rw [← ms_set es' k (e1, .slice sa sl sc) (.slice ta tl tc) HEK.out]
    exact ST.out.1
   ·intro j e hj
    by_cases hjk : j = k
    ·subst hjk
     rw [List.getElem?_set_self (by omega)] at hj
     obtain rfl := Option.some.inj hj
     have hr2 : ∀ i, (Value.slice ta tl tc).ownBlock = some i → wr.heap.size ≤ i := fun i hi => (World.ownsRow.lt O2.out i hi).1
     refine ⟨O2.out.rd.keepP kk (fun i hi => ?_), fun i hi => ⟨fun h2 => ?_, fun _ => ?_⟩⟩
     ·have := hr2 i hi
      omega
     ·have := hr2 i hi
      have h3 : g = i := Option.some.inj h2
      omega
     ·have h8 := hr2 i hi
      have h9 := (World.ownsRow.lt O2.out i hi).2
      have h10 := kk.size
      omega
    ·rw [List.getElem?_set_ne (by omega)] at hj
     obtain ⟨a1, a2⟩ := HALL.out j e hj
     exact ⟨a1.keepP K (fun i hi h => (a2 i hi).1 (by rw [h]; rfl)), fun i hi => ⟨(a2 i hi).1, fun h => ⟨((a2 i hi).2 (by omega)).1, Nat.lt_of_lt_of_le ((a2 i hi).2 (by omega)).2 K.size⟩⟩⟩
   ·exact HBw.out.trans (K.below (B := w.heap.size) zB (fun i hi h => by omega))
  ·obtain rfl : k = es.length := by omega
   go_wp2
   go_ret
   refine ⟨_, rfl, ⟨⟨es', hmap, by rw [hlen]; exact hown, fun e he => ?_⟩, HR.out⟩, hB⟩
   obtain ⟨j, hj⟩ := List.getElem?_of_mem he
   have hjl : j < es.length := by have := (List.getElem?_eq_some_iff.1 hj).1; omega
   exact ⟨(hall j e hj).1, fun i hi => ((hall j e hj).2 i hi).2 hjl⟩
end Go.Proofs.YtggjhleomocojaaGreat
end
