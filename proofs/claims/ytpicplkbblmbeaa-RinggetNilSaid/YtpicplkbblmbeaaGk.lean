/- A get in memory: what its closures go on with. Conditions: as each says. -/
import Derived.Test.YtpicplkbblmbeaaGi
namespace Go.Proofs.Ytpicplkbblmbeaa
set_option maxRecDepth 100000
open Go.RowKit
set_option linter.unusedVariables false
set_option linter.unusedSimpArgs false
theorem step_app1 {w : World} {ops : Array Oper} {o : Oper} {a : Act} {K : Act → World → Prop} {Q : Exit → Act → World → Prop} {E0 : Prop} (hgd : o.guard = none) (s x : Operand) (T E : TypeId)
    (ho : o.op = .call { callee := .builtin .append, args := #[s, x], argTypes := #[T, T] }) {i : TypeInfo} {z : Value} {size bytes : Nat} (ht : Try.prog.underlying T = some (.slice E)) (hi : Try.prog.info? E = some i) (hz : i.zero = some z) (hsize : i.size = size) (hby : i.bytes = bytes) (hzs : z.cells.size = size) (hsz : 0 < size)
    (v : Value) (n : Nat) (xs : List Value) (hs : a.eval s = v) (hown : w.ownsRow 0 E size v n xs) (g : Nat) (news : List Value) (hx : a.eval x = .slice (some ⟨g, 0, none⟩) 1 1) (hb : Blk w g news) (hl : news.length = size) (h1 : ∀ u ∈ news, u.oneCell' = true) (hn : (n + 1) * bytes ≤ 140737488355328) (hm : n + 1 ≤ maxLen)
    (h : ∀ v' w', w'.ownsRow 0 E size v' (n + 1) (xs ++ news) → w.grownBy w' v.ownBlock → (v'.ownBlock = v.ownBlock ∨ v'.ownBlock = some w.heap.size) → K (a.put o.dst v') w') :
    if Region.wanted o (yielded ops a.tmps) = true then Oper.wp Try.prog o a w K Q else E0 := by
  have hw : Region.wanted o (yielded ops a.tmps) = true := by simp [Region.wanted, hgd]
  rw [if_pos hw]
  exact wp_app1 s x T E ho ht hi hz hsize hby hzs hsz v n xs hs hown g news hx hb hl h1 hn hm h
theorem enTakeG : En 153 := enters_of Try.func153 (by kernel_rfl) rfl
/-- A message is kept. -/
def GetM.kept (m : GetM) (sz typ : Int) (b : List Int) : GetM := { m with out := m.out ++ [(typ, b)], dn := m.dn + sz }
/-- A message's bytes are about to be read. -/
def GetM.taken (m : GetM) (a len sz typ : Int) : GetM := if len - 8 < 1 then m.got sz typ [] else { m with pc := .rd sz typ (a + 8) (len - 8) [] }
theorem GetM.got_eq (m : GetM) (sz typ : Int) (b : List Int) : m.got sz typ b = (m.kept sz typ b).record := rfl
set_option maxHeartbeats 4000000 in
theorem gTakeK_any {O R : Nat → Prop} {q : Nat} {m : GetM} {ov : Value} (bs : Option Addr) (bl bc : Nat) (d : List Int) (sz typ : Int) (gb tb sb : Nat) (w : World) (h : GetW w O R q m ov) (hb : m.bas) (hg : Blk w gb [ptr q]) (ht : Blk w tb [.int .i32 typ]) (hs : Blk w sb [.int .i64 sz]) (og : O gb) (ot : O tb) (os : O sb) (hr : RdB w (.slice bs bl bc) d) (hro0 : ∀ i, (Value.slice bs bl bc).ownBlock = some i → O i) (hz0 : 8 ≤ sz) (hz1 : m.first + m.dn + sz ≤ m.c.s) :
    Calls Try.prog 153 #[.slice bs bl bc, ptr gb, ptr tb, ptr sb] w fun e w' => e = .returned (.tuple #[]) ∧ GetTo w O R q (m.got sz typ d) w' := by
  obtain ⟨b0, b1, b2, b3, b4, b5, b6⟩ := h.bd
  obtain ⟨g1, g2, g3, g4, g5, g6⟩ := id hb
  obtain ⟨i0, hi, hz0', hz1', hz2'⟩ := info_parts msinfo
  have hlt := h.lt
  have H := Lib.hid h
  have HB := Lib.hid hb
  obtain ⟨oa, oc, rfl⟩ := h.ms.sl
  obtain ⟨⟨es, hes, hown, hdat⟩, hrb⟩ := h.ms
  have hel : es.length = m.out.length := by rw [← hes, List.length_map]
  rw [hel] at hown
  have HES := Lib.hid (And.intro hes (And.intro hown (And.intro hdat hrb)))
  have hol : (m.out.length : Int) ≤ 1024 := by omega
  have hro : ∀ i, (Value.slice bs bl bc).ownBlock = some i → i ≠ q ∧ ¬ R i ∧ i < w.heap.size := fun i hi => ⟨fun e => h.nqo (e ▸ hro0 i hi), h.dj i (hro0 i hi), h.lo i (.inl (hro0 i hi))⟩
  have lg := hg.lt
  have lt' := ht.lt
  have ls := hs.lt
  have ng : gb ≠ q := fun e => h.nqo (e ▸ og)
  have nt : tb ≠ q := fun e => h.nqo (e ▸ ot)
  have ns : sb ≠ q := fun e => h.nqo (e ▸ os)
  have HG := Lib.hid hg
  have HT := Lib.hid ht
  have HS := Lib.hid hs
  have HRD := Lib.hid hr
  obtain ⟨c7, c8, c9, c10, c11, c12, c13, c14, c15⟩ := get_cells h.mch
  have f13 := Blk.frozen h.mch 13
  have p0 := hg.cell 0
  have p1 := ht.cell 0
  have p2 := hs.cell 0
  simp only [List.getElem?_cons_zero, ptr] at p0 p1 p2
  have W1 : IntKind.i64.wrap (m.dn + sz) = m.dn + sz := IntWalk.i64_in _ ⟨by omega, by omega⟩
  unfold ptr
  clear h hb hg ht hs hr hes hown hdat hrb b0 b1 hel
  go_enter Try.func153, Try.ntmps153
  go_wp2_with fail
  refine wp_region_held_drew (S := (fun w' => w'.cell? ⟨gb, 0, none⟩ = some (.pointer (some ⟨q, 0, none⟩)) ∧ w'.cell? ⟨tb, 0, none⟩ = some (.int .i32 typ))) (by kernel_rfl) ?_ (fun hHeld => ?_)
  · try dsimp only
    go_keep
  refine wpAnyH_take (i := 0) (v := ?_) rfl (by kernel_rfl) (by kernel_rfl) (by kernel_rfl) (fun _ _ _ h => h) (Or.inl ⟨by rfl, ?_⟩) (by assumption) ?_
  rotate_left
  · intro w0 hSw
    (try dsimp only at hSw)
    go_simp
    try with_reducible rfl
  try simp only [Act.put, List.getElem_toArray, List.getElem_cons_zero, List.getElem_cons_succ, List.setIfInBounds_toArray, List.set_cons_zero, List.set_cons_succ]
  refine wpAnyH_take (i := 1) (v := ?_) rfl (by kernel_rfl) (by kernel_rfl) (by kernel_rfl) (fun _ _ _ h => h) (Or.inl ⟨by rfl, ?_⟩) (by assumption) ?_
  rotate_left
  · intro w0 hSw
    (try dsimp only at hSw)
    go_simp
    try with_reducible rfl
  try simp only [Act.put, List.getElem_toArray, List.getElem_cons_zero, List.getElem_cons_succ, List.setIfInBounds_toArray, List.set_cons_zero, List.set_cons_succ]
  refine wpAnyH_take (i := 2) (v := ?_) rfl (by kernel_rfl) (by kernel_rfl) (by kernel_rfl) (fun _ _ _ h => h) (Or.inl ⟨by rfl, ?_⟩) (by assumption) ?_
  rotate_left
  · intro w0 hSw
    (try dsimp only at hSw)
    go_simp
    try with_reducible rfl
  try simp only [Act.put, List.getElem_toArray, List.getElem_cons_zero, List.getElem_cons_succ, List.setIfInBounds_toArray, List.set_cons_zero, List.set_cons_succ]
  refine wpAnyH_take (i := 3) (v := ?_) rfl (by kernel_rfl) (by kernel_rfl) (by kernel_rfl) (fun _ _ _ h => h) (Or.inl ⟨by rfl, ?_⟩) (by assumption) ?_
  rotate_left
  · intro w0 hSw
    (try dsimp only at hSw)
    go_simp
    try with_reducible rfl
  try simp only [Act.put, List.getElem_toArray, List.getElem_cons_zero, List.getElem_cons_succ, List.setIfInBounds_toArray, List.set_cons_zero, List.set_cons_succ]
  refine wpAnyH_take (i := 5) (v := ?_) rfl (by kernel_rfl) (by kernel_rfl) (by kernel_rfl) (fun _ _ _ h => h) (Or.inl ⟨by rfl, ?_⟩) (by assumption) ?_
  rotate_left
  · intro w0 hSw
    (try dsimp only at hSw)
    go_simp
    try with_reducible rfl
  try simp only [Act.put, List.getElem_toArray, List.getElem_cons_zero, List.getElem_cons_succ, List.setIfInBounds_toArray, List.set_cons_zero, List.set_cons_succ]
  refine wpAnyH_take (i := 6) (v := ?_) rfl (by kernel_rfl) (by kernel_rfl) (by kernel_rfl) (fun _ _ _ h => h) (Or.inl ⟨by rfl, ?_⟩) (by assumption) ?_
  rotate_left
  · intro w0 hSw
    (try dsimp only at hSw)
    go_simp
    try with_reducible rfl
  try simp only [Act.put, List.getElem_toArray, List.getElem_cons_zero, List.getElem_cons_succ, List.setIfInBounds_toArray, List.set_cons_zero, List.set_cons_succ]
  refine wpAnyH_take (i := 7) (v := ?_) rfl (by kernel_rfl) (by kernel_rfl) (by kernel_rfl) (fun _ _ _ h => h) (Or.inl ⟨by rfl, ?_⟩) (by assumption) ?_
  rotate_left
  · intro w0 hSw
    (try dsimp only at hSw)
    go_simp
    try with_reducible rfl
  try simp only [Act.put, List.getElem_toArray, List.getElem_cons_zero, List.getElem_cons_succ, List.setIfInBounds_toArray, List.set_cons_zero, List.set_cons_succ]
  refine wpAnyH_ready (rs := [4, 8]) (by kernel_rfl) (by simp) ?_
  refine AllReadyH.cons rfl (fun K hK => ?_) (AllReadyH.cons rfl (fun K hK => ?_) AllReadyH.nil)
  · go_simp
    refine hK.out _ _ ?_ (fun hHeld => ?_)
    · try dsimp only
      go_keep
    clear hK K
    try simp only [Act.put, List.getElem_toArray, List.getElem_cons_zero, List.getElem_cons_succ, List.setIfInBounds_toArray, List.set_cons_zero, List.set_cons_succ]
    refine wpAnyH_ready (rs := [8]) (by kernel_rfl) (by simp) ?_
    refine AllReadyH.cons rfl (fun K hK => ?_) AllReadyH.nil
    try go_simp
    go_wp2_with fail
    refine hK.out _ _ ?_ (fun hHeld => ?_)
    · try dsimp only
      go_keep
    clear hK K
    try simp only [Act.put, List.getElem_toArray, List.getElem_cons_zero, List.getElem_cons_succ, List.setIfInBounds_toArray, List.set_cons_zero, List.set_cons_succ]
    refine wpAnyH_ready (rs := [9]) (by kernel_rfl) (by simp) ?_
    refine AllReadyH.cons rfl (fun K hK => ?_) AllReadyH.nil
    have hnew := Blk.made (w.drew) #[Value.int .i32 typ, Value.slice bs bl bc] 158
    have bA : Below w.heap.size w ((w.drew).alloc (Obj.cells #[Value.int .i32 typ, Value.slice bs bl bc] 158)) := by go_grown
    refine step_app1 (by rfl) _ _ 91 158 (by rfl) Try.underlying91 hi hz0' hz1' hz2' rfl (by decide) (.slice oa m.out.length oc) m.out.length (es.flatMap msL) (by rfl) (ownsRow_keep HES.out.2.1 (Below.keeps (M := fun _ => False) bA) (fun _ _ => id)) w.heap.size [Value.int .i32 typ, Value.slice bs bl bc] (by rfl) hnew rfl (by intro u hu; simp at hu; rcases hu with rfl | rfl <;> rfl) (by omega) (by unfold maxLen; omega) ?_
    intro ov' w1 ow1 gr1 hov1
    obtain ⟨ra, rn, rc, rfl⟩ : ∃ ra rn rc, ov' = .slice ra rn rc := by
      rcases ow1.2 with ⟨e, _⟩ | ⟨_, _, _, e, _⟩
      · exact ⟨_, _, _, e⟩
      · exact ⟨_, _, _, e⟩
    have kg1 := grown_keep gr1
    have zg1 := kg1.size
    simp at zg1
    have nov : ∀ i, (Value.slice oa m.out.length oc).ownBlock = some i → R i := HES.out.2.2.2
    have eg := (kg1.cell (b := gb) 0 (by simp; omega) (fun e => H.out.dj _ og (nov _ e))).trans ((bA.cell (p := ⟨gb, 0, none⟩) lg).trans p0)
    have et := (kg1.cell (b := tb) 0 (by simp; omega) (fun e => H.out.dj _ ot (nov _ e))).trans ((bA.cell (p := ⟨tb, 0, none⟩) lt').trans p1)
    have eq13 := (kg1.cell (b := q) 13 (by simp; omega) (fun e => H.out.nqr (nov _ e))).trans ((bA.cell (p := ⟨q, 13, none⟩) hlt).trans c13)
    have fq13 := (kg1.frozen (b := q) 13 (by simp; omega) (fun e => H.out.nqr (nov _ e))).trans (((Below.keeps (M := fun _ => False) bA).frozen (b := q) 13 hlt id).trans f13)
    refine hK.out _ _ ?_ (fun hHeld => ?_)
    · try dsimp only
      go_keep
    clear hK K
    try simp only [Act.put, List.getElem_toArray, List.getElem_cons_zero, List.getElem_cons_succ, List.setIfInBounds_toArray, List.set_cons_zero, List.set_cons_succ]
    refine wpAnyH_take (i := 10) (v := ?_) rfl (by kernel_rfl) (by kernel_rfl) (by kernel_rfl) (fun _ _ _ h => h) (Or.inl ⟨by rfl, ?_⟩) (by assumption) ?_
    rotate_left
    · intro w0 hSw
      (try dsimp only at hSw)
      go_simp
      try with_reducible rfl
    try simp only [Act.put, List.getElem_toArray, List.getElem_cons_zero, List.getElem_cons_succ, List.setIfInBounds_toArray, List.set_cons_zero, List.set_cons_succ]
    refine wpAnyH_take (i := 11) (v := ?_) rfl (by kernel_rfl) (by kernel_rfl) (by kernel_rfl) (fun _ _ _ h => h) (Or.inl ⟨by rfl, ?_⟩) (by assumption) ?_
    rotate_left
    · intro w0 hSw
      (try dsimp only at hSw)
      go_simp
      try with_reducible rfl
    try simp only [Act.put, List.getElem_toArray, List.getElem_cons_zero, List.getElem_cons_succ, List.setIfInBounds_toArray, List.set_cons_zero, List.set_cons_succ]
    refine wpAnyH_ready (rs := [12]) (by kernel_rfl) (by simp) ?_
    refine AllReadyH.cons rfl (fun K hK => ?_) AllReadyH.nil
    go_simp
    have ks := Keep.setCell (M := (· = q)) (Keep.refl _ w1) (p := ⟨q, 13, none⟩) (.inl rfl) (.slice ra rn rc)
    refine hK.out _ _ ?_ (fun hHeld => ?_)
    · try dsimp only
      exact ⟨(ks.cell (b := gb) 0 (by omega) ng).trans eg, (ks.cell (b := tb) 0 (by omega) nt).trans et⟩
    clear hK K
    try simp only [Act.put, List.getElem_toArray, List.getElem_cons_zero, List.getElem_cons_succ, List.setIfInBounds_toArray, List.set_cons_zero, List.set_cons_succ]
    refine wpAnyH_done (by kernel_rfl) ?_ _
    clear hHeld
    go_wp2_with fail
    have kA : Keep (fun i => (Value.slice oa m.out.length oc).ownBlock = some i) w w1 := by
      refine Keep.trans ?_ kg1
      exact Below.keeps bA
    have zA := kA.size
    have hovR : ∀ i, (Value.slice ra rn rc).ownBlock = some i → R i ∨ (w.heap.size ≤ i ∧ i < w1.heap.size) := by
      intro i hi
      rcases hov1 with e | e
      · exact .inl (nov i (e ▸ hi))
      · have h9 := World.ownsRow.lt ow1 _ hi
        rw [e] at hi
        cases hi
        refine .inr ⟨?_, h9.2⟩
        simp
    obtain ⟨w2, hw2⟩ : ∃ w2, w2 = w1.setCell ⟨q, 13, none⟩ (.slice ra rn rc) := ⟨_, rfl⟩
    have ks : Keep (· = q) w1 w2 := by rw [hw2]; exact Keep.setCell (M := (· = q)) (Keep.refl _ w1) (p := ⟨q, 13, none⟩) (.inl rfl) _
    have z2 := ks.size
    have kW : Keep (fun i => i = q ∨ R i) w w2 := (kA.mono (fun i _ e => .inr (nov i e))).trans (ks.mono (fun i _ e => .inl e))
    have nqv : ¬ (Value.slice ra rn rc).ownBlock = some q := by
      intro e
      rcases hovR _ e with h9 | h9
      · exact H.out.nqr h9
      · omega
    have h2 : GetW w2 (fun i => O i ∨ (Value.slice bs bl bc).ownBlock = some i) (fun i => R i ∨ (w.heap.size ≤ i ∧ i < w1.heap.size ∧ (Value.slice ra rn rc).ownBlock = some i)) q { m with out := m.out ++ [(typ, d)] } (.slice ra rn rc) := by
      refine ⟨?_, ⟨⟨es ++ [((typ, d), .slice bs bl bc)], ?_, ?_, ?_⟩, ?_⟩, ?_, ?_, ?_, ?_, H.out.ok⟩
      · have := Blk.set (Blk.keep H.out.mch kA (fun e => H.out.nqr (nov _ e))) 13 (.slice ra rn rc)
        rw [hw2]
        exact this
      · rw [List.map_append, HES.out.1]
        rfl
      · have e1 : (es ++ [((typ, d), Value.slice bs bl bc)]).length = m.out.length + 1 := by
          rw [List.length_append, ← HES.out.1, List.length_map]
          rfl
        have e2 : (es ++ [((typ, d), Value.slice bs bl bc)]).flatMap msL = es.flatMap msL ++ [Value.int .i32 typ, Value.slice bs bl bc] := by
          rw [List.flatMap_append]
          rfl
        rw [e1, e2]
        exact ownsRow_keep ow1 ks (fun i hi e => nqv (by have e : i = q := e; exact e ▸ hi))
      · intro x hx
        rcases List.mem_append.1 hx with hx | hx
        · obtain ⟨r1, r2⟩ := HES.out.2.2.1 x hx
          exact ⟨(r1.keepP kW (fun i hi hh => by
            rcases hh with hh | hh
            · exact H.out.nqo (hh ▸ r2 i hi)
            · exact H.out.dj i (r2 i hi) hh)), fun i hi => .inl (r2 i hi)⟩
        · obtain rfl := List.mem_singleton.1 hx
          exact ⟨HRD.out.keepP kW (fun i hi hh => by
            have := hro i hi
            rcases hh with hh | hh
            · exact this.1 hh
            · exact this.2.1 hh), fun i hi => .inr hi⟩
      · intro i hi
        rcases hovR i hi with h9 | h9
        · exact .inl h9
        · exact .inr ⟨h9.1, h9.2, hi⟩
      · rintro (h9 | h9)
        · exact H.out.nqo h9
        · exact (hro _ h9).1 rfl
      · rintro (h9 | h9)
        · exact H.out.nqr h9
        · omega
      · rintro i (h9 | h9) (h8 | h8)
        · exact H.out.dj i h9 h8
        · have := H.out.lo i (.inl h9)
          omega
        · exact (hro i h9).2.1 h8
        · have := (hro i h9).2.2
          omega
      · rintro i ((h9 | h9) | (h9 | h9))
        · have := H.out.lo i (.inl h9)
          omega
        · have := (hro i h9).2.2
          omega
        · have := H.out.lo i (.inr h9)
          omega
        · omega
    have H2 := Lib.hid h2
    have KW := Lib.hid kW
    have G2 := Lib.hid (HG.out.keep kW (by rintro (h9 | h9); exact ng h9; exact H.out.dj _ og h9))
    have S2' := Lib.hid (HS.out.keep kW (by rintro (h9 | h9); exact ns h9; exact H.out.dj _ os h9))
    have q0 := G2.out.cell 0
    have q2 := S2'.out.cell 0
    have lg2 := G2.out.lt
    have ls2 := S2'.out.lt
    have hlt2 := h2.lt
    simp only [List.getElem?_cons_zero, ptr] at q0 q2
    obtain ⟨_, _, _, _, _, d12, _⟩ := get_cells h2.mch
    have e12 := Blk.frozen h2.mch 12
    rw [← hw2]
    clear hw2 kA kg1 ow1 gr1 eg et eq13 fq13 ks kW h2 bA hnew c7 c8 c9 c10 c11 c12 c13 c14 c15 f13 p0 p1 p2
    dsimp only at d12
    refine wp_region_held_drew (S := (fun w' => w'.cell? ⟨gb, 0, none⟩ = some (.pointer (some ⟨q, 0, none⟩)) ∧ w'.cell? ⟨sb, 0, none⟩ = some (.int .i64 sz))) (by kernel_rfl) ?_ (fun hHeld => ?_)
    · try dsimp only
      go_keep
    refine wpAnyH_take (i := 0) (v := ?_) rfl (by kernel_rfl) (by kernel_rfl) (by kernel_rfl) (fun _ _ _ h => h) (Or.inl ⟨by rfl, ?_⟩) (by assumption) ?_
    rotate_left
    · intro w0 hSw
      (try dsimp only at hSw)
      go_simp
      try with_reducible rfl
    try simp only [Act.put, List.getElem_toArray, List.getElem_cons_zero, List.getElem_cons_succ, List.setIfInBounds_toArray, List.set_cons_zero, List.set_cons_succ]
    refine wpAnyH_take (i := 1) (v := ?_) rfl (by kernel_rfl) (by kernel_rfl) (by kernel_rfl) (fun _ _ _ h => h) (Or.inl ⟨by rfl, ?_⟩) (by assumption) ?_
    rotate_left
    · intro w0 hSw
      (try dsimp only at hSw)
      go_simp
      try with_reducible rfl
    try simp only [Act.put, List.getElem_toArray, List.getElem_cons_zero, List.getElem_cons_succ, List.setIfInBounds_toArray, List.set_cons_zero, List.set_cons_succ]
    refine wpAnyH_take (i := 2) (v := ?_) rfl (by kernel_rfl) (by kernel_rfl) (by kernel_rfl) (fun _ _ _ h => h) (Or.inl ⟨by rfl, ?_⟩) (by assumption) ?_
    rotate_left
    · intro w0 hSw
      (try dsimp only at hSw)
      go_simp
      try with_reducible rfl
    try simp only [Act.put, List.getElem_toArray, List.getElem_cons_zero, List.getElem_cons_succ, List.setIfInBounds_toArray, List.set_cons_zero, List.set_cons_succ]
    refine wpAnyH_take (i := 4) (v := ?_) rfl (by kernel_rfl) (by kernel_rfl) (by kernel_rfl) (fun _ _ _ h => h) (Or.inl ⟨by rfl, ?_⟩) (by assumption) ?_
    rotate_left
    · intro w0 hSw
      (try dsimp only at hSw)
      go_simp
      try with_reducible rfl
    try simp only [Act.put, List.getElem_toArray, List.getElem_cons_zero, List.getElem_cons_succ, List.setIfInBounds_toArray, List.set_cons_zero, List.set_cons_succ]
    refine wpAnyH_ready (rs := [3]) (by kernel_rfl) (by simp) ?_
    refine AllReadyH.cons rfl (fun K hK => ?_) AllReadyH.nil
    go_simp
    refine hK.out _ _ ?_ (fun hHeld => ?_)
    · try dsimp only
      go_keep
    clear hK K
    try simp only [Act.put, List.getElem_toArray, List.getElem_cons_zero, List.getElem_cons_succ, List.setIfInBounds_toArray, List.set_cons_zero, List.set_cons_succ]
    refine wpAnyH_take (i := 5) (v := ?_) rfl (by kernel_rfl) (by kernel_rfl) (by kernel_rfl) (fun _ _ _ h => h) (Or.inl ⟨by rfl, ?_⟩) (by assumption) ?_
    rotate_left
    · intro w0 hSw
      (try dsimp only at hSw)
      go_simp
      try with_reducible rfl
    try simp only [Act.put, List.getElem_toArray, List.getElem_cons_zero, List.getElem_cons_succ, List.setIfInBounds_toArray, List.set_cons_zero, List.set_cons_succ]
    refine wpAnyH_take (i := 6) (v := ?_) rfl (by kernel_rfl) (by kernel_rfl) (by kernel_rfl) (fun _ _ _ h => h) (Or.inl ⟨by rfl, ?_⟩) (by assumption) ?_
    rotate_left
    · intro w0 hSw
      (try dsimp only at hSw)
      go_simp
      try with_reducible rfl
    try simp only [Act.put, List.getElem_toArray, List.getElem_cons_zero, List.getElem_cons_succ, List.setIfInBounds_toArray, List.set_cons_zero, List.set_cons_succ]
    refine wpAnyH_take (i := 7) (v := ?_) rfl (by kernel_rfl) (by kernel_rfl) (by kernel_rfl) (fun _ _ _ h => h) (Or.inl ⟨by rfl, ?_⟩) (by assumption) ?_
    rotate_left
    · intro w0 hSw
      (try dsimp only at hSw)
      go_simp
      try with_reducible rfl
    try simp only [Act.put, List.getElem_toArray, List.getElem_cons_zero, List.getElem_cons_succ, List.setIfInBounds_toArray, List.set_cons_zero, List.set_cons_succ]
    refine wpAnyH_ready (rs := [8]) (by kernel_rfl) (by simp) ?_
    refine AllReadyH.cons rfl (fun K hK => ?_) AllReadyH.nil
    go_simp
    have ks2 := Keep.setCell (M := (· = q)) (Keep.refl _ w2.drew) (p := ⟨q, 12, none⟩) (.inl rfl) (.int .i64 (m.dn + sz))
    refine hK.out _ _ ?_ (fun hHeld => ?_)
    · try dsimp only
      exact ⟨(ks2.cell (b := gb) 0 lg2 ng).trans q0, (ks2.cell (b := sb) 0 ls2 ns).trans q2⟩
    clear hK K
    try simp only [Act.put, List.getElem_toArray, List.getElem_cons_zero, List.getElem_cons_succ, List.setIfInBounds_toArray, List.set_cons_zero, List.set_cons_succ]
    refine wpAnyH_done (by kernel_rfl) ?_ _
    clear hHeld
    go_wp2_with fail
    have h3 : GetW (w2.drew.setCell ⟨q, 12, none⟩ (.int .i64 (m.dn + sz))) (fun i => O i ∨ (Value.slice bs bl bc).ownBlock = some i) (fun i => R i ∨ (w.heap.size ≤ i ∧ i < w1.heap.size ∧ (Value.slice ra rn rc).ownBlock = some i)) q (m.kept sz typ d) (.slice ra rn rc) :=
      (H2.out.drew).put (m' := m.kept sz typ d) 12 (.int .i64 (m.dn + sz)) rfl rfl rfl
    refine (gRecord_any _ h3 ⟨g1, g2, g3, by show 0 ≤ m.dn + sz; omega, by show m.first + (m.dn + sz) ≤ m.c.s; omega, by show 8 * ((m.out ++ [(typ, d)]).length : Int) ≤ m.dn + sz; rw [List.length_append]; simp; omega⟩).mono ?_
    rintro e w5 ⟨rfl, hto⟩
    go_wp2
    go_end0
    refine ⟨rfl, ?_⟩
    rw [GetM.got_eq]
    refine hto.from ((KW.out.drew).setCell (p := ⟨q, 12, none⟩) (.inl (.inl rfl)) _) (fun i hi => ?_) (fun i hi => ?_)
    · rcases hi with h9 | h9
      · exact .inl h9
      · exact .inl (hro0 i h9)
    · rcases hi with h9 | h9
      · exact .inl h9
      · exact .inr h9.1
  · try go_simp
    go_wp2_with fail
    refine hK.out _ _ ?_ (fun hHeld => ?_)
    · try dsimp only
      go_keep
    clear hK K
    try simp only [Act.put, List.getElem_toArray, List.getElem_cons_zero, List.getElem_cons_succ, List.setIfInBounds_toArray, List.set_cons_zero, List.set_cons_succ]
    refine wpAnyH_ready (rs := [4]) (by kernel_rfl) (by simp) ?_
    refine AllReadyH.cons rfl (fun K hK => ?_) AllReadyH.nil
    go_simp
    refine hK.out _ _ ?_ (fun hHeld => ?_)
    · try dsimp only
      go_keep
    clear hK K
    try simp only [Act.put, List.getElem_toArray, List.getElem_cons_zero, List.getElem_cons_succ, List.setIfInBounds_toArray, List.set_cons_zero, List.set_cons_succ]
    refine wpAnyH_ready (rs := [9]) (by kernel_rfl) (by simp) ?_
    refine AllReadyH.cons rfl (fun K hK => ?_) AllReadyH.nil
    have hnew := Blk.made (w.drew) #[Value.int .i32 typ, Value.slice bs bl bc] 158
    have bA : Below w.heap.size w ((w.drew).alloc (Obj.cells #[Value.int .i32 typ, Value.slice bs bl bc] 158)) := by go_grown
    refine step_app1 (by rfl) _ _ 91 158 (by rfl) Try.underlying91 hi hz0' hz1' hz2' rfl (by decide) (.slice oa m.out.length oc) m.out.length (es.flatMap msL) (by rfl) (ownsRow_keep HES.out.2.1 (Below.keeps (M := fun _ => False) bA) (fun _ _ => id)) w.heap.size [Value.int .i32 typ, Value.slice bs bl bc] (by rfl) hnew rfl (by intro u hu; simp at hu; rcases hu with rfl | rfl <;> rfl) (by omega) (by unfold maxLen; omega) ?_
    intro ov' w1 ow1 gr1 hov1
    obtain ⟨ra, rn, rc, rfl⟩ : ∃ ra rn rc, ov' = .slice ra rn rc := by
      rcases ow1.2 with ⟨e, _⟩ | ⟨_, _, _, e, _⟩
      · exact ⟨_, _, _, e⟩
      · exact ⟨_, _, _, e⟩
    have kg1 := grown_keep gr1
    have zg1 := kg1.size
    simp at zg1
    have nov : ∀ i, (Value.slice oa m.out.length oc).ownBlock = some i → R i := HES.out.2.2.2
    have eg := (kg1.cell (b := gb) 0 (by simp; omega) (fun e => H.out.dj _ og (nov _ e))).trans ((bA.cell (p := ⟨gb, 0, none⟩) lg).trans p0)
    have et := (kg1.cell (b := tb) 0 (by simp; omega) (fun e => H.out.dj _ ot (nov _ e))).trans ((bA.cell (p := ⟨tb, 0, none⟩) lt').trans p1)
    have eq13 := (kg1.cell (b := q) 13 (by simp; omega) (fun e => H.out.nqr (nov _ e))).trans ((bA.cell (p := ⟨q, 13, none⟩) hlt).trans c13)
    have fq13 := (kg1.frozen (b := q) 13 (by simp; omega) (fun e => H.out.nqr (nov _ e))).trans (((Below.keeps (M := fun _ => False) bA).frozen (b := q) 13 hlt id).trans f13)
    refine hK.out _ _ ?_ (fun hHeld => ?_)
    · try dsimp only
      go_keep
    clear hK K
    try simp only [Act.put, List.getElem_toArray, List.getElem_cons_zero, List.getElem_cons_succ, List.setIfInBounds_toArray, List.set_cons_zero, List.set_cons_succ]
    refine wpAnyH_take (i := 10) (v := ?_) rfl (by kernel_rfl) (by kernel_rfl) (by kernel_rfl) (fun _ _ _ h => h) (Or.inl ⟨by rfl, ?_⟩) (by assumption) ?_
    rotate_left
    · intro w0 hSw
      (try dsimp only at hSw)
      go_simp
      try with_reducible rfl
    try simp only [Act.put, List.getElem_toArray, List.getElem_cons_zero, List.getElem_cons_succ, List.setIfInBounds_toArray, List.set_cons_zero, List.set_cons_succ]
    refine wpAnyH_take (i := 11) (v := ?_) rfl (by kernel_rfl) (by kernel_rfl) (by kernel_rfl) (fun _ _ _ h => h) (Or.inl ⟨by rfl, ?_⟩) (by assumption) ?_
    rotate_left
    · intro w0 hSw
      (try dsimp only at hSw)
      go_simp
      try with_reducible rfl
    try simp only [Act.put, List.getElem_toArray, List.getElem_cons_zero, List.getElem_cons_succ, List.setIfInBounds_toArray, List.set_cons_zero, List.set_cons_succ]
    refine wpAnyH_ready (rs := [12]) (by kernel_rfl) (by simp) ?_
    refine AllReadyH.cons rfl (fun K hK => ?_) AllReadyH.nil
    go_simp
    have ks := Keep.setCell (M := (· = q)) (Keep.refl _ w1) (p := ⟨q, 13, none⟩) (.inl rfl) (.slice ra rn rc)
    refine hK.out _ _ ?_ (fun hHeld => ?_)
    · try dsimp only
      exact ⟨(ks.cell (b := gb) 0 (by omega) ng).trans eg, (ks.cell (b := tb) 0 (by omega) nt).trans et⟩
    clear hK K
    try simp only [Act.put, List.getElem_toArray, List.getElem_cons_zero, List.getElem_cons_succ, List.setIfInBounds_toArray, List.set_cons_zero, List.set_cons_succ]
    refine wpAnyH_done (by kernel_rfl) ?_ _
    clear hHeld
    go_wp2_with fail
    have kA : Keep (fun i => (Value.slice oa m.out.length oc).ownBlock = some i) w w1 := by
      refine Keep.trans ?_ kg1
      exact Below.keeps bA
    have zA := kA.size
    have hovR : ∀ i, (Value.slice ra rn rc).ownBlock = some i → R i ∨ (w.heap.size ≤ i ∧ i < w1.heap.size) := by
      intro i hi
      rcases hov1 with e | e
      · exact .inl (nov i (e ▸ hi))
      · have h9 := World.ownsRow.lt ow1 _ hi
        rw [e] at hi
        cases hi
        refine .inr ⟨?_, h9.2⟩
        simp
    obtain ⟨w2, hw2⟩ : ∃ w2, w2 = w1.setCell ⟨q, 13, none⟩ (.slice ra rn rc) := ⟨_, rfl⟩
    have ks : Keep (· = q) w1 w2 := by rw [hw2]; exact Keep.setCell (M := (· = q)) (Keep.refl _ w1) (p := ⟨q, 13, none⟩) (.inl rfl) _
    have z2 := ks.size
    have kW : Keep (fun i => i = q ∨ R i) w w2 := (kA.mono (fun i _ e => .inr (nov i e))).trans (ks.mono (fun i _ e => .inl e))
    have nqv : ¬ (Value.slice ra rn rc).ownBlock = some q := by
      intro e
      rcases hovR _ e with h9 | h9
      · exact H.out.nqr h9
      · omega
    have h2 : GetW w2 (fun i => O i ∨ (Value.slice bs bl bc).ownBlock = some i) (fun i => R i ∨ (w.heap.size ≤ i ∧ i < w1.heap.size ∧ (Value.slice ra rn rc).ownBlock = some i)) q { m with out := m.out ++ [(typ, d)] } (.slice ra rn rc) := by
      refine ⟨?_, ⟨⟨es ++ [((typ, d), .slice bs bl bc)], ?_, ?_, ?_⟩, ?_⟩, ?_, ?_, ?_, ?_, H.out.ok⟩
      · have := Blk.set (Blk.keep H.out.mch kA (fun e => H.out.nqr (nov _ e))) 13 (.slice ra rn rc)
        rw [hw2]
        exact this
      · rw [List.map_append, HES.out.1]
        rfl
      · have e1 : (es ++ [((typ, d), Value.slice bs bl bc)]).length = m.out.length + 1 := by
          rw [List.length_append, ← HES.out.1, List.length_map]
          rfl
        have e2 : (es ++ [((typ, d), Value.slice bs bl bc)]).flatMap msL = es.flatMap msL ++ [Value.int .i32 typ, Value.slice bs bl bc] := by
          rw [List.flatMap_append]
          rfl
        rw [e1, e2]
        exact ownsRow_keep ow1 ks (fun i hi e => nqv (by have e : i = q := e; exact e ▸ hi))
      · intro x hx
        rcases List.mem_append.1 hx with hx | hx
        · obtain ⟨r1, r2⟩ := HES.out.2.2.1 x hx
          exact ⟨(r1.keepP kW (fun i hi hh => by
            rcases hh with hh | hh
            · exact H.out.nqo (hh ▸ r2 i hi)
            · exact H.out.dj i (r2 i hi) hh)), fun i hi => .inl (r2 i hi)⟩
        · obtain rfl := List.mem_singleton.1 hx
          exact ⟨HRD.out.keepP kW (fun i hi hh => by
            have := hro i hi
            rcases hh with hh | hh
            · exact this.1 hh
            · exact this.2.1 hh), fun i hi => .inr hi⟩
      · intro i hi
        rcases hovR i hi with h9 | h9
        · exact .inl h9
        · exact .inr ⟨h9.1, h9.2, hi⟩
      · rintro (h9 | h9)
        · exact H.out.nqo h9
        · exact (hro _ h9).1 rfl
      · rintro (h9 | h9)
        · exact H.out.nqr h9
        · omega
      · rintro i (h9 | h9) (h8 | h8)
        · exact H.out.dj i h9 h8
        · have := H.out.lo i (.inl h9)
          omega
        · exact (hro i h9).2.1 h8
        · have := (hro i h9).2.2
          omega
      · rintro i ((h9 | h9) | (h9 | h9))
        · have := H.out.lo i (.inl h9)
          omega
        · have := (hro i h9).2.2
          omega
        · have := H.out.lo i (.inr h9)
          omega
        · omega
    have H2 := Lib.hid h2
    have KW := Lib.hid kW
    have G2 := Lib.hid (HG.out.keep kW (by rintro (h9 | h9); exact ng h9; exact H.out.dj _ og h9))
    have S2' := Lib.hid (HS.out.keep kW (by rintro (h9 | h9); exact ns h9; exact H.out.dj _ os h9))
    have q0 := G2.out.cell 0
    have q2 := S2'.out.cell 0
    have lg2 := G2.out.lt
    have ls2 := S2'.out.lt
    have hlt2 := h2.lt
    simp only [List.getElem?_cons_zero, ptr] at q0 q2
    obtain ⟨_, _, _, _, _, d12, _⟩ := get_cells h2.mch
    have e12 := Blk.frozen h2.mch 12
    rw [← hw2]
    clear hw2 kA kg1 ow1 gr1 eg et eq13 fq13 ks kW h2 bA hnew c7 c8 c9 c10 c11 c12 c13 c14 c15 f13 p0 p1 p2
    dsimp only at d12
    refine wp_region_held_drew (S := (fun w' => w'.cell? ⟨gb, 0, none⟩ = some (.pointer (some ⟨q, 0, none⟩)) ∧ w'.cell? ⟨sb, 0, none⟩ = some (.int .i64 sz))) (by kernel_rfl) ?_ (fun hHeld => ?_)
    · try dsimp only
      go_keep
    refine wpAnyH_take (i := 0) (v := ?_) rfl (by kernel_rfl) (by kernel_rfl) (by kernel_rfl) (fun _ _ _ h => h) (Or.inl ⟨by rfl, ?_⟩) (by assumption) ?_
    rotate_left
    · intro w0 hSw
      (try dsimp only at hSw)
      go_simp
      try with_reducible rfl
    try simp only [Act.put, List.getElem_toArray, List.getElem_cons_zero, List.getElem_cons_succ, List.setIfInBounds_toArray, List.set_cons_zero, List.set_cons_succ]
    refine wpAnyH_take (i := 1) (v := ?_) rfl (by kernel_rfl) (by kernel_rfl) (by kernel_rfl) (fun _ _ _ h => h) (Or.inl ⟨by rfl, ?_⟩) (by assumption) ?_
    rotate_left
    · intro w0 hSw
      (try dsimp only at hSw)
      go_simp
      try with_reducible rfl
    try simp only [Act.put, List.getElem_toArray, List.getElem_cons_zero, List.getElem_cons_succ, List.setIfInBounds_toArray, List.set_cons_zero, List.set_cons_succ]
    refine wpAnyH_take (i := 2) (v := ?_) rfl (by kernel_rfl) (by kernel_rfl) (by kernel_rfl) (fun _ _ _ h => h) (Or.inl ⟨by rfl, ?_⟩) (by assumption) ?_
    rotate_left
    · intro w0 hSw
      (try dsimp only at hSw)
      go_simp
      try with_reducible rfl
    try simp only [Act.put, List.getElem_toArray, List.getElem_cons_zero, List.getElem_cons_succ, List.setIfInBounds_toArray, List.set_cons_zero, List.set_cons_succ]
    refine wpAnyH_take (i := 4) (v := ?_) rfl (by kernel_rfl) (by kernel_rfl) (by kernel_rfl) (fun _ _ _ h => h) (Or.inl ⟨by rfl, ?_⟩) (by assumption) ?_
    rotate_left
    · intro w0 hSw
      (try dsimp only at hSw)
      go_simp
      try with_reducible rfl
    try simp only [Act.put, List.getElem_toArray, List.getElem_cons_zero, List.getElem_cons_succ, List.setIfInBounds_toArray, List.set_cons_zero, List.set_cons_succ]
    refine wpAnyH_ready (rs := [3]) (by kernel_rfl) (by simp) ?_
    refine AllReadyH.cons rfl (fun K hK => ?_) AllReadyH.nil
    go_simp
    refine hK.out _ _ ?_ (fun hHeld => ?_)
    · try dsimp only
      go_keep
    clear hK K
    try simp only [Act.put, List.getElem_toArray, List.getElem_cons_zero, List.getElem_cons_succ, List.setIfInBounds_toArray, List.set_cons_zero, List.set_cons_succ]
    refine wpAnyH_take (i := 5) (v := ?_) rfl (by kernel_rfl) (by kernel_rfl) (by kernel_rfl) (fun _ _ _ h => h) (Or.inl ⟨by rfl, ?_⟩) (by assumption) ?_
    rotate_left
    · intro w0 hSw
      (try dsimp only at hSw)
      go_simp
      try with_reducible rfl
    try simp only [Act.put, List.getElem_toArray, List.getElem_cons_zero, List.getElem_cons_succ, List.setIfInBounds_toArray, List.set_cons_zero, List.set_cons_succ]
    refine wpAnyH_take (i := 6) (v := ?_) rfl (by kernel_rfl) (by kernel_rfl) (by kernel_rfl) (fun _ _ _ h => h) (Or.inl ⟨by rfl, ?_⟩) (by assumption) ?_
    rotate_left
    · intro w0 hSw
      (try dsimp only at hSw)
      go_simp
      try with_reducible rfl
    try simp only [Act.put, List.getElem_toArray, List.getElem_cons_zero, List.getElem_cons_succ, List.setIfInBounds_toArray, List.set_cons_zero, List.set_cons_succ]
    refine wpAnyH_take (i := 7) (v := ?_) rfl (by kernel_rfl) (by kernel_rfl) (by kernel_rfl) (fun _ _ _ h => h) (Or.inl ⟨by rfl, ?_⟩) (by assumption) ?_
    rotate_left
    · intro w0 hSw
      (try dsimp only at hSw)
      go_simp
      try with_reducible rfl
    try simp only [Act.put, List.getElem_toArray, List.getElem_cons_zero, List.getElem_cons_succ, List.setIfInBounds_toArray, List.set_cons_zero, List.set_cons_succ]
    refine wpAnyH_ready (rs := [8]) (by kernel_rfl) (by simp) ?_
    refine AllReadyH.cons rfl (fun K hK => ?_) AllReadyH.nil
    go_simp
    have ks2 := Keep.setCell (M := (· = q)) (Keep.refl _ w2.drew) (p := ⟨q, 12, none⟩) (.inl rfl) (.int .i64 (m.dn + sz))
    refine hK.out _ _ ?_ (fun hHeld => ?_)
    · try dsimp only
      exact ⟨(ks2.cell (b := gb) 0 lg2 ng).trans q0, (ks2.cell (b := sb) 0 ls2 ns).trans q2⟩
    clear hK K
    try simp only [Act.put, List.getElem_toArray, List.getElem_cons_zero, List.getElem_cons_succ, List.setIfInBounds_toArray, List.set_cons_zero, List.set_cons_succ]
    refine wpAnyH_done (by kernel_rfl) ?_ _
    clear hHeld
    go_wp2_with fail
    have h3 : GetW (w2.drew.setCell ⟨q, 12, none⟩ (.int .i64 (m.dn + sz))) (fun i => O i ∨ (Value.slice bs bl bc).ownBlock = some i) (fun i => R i ∨ (w.heap.size ≤ i ∧ i < w1.heap.size ∧ (Value.slice ra rn rc).ownBlock = some i)) q (m.kept sz typ d) (.slice ra rn rc) :=
      (H2.out.drew).put (m' := m.kept sz typ d) 12 (.int .i64 (m.dn + sz)) rfl rfl rfl
    refine (gRecord_any _ h3 ⟨g1, g2, g3, by show 0 ≤ m.dn + sz; omega, by show m.first + (m.dn + sz) ≤ m.c.s; omega, by show 8 * ((m.out ++ [(typ, d)]).length : Int) ≤ m.dn + sz; rw [List.length_append]; simp; omega⟩).mono ?_
    rintro e w5 ⟨rfl, hto⟩
    go_wp2
    go_end0
    refine ⟨rfl, ?_⟩
    rw [GetM.got_eq]
    refine hto.from ((KW.out.drew).setCell (p := ⟨q, 12, none⟩) (.inl (.inl rfl)) _) (fun i hi => ?_) (fun i hi => ?_)
    · rcases hi with h9 | h9
      · exact .inl h9
      · exact .inl (hro0 i h9)
    · rcases hi with h9 | h9
      · exact .inl h9
      · exact .inr h9.1
set_option maxHeartbeats 4000000 in
theorem gTakeMsg_any {O R : Nat → Prop} {q : Nat} {m : GetM} {ov : Value} (a len sz typ : Int) (w : World) (h : GetW w O R q m ov) (hb : m.bas) (ha0 : 0 ≤ a) (ha1 : a ≤ 131072) (hl0 : 8 ≤ len) (hl1 : len ≤ sz) (hz0 : 8 ≤ sz) (hz1 : m.first + m.dn + sz ≤ m.c.s) :
    Calls Try.prog 132 #[.pointer (some ⟨q, 0, none⟩), .int .i64 a, .int .i64 len, .int .i64 sz, .int .i32 typ] w fun e w' => e = .returned (.tuple #[]) ∧ GetTo w O R q (m.taken a len sz typ) w' := by
  obtain ⟨b0, b1, b2, b3, b4, b5, b6⟩ := h.bd
  obtain ⟨g1, g2, g3, g4, g5, g6⟩ := id hb
  have hlt := h.lt
  have H := Lib.hid h
  have HB := Lib.hid hb
  have W1 : IntKind.i64.wrap (a + 8) = a + 8 := IntWalk.i64_in _ ⟨by omega, by omega⟩
  have W2 : IntKind.i64.wrap (len - 8) = len - 8 := IntWalk.i64_in _ ⟨by omega, by omega⟩
  clear h hb b0 b1
  go_enter Try.func132, Try.ntmps132
  go_upto_region 1 with fail
  obtain ⟨w3, hw3, x0, x1, x2, hs3, bb3⟩ := pbox3 w (.pointer (some ⟨q, 0, none⟩)) (.int .i64 sz) (.int .i32 typ) 89 3 21
  rw [← hw3]
  have X0 := Lib.hid x0
  have X1 := Lib.hid x1
  have X2 := Lib.hid x2
  have B3 := Lib.hid bb3
  have p0 := x0.cell 0
  have l0 : w.heap.size < w3.heap.size := by omega
  simp only [List.getElem?_cons_zero] at p0
  clear hw3 x0 x1 x2 bb3
  have hO3 : GetW w3 (fun i => O i ∨ (w.heap.size ≤ i ∧ i < w3.heap.size)) R q m ov := (H.out.below B3.out).mono (fun i hi => .inl hi) (by rintro (h9 | h9); exact H.out.nqo h9; omega) (by
    rintro i (h9 | h9) h8
    · exact H.out.dj i h9 h8
    · have := H.out.lo i (.inr h8)
      omega) (by
    rintro i (h9 | h9)
    · have := H.out.lo i (.inl h9)
      omega
    · exact h9.2)
  have H3 := Lib.hid hO3
  clear hO3
  by_cases hn : len - 8 < 1
  · have HR := Lib.hid (show m.taken a len sz typ = m.got sz typ [] from if_pos hn)
    go_wp2_with fail
    refine (cOut_end q (a + 8) (len - 8) none 0 0 _ _ _ hn enTakeG (GetTo w O R q (m.got sz typ [])) (fun w4 b4 => ?_)).mono ?_
    · have z4 := b4.size
      have h4 := H3.out.below b4
      refine (gTakeK_any none 0 0 [] sz typ w.heap.size (w.heap.size + 1 + 1) (w.heap.size + 1) w4 (h4.mono (O' := fun i => O i ∨ (w.heap.size ≤ i ∧ i < w3.heap.size)) (fun i hi => hi) h4.nqo h4.dj (fun i hi => h4.lo i (.inl hi))) HB.out (X0.out.below b4 l0) (X2.out.below b4 (by omega)) (X1.out.below b4 (by omega)) (.inr ⟨by omega, by omega⟩) (.inr ⟨by omega, by omega⟩) (.inr ⟨by omega, by omega⟩) (.inl ⟨rfl, rfl⟩) (fun i hi => by cases hi) hz0 hz1).mono ?_
      rintro e w5 ⟨rfl, hto⟩
      exact ⟨rfl, hto.from (Below.keeps (B3.out.trans (b4.mono (by omega)))) (fun i hi => hi.imp id (fun h9 => .inr h9.1)) (fun i hi => .inl hi)⟩
    · rintro e w5 ⟨rfl, hto⟩
      go_wp2
      go_end0
      exact ⟨rfl, by rw [HR.out]; exact hto⟩
  · have HR := Lib.hid (show m.taken a len sz typ = { m with pc := .rd sz typ (a + 8) (len - 8) [] } from if_neg hn)
    obtain ⟨n, hnn⟩ : ∃ n : Nat, len - 8 = n := ⟨(len - 8).toNat, by omega⟩
    have hn1 : 1 ≤ n := by omega
    have HN := Lib.hid hnn
    go_wp2_with fail
    refine (cOut_more q _ _ _ (a + 8) n none 0 0 _ _ _ H3.out.mch hn1).mono ?_
    rintro e w5 ⟨rfl, t5, m5, l5, k5⟩
    have z5 := k5.size
    go_wp2
    go_end0
    rw [HR.out, HN.out]
    refine ⟨rfl, fun i => O i ∨ (w.heap.size ≤ i ∧ i < w5.heap.size), R, ov, ⟨⟨t5, _, _, m5, l5.mono (fun i hi => .inr ⟨by omega, hi.2⟩), ⟨rfl, .inl ⟨rfl, rfl⟩⟩, (fun i hi => by cases hi), Clo.mk3 ?_ (.inr ⟨by omega, by omega⟩) ?_ (.inr ⟨by omega, by omega⟩) ?_ (.inr ⟨by omega, by omega⟩)⟩, ?_, ?_, H.out.nqr, ?_, ?_⟩, ?_, ?_⟩
    · exact X0.out.keep k5 (by show ¬ w.heap.size = q; omega)
    · exact X2.out.keep k5 (by show ¬ w.heap.size + 1 + 1 = q; omega)
    · exact X1.out.keep k5 (by show ¬ w.heap.size + 1 = q; omega)
    · exact ((H3.out.ms.keep k5 (fun j hj e => H3.out.nqo (e ▸ hj)) (fun j hj e => H3.out.nqr (e ▸ hj)))).mono (fun i hi => hi.imp id (fun h9 => ⟨h9.1, by omega⟩)) (fun _ => id)
    · rintro (h9 | h9)
      · exact H.out.nqo h9
      · omega
    · rintro i (h9 | h9) h8
      · exact H.out.dj i h9 h8
      · have := H.out.lo i (.inr h8)
        omega
    · rintro i ((h9 | h9) | h9)
      · have := H.out.lo i (.inl h9)
        omega
      · exact h9.2
      · have := H.out.lo i (.inr h9)
        omega
    · rintro i ((h9 | h9) | h9)
      · exact .inl h9
      · exact .inr (.inr h9.1)
      · exact .inr (.inl h9)
    · exact ((Below.keeps B3.out).trans (k5.mono (fun i _ e => .inl e)))
end Go.Proofs.Ytpicplkbblmbeaa
