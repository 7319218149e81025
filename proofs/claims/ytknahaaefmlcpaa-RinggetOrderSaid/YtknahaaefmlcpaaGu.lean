/- The walk of the law RinggetOrder. Conditions: as each says. -/
import Derived.Test.YtknahaaefmlcpaaGt
import Derived.Deep.CutRange
namespace Go.Proofs.Ytknahaaefmlcpaa
set_option maxRecDepth 100000
open Go.RowKit
set_option linter.unusedVariables false
set_option linter.unusedSimpArgs false
theorem rdB_at {w : World} {sa : Option Addr} {sn sc : Nat} {l : List Int} (h : RdB w (.slice sa sn sc) l) {k : Nat} (hk : k < l.length) : ∃ bk off, sa = some ⟨bk, off, none⟩ ∧ w.cell? ⟨bk, off + k, none⟩ = some (.int .u8 (gB l k)) ∧ l.length ≤ sc ∧ sc ≤ maxLen := by
  rcases h with ⟨_, e⟩ | ⟨_, _, _, e, _⟩ | ⟨bk, off, cap, e, h1, h2, hc⟩
  · rw [e] at hk
    exact absurd hk (Nat.not_lt_zero _)
  · rw [e] at hk
    exact absurd hk (Nat.not_lt_zero _)
  · cases e
    exact ⟨bk, off, rfl, hc k hk, h1, h2⟩
theorem mcinfoO : (Try.prog.info? 99).map (fun i => (i.zero, i.size, i.bytes)) = some (some .nilIface, 1, 16) := by kernel_rfl
def ifP (x : Nat × PutM) : Value := .iface 72 (.pointer (some ⟨x.1, 0, none⟩))
theorem row_at {w : World} {B E n : Nat} {sa : Option Addr} {sn sc : Nat} {vs : List Value} (h : w.ownsRow B E 1 (.slice sa sn sc) n vs) {k : Nat} {u : Value} (hk : vs[k]? = some u) : ∃ g, sa = some ⟨g, 0, none⟩ ∧ w.cell? ⟨g, k, none⟩ = some u ∧ n ≤ sc ∧ sc ≤ maxLen := by
  have hl : k < n * 1 := by rw [← h.1]; exact (List.getElem?_eq_some_iff.1 hk).1
  have h0 := h
  rcases h.2 with ⟨_, e⟩ | ⟨g, cap, cur, e, _, _, h1, h2, _⟩
  · omega
  · cases e
    exact ⟨g, rfl, by rw [World.ownsRow.cellAt h0 k hl]; exact hk, h1, h2⟩

theorem newPuts {w0 wr : World} {κ : Nat → Kd} {qs : Nat → Nat} {ss : List (Nat × PutM)} {ov : Value} {vs : List Value} {p c : Nat} {cnt : Int} {bs : List Int} (h : MdAt putFam w0 wr κ qs ss) (ho : wr.ownsRow 0 99 1 ov ss.length vs) (hv : ∀ (i : Nat) (x : Nat × PutM), ss[i]? = some x → vs[i]? = some (ifP x)) (hBuf : Buf wr p c cnt bs) (hp : p < w0.heap.size) (hc : c < w0.heap.size) (hn : ss.length ≤ 1000) :
    Calls Try.prog 8 #[.pointer (some ⟨p, 0, none⟩), ov] wr fun e w' => ∃ W κ' av ab, e = .returned (.pointer (some ⟨W, 0, none⟩)) ∧ WoIn putFam w' κ' W p c av nilSl ab ⟨bs, cnt, actsQ (σ := Nat × PutM) ss, 0, []⟩ ∧ (∀ i, i < wr.heap.size → κ' i = kdX κ p c i) ∧ wr.heap.size ≤ W ∧ Below wr.heap.size wr w' := by
  have hq : ∀ (i : Nat) (x : Nat × PutM), ss[i]? = some x → qs i = x.1 := fun i x hx => (h.mac i x hx).1
  refine h.new ho (fun i x hx => ?_) hBuf hp hc hn
  rw [hq i x hx]
  exact hv i x hx
theorem getOk {s : Nat} (hs : s = 64 ∨ s = 128 ∨ s = 256 ∨ s = 512) {m : Int} (hm : 1 ≤ m) : GetC.ok ⟨0, s, m⟩ = true := by
  have h : rgOk 0 s = true := by rcases hs with rfl | rfl | rfl | rfl <;> decide
  unfold GetC.ok
  dsimp only
  rw [h]
  simpa using hm
theorem GRel.init0 {b s : Nat} {A : List (Slot × Nat)} {k H : Nat} {c : GetC} (hc : c.ok = true) (hb : c.b = b) (hs : c.s = s) : GRel b s A k H [] k (GetC.init c) := by
  have e : GetC.init c = ⟨c, .hd0, 0, 0, 0, [], false, 10⟩ := by unfold GetC.init; rw [hc]; rfl
  rw [e]
  exact ⟨hb, hs, hc, rfl, rfl, rfl, rfl, rfl, rfl⟩
theorem bytes_slice {E B : Nat} {w : World} {v : Value} {l : List Int} (h : OwB E B w v l) (h0 : 0 < l.length) : ∃ g cp, v = .slice (some ⟨g, 0, none⟩) l.length cp ∧ l.length ≤ cp ∧ cp ≤ maxLen ∧ B ≤ g ∧ g < w.heap.size ∧ ∀ i, i < l.length → w.cell? ⟨g, i, none⟩ = some (.int .u8 (gB l i)) := by
  have hr := h.rd
  have hb := fun i hi => World.ownsRow.lt h i hi
  rcases hr with ⟨_, e⟩ | ⟨_, _, _, e, _⟩ | ⟨g, off, cap, e, h1, h2, hc⟩
  · rw [e] at h0
    exact absurd h0 (Nat.lt_irrefl 0)
  · rw [e] at h0
    exact absurd h0 (Nat.lt_irrefl 0)
  · obtain ⟨_, ho⟩ := h
    rcases ho with ⟨e2, _⟩ | ⟨g2, cap2, cur, e2, _⟩
    · rw [e] at e2
      cases e2
    · rw [e] at e2
      cases e2
      subst e
      have := hb g rfl
      exact ⟨g, cap, rfl, h1, h2, this.1, this.2, fun i hi => by have := hc i hi; rwa [Nat.zero_add] at this⟩
theorem GetM.res_ok {g : GetM} (h : g.e = 0) : g.res.2 = 0 := by unfold GetM.res; rw [if_neg (by simpa using h)]
theorem came_next {s : Nat} {bs bs' : List Int} {P : List PutM} {A : List (Slot × Nat)} {k H k0 n k' H' : Nat} {F : List (List Int)} {g g' : GetM} (h : Inv 0 s bs P A k H F) (he : ∀ m ∈ P, m.live = false) (hP : P.length ≤ 8) (hs : s = 64 ∨ s = 128 ∨ s = 256 ∨ s = 512) (e : GEnded 0 s bs P A k H F k0 g n bs' k' H' g') {r : Nat} (hc : r = 0 ∨ (g = GetC.init ⟨0, s, 9⟩ ∧ F = [] ∧ k0 = k ∧ Came s A k H (r - 1))) : Came s A k' H' r := by
  rcases hc with rfl | ⟨hg, hF, _, hc⟩
  · trivial
  · cases r with
    | zero => trivial
    | succ r =>
      have e1 : GetC.init ⟨0, s, 9⟩ = ⟨⟨0, s, 9⟩, .hd0, 0, 0, 0, [], false, 10⟩ := by unfold GetC.init; rw [getOk hs (by decide)]; rfl
      subst hg
      exact came_on h he hP (by rw [e1]; exact Int.le_refl 9) (by rw [e1]; rfl) hF e hc
theorem ord_ordd {wm wr : World} {κm κ : Nat → Kd} {s W p c : Nat} {av tv : Value} {ab : Nat → Nat} {ss : List (Nat × PutM)} {n : Nat} {gv : Value} {q : Nat} {gm : GetM} {A : List (Slot × Nat)} {kk H : Nat} {F : List (List Int)} {k0 : Nat} {L : List (Nat × PutM)} {S : SW putMacQ.σ} {FG O R : Nat → Prop} {Lb : List BytV}
    (h : OrdAt wm wr κm κ s W p c av tv ab (keyQ ss) n gv q gm A kk H F k0 L S FG O R) (hd : ∀ x ∈ L, x.2.live = false) (hq : ss.map (·.2) = putsI s Lb) : Ordd (L.map (·.2)) Lb (msgs A) (lastP A) := by
  have he : ∀ m ∈ L.map (·.2), m.live = false := by
    intro m hm
    obtain ⟨x, hx, rfl⟩ := List.mem_map.1 hm
    exact hd x hx
  refine ⟨rfl, h.pg.inv.count he, fun j t d hj => ?_⟩
  obtain ⟨h1, i, m, hm, h2, h3, h4, h5⟩ := h.pg.inv.order he hj
  refine ⟨h1, i, m, ?_⟩
  rw [List.getElem?_map] at hm
  obtain ⟨x, hx, rfl⟩ := Option.map_eq_some_iff.1 hm
  have hk : (keyQ ss)[i]? = some (x.1, x.2.c) := by rw [← h.key]; unfold keyQ; rw [List.getElem?_map, hx]; rfl
  unfold keyQ at hk
  rw [List.getElem?_map] at hk
  obtain ⟨y, hy, e⟩ := Option.map_eq_some_iff.1 hk
  have hy2 : (putsI s Lb)[i]? = some y.2 := by rw [← hq, List.getElem?_map, hy]; rfl
  obtain ⟨b, hb, e2⟩ := putsI_at hy2
  have e3 : y.2.c = x.2.c := by injection e
  have e4 : x.2.c = ⟨0, s, ((1 + i : Nat) : Int), b.b⟩ := by rw [← e3, e2]; rfl
  refine ⟨b, by rw [List.getElem?_map, hx]; rfl, hb, h2, ?_, ?_, h5⟩
  · rw [h3, e4]
    show ((1 + i : Nat) : Int) = 1 + (i : Int)
    omega
  · rw [h4, e4]
theorem ord_rows {wm wr : World} {κm κ : Nat → Kd} {s W p c : Nat} {av tv : Value} {ab : Nat → Nat} {ss : List (Nat × PutM)} {n : Nat} {gv pv : Value} {q : Nat} {gm : GetM} {A : List (Slot × Nat)} {kk H : Nat} {F : List (List Int)} {k0 : Nat} {L : List (Nat × PutM)} {S : SW putMacQ.σ} {FG O R : Nat → Prop}
    (h : OrdAt wm wr κm κ s W p c av tv ab (keyQ ss) n gv q gm A kk H F k0 L S FG O R) (hp : wr.ownsRow 0 72 1 pv ss.length (ss.map ptP)) : ∃ (qs : Nat → Nat) (vs : List Value), (L.map (·.2)).length = ss.length ∧ wr.ownsRow 0 72 1 pv (L.map (·.2)).length vs ∧ (∀ i, i < (L.map (·.2)).length → vs[i]? = some (.pointer (some ⟨qs i, 0, none⟩))) ∧ ∀ i m, (L.map (·.2))[i]? = some m → ∃ F, PutF wr F (qs i) m := by
  have hl : (L.map (·.2)).length = ss.length := by
    rw [List.length_map]
    have := h.len
    simpa [keyQ] using this
  have hk : ∀ (i : Nat) (x : Nat × PutM), L[i]? = some x → ∃ y : Nat × PutM, ss[i]? = some y ∧ y.1 = x.1 := by
    intro i x hx
    have hk : (keyQ ss)[i]? = some (x.1, x.2.c) := by rw [← h.key]; unfold keyQ; rw [List.getElem?_map, hx]; rfl
    unfold keyQ at hk
    rw [List.getElem?_map] at hk
    obtain ⟨y, hy, e⟩ := Option.map_eq_some_iff.1 hk
    exact ⟨y, hy, by injection e⟩
  refine ⟨fun i => ((L[i]?).map (·.1)).getD 0, ss.map ptP, hl, by rw [hl]; exact hp, fun i hi => ?_, fun i m hm => ?_⟩
  · rw [List.length_map] at hi
    obtain ⟨y, hy, e⟩ := hk i _ (List.getElem?_eq_getElem hi)
    rw [List.getElem?_map, hy]
    show some (ptP y) = some (.pointer (some ⟨((L[i]?).map (·.1)).getD 0, 0, none⟩))
    rw [List.getElem?_eq_getElem hi]
    unfold ptP
    rw [e]
    rfl
  · rw [List.getElem?_map] at hm
    obtain ⟨x, hx, rfl⟩ := Option.map_eq_some_iff.1 hm
    obtain ⟨F, hF⟩ := PutF.of h.wo h.pg.acts (i := i) (q := x.1) (m := x.2) hx
    refine ⟨F, ?_⟩
    show PutF wr F (((L[i]?).map (·.1)).getD 0) x.2
    rw [hx]
    exact hF
theorem zs_byte {bs : List Int} {s k : Nat} (h : (bs.drop 0).take s = zs s) (hk : k < s) : gB bs k = 0 := by
  have h1 : gB ((bs.drop 0).take s) k = gB bs k := by rw [gB_takeR _ _ _ hk, gB_drop, Nat.zero_add]
  rw [← h1, h]
  simp [gB, zs, List.getD, hk]
theorem ord_start {wm w7 : World} {κm : Nat → Kd} {s W p c : Nat} {av : Value} {ab : Nat → Nat} {ss : List (Nat × PutM)} {Lb : List BytV} {m : Int} {q : Nat} {w0 : World} (hs : s = 64 ∨ s = 128 ∨ s = 256 ∨ s = 512) (hW : WoIn putFam wm κm W p c av nilSl ab ⟨List.replicate (8 * 128) 0, 0, actsQ (σ := Nat × PutM) ss, 0, []⟩) (b7 : Below wm.heap.size wm w7) (hG : GetF w7 (fun k => wm.heap.size ≤ k ∧ k < w7.heap.size) q (GetC.init ⟨0, s, m⟩)) (hm : 1 ≤ m) (hq : ss.map (·.2) = putsI s Lb) (hL : ∀ x ∈ Lb, BytV.Ok w0 x) (h8 : Lb.length ≤ 8) :
    OrdAt wm w7 κm κm s W p c av nilSl ab (keyQ ss) 0 (.slice none 0 0) q (GetC.init ⟨0, s, m⟩) [] 0 0 [] 0 ss ⟨List.replicate (8 * 128) 0, 0, actsQ (σ := Nat × PutM) ss, 0, []⟩ (fun k => wm.heap.size ≤ k ∧ k < w7.heap.size) (fun _ => False) (fun _ => False) := by
  refine ⟨hW.below b7, ⟨rfl, ?_, GRel.init0 (getOk hs hm) rfl rfl⟩, rfl, fun _ _ => rfl, Below.keeps b7, hG, MsIn.none _ _ _, ?_, fun i _ h => by rcases h with h | h <;> exact h, fun i h => h.elim, by omega, Int.le_refl 0, by show (0 : Int) ≤ _; omega⟩
  · refine Inv.start (N := 8 * 128) (by omega) (by decide) (by omega) (fun i m' hi => ?_)
    rw [hq] at hi
    obtain ⟨x, hx, rfl⟩ := putsI_at hi
    have hil := (List.getElem?_eq_some_iff.1 hx).1
    exact ⟨_, rfl, rfl, rfl, (hL x (List.mem_of_getElem? hx)).b, by show ((1 + i : Nat) : Int) ≤ _; omega⟩
  · rintro i (h | h | h)
    · exact ⟨h, no_big hW h.1⟩
    · exact h.elim
    · exact h.elim
set_option maxHeartbeats 8000000 in
theorem order_main (bits most : Int) (hbits : 0 ≤ bits ∧ bits ≤ 255) (hmost : 0 ≤ most ∧ most ≤ 255) (t0 : Option Addr) (tc : Nat) (Lb : List BytV) (sa : Option Addr) (sn sc : Nat) (pk : List Int) (w : World) (hr : RdR w (.slice t0 Lb.length tc) 1 (Lb.map BytV.cs)) (hL : ∀ x ∈ Lb, BytV.Ok w x) (h8 : Lb.length ≤ 8) (rp : RdB w (.slice sa sn sc) pk) (bp : IsB pk) (h250 : sn ≤ 250) :
    Calls Try.prog 4 #[.int .u8 bits, .slice t0 Lb.length tc, .slice sa sn sc, .int .u8 most] w fun e w' => e = .returned (.bool true) ∧ Below w.heap.size w w' := by
  have HR := Lib.hid hr
  have HL := Lib.hid hL
  have RP := Lib.hid rp
  have BP := Lib.hid bp
  have HSN := Lib.hid (rd_len rp)
  have hi8 : ¬ (8 : Int) < (Lb.length : Int) := by omega
  have hi250 : ¬ (250 : Int) < (sn : Int) := by omega
  clear hr hL rp bp
  go_enter Try.func4, Try.ntmps4
  go_wp2_with fail
  refine (fixed08_any _).mono ?_
  rintro e w1 ⟨rfl, b1⟩
  have z1 := b1.size
  have B1 := Lib.hid b1
  clear b1
  go_upto_region 5 with fail
  go_cut [9] from 41 to 44 (fun rp wx => ∃ s : Nat, rp = .pointer (some ⟨w1.heap.size, 0, none⟩) ∧ (s = 64 ∨ s = 128 ∨ s = 256 ∨ s = 512) ∧ Blk wx w1.heap.size [.int .i64 0, .int .i64 s] ∧ Below w1.heap.size w1 wx ∧ w1.heap.size < wx.heap.size)
  case first =>
    have ht : bits.tmod 4 = bits % 4 := Int.tmod_eq_emod_of_nonneg hbits.1
    have hc : bits % 4 = 0 ∨ bits % 4 = 1 ∨ bits % 4 = 2 ∨ bits % 4 = 3 := by omega
    rcases hc with hc | hc | hc | hc
    · rw [hc] at ht
      go_wp2_with fail
      go_meet
      exact ⟨64, rfl, by omega, Blk.made w1 #[.int .i64 0, .int .i64 64] _, (Below.refl _ _).alloc (Nat.le_refl _) _, by simp⟩
    · rw [hc] at ht
      go_wp2_with fail
      go_meet
      exact ⟨128, rfl, by omega, Blk.made w1 #[.int .i64 0, .int .i64 128] _, (Below.refl _ _).alloc (Nat.le_refl _) _, by simp⟩
    · rw [hc] at ht
      go_wp2_with fail
      go_meet
      exact ⟨256, rfl, by omega, Blk.made w1 #[.int .i64 0, .int .i64 256] _, (Below.refl _ _).alloc (Nat.le_refl _) _, by simp⟩
    · rw [hc] at ht
      go_wp2_with fail
      go_meet
      exact ⟨512, rfl, by omega, Blk.made w1 #[.int .i64 0, .int .i64 512] _, (Below.refl _ _).alloc (Nat.le_refl _) _, by simp⟩
  case rest =>
    obtain ⟨s, rfl, hs, hB, bb, lb⟩ := hcut
    obtain ⟨i0, hi, hz0, hz1, hz2⟩ := info_parts mcinfoO
    have X2 := Lib.hid hB
    have B2 := Lib.hid (B1.out.trans (bb.mono z1))
    have z2 := bb.size
    have HS := Lib.hid hs
    have hs512 : s ≤ 512 := by omega
    clear hB bb hs
    go_wp2_with fail
    refine (mNew_at 1024 128 _ (by decide) (by decide) (by decide)).mono ?_
    rintro e w3 ⟨p, c, rfl, hb3, hp, hc, b3⟩
    have z3 := b3.size
    have HB3 := Lib.hid hb3
    have X3 := Lib.hid (X2.out.below b3 lb)
    have B3 := Lib.hid (B2.out.trans (b3.mono (by omega)))
    have x0 := X3.out.cell 0
    have x1 := X3.out.cell 1
    have lpc := hb3.hd.lt
    have lcc := Blk.lt hb3.wd
    simp only [List.getElem?_cons_zero, List.getElem?_cons_succ] at x0 x1
    have lx3 : w1.heap.size < w3.heap.size := by omega
    clear hb3 b3
    go_wp2_with fail
    refine (puts_any s t0 tc Lb _ (HR.out.below B3.out) (fun x hx => ⟨(HL.out x hx).s, (HL.out x hx).r.below B3.out, (HL.out x hx).b⟩) h8 (by omega)).mono ?_
    rintro e w4 (⟨rfl, b4⟩ | ⟨hsm, ov, κ, ss, rfl, hP⟩)
    · go_wp2
      go_ret
      exact ⟨rfl, B3.out.trans (b4.mono (by omega))⟩
    have HSM := Lib.hid hsm
    have HP := Lib.hid hP
    have HSL := Lib.hid hP.len
    have b4 := hP.bel
    have z4 := b4.size
    have hsl8 : ss.length ≤ 8 := by have := hP.len; omega
    have B4 := Lib.hid (B3.out.trans (b4.mono (by omega)))
    have HB4 := Lib.hid (HB3.out.belows b4)
    have X4 := Lib.hid (X3.out.below b4 lx3)
    obtain ⟨oa, ol, oc, rfl⟩ := own_isSl hP.ow
    have hol : ol = ss.length := by
      rcases hP.ow.2 with ⟨e, h0⟩ | ⟨g, cap, cur, e, _⟩
      · cases e
        exact h0.symm
      · cases e
        rfl
    subst hol
    clear hsm hP b4 x0 x1 HB3 X3
    obtain ⟨vs, hvs⟩ : ∃ vs, vs = ss.map ifP := ⟨_, rfl⟩
    have HVS := Lib.hid hvs
    have hvl : vs.length = ss.length := by rw [hvs, List.length_map]
    have HVL := Lib.hid hvl
    clear hvs hvl
    go_wp2_with fail
    go_loopw [14, 65] (fun mv i wr => ∃ k : Nat, k ≤ ss.length ∧ i = .int .i64 k ∧ wr.ownsRow 0 99 1 mv k (vs.take k) ∧ (∀ g, mv.ownBlock = some g → w4.heap.size ≤ g) ∧ Below w4.heap.size w4 wr) (fun _ i _ => ss.length - (intOf i).toNat)
    case atStart => exact ⟨0, by omega, rfl, World.ownsRow_nil _ _ _ _, (fun g h => by cases h), Below.refl _ _⟩
    case round =>
      obtain ⟨k, hk, rfl, hmo, hmg, hmb⟩ := hrel
      have HMO := Lib.hid hmo
      have HMG := Lib.hid hmg
      have HMB := Lib.hid hmb
      have zr := hmb.size
      obtain ⟨ma, ml, mc, rfl⟩ := own_isSl hmo
      clear hmo hmg hmb
      by_cases hkl : k < ss.length
      · obtain ⟨x, hx⟩ : ∃ x, ss[k]? = some x := ⟨_, List.getElem?_eq_getElem hkl⟩
        obtain ⟨g, rfl, hcell, hc1, hc2⟩ := row_at (HP.out.below HMB.out).ow (k := k) (u := ptP x) (by rw [List.getElem?_map, hx]; rfl)
        obtain ⟨q, m⟩ := x
        have hki : (k : Int) < (ss.length : Int) := by omega
        have HX := Lib.hid hx
        have b5 : Below wr.heap.size wr (wr.alloc (Obj.cells #[.iface 72 (.pointer (some ⟨q, 0, none⟩))] 99)) := (Below.refl _ _).alloc (Nat.le_refl _) _
        have OO := Lib.hid (ownsRow_keep HMO.out (Below.keeps (M := fun _ => False) b5) (fun _ _ => id))
        have NB := Lib.hid (show Blk (wr.alloc (Obj.cells #[.iface 72 (.pointer (some ⟨q, 0, none⟩))] 99)) wr.heap.size [.iface 72 (.pointer (some ⟨q, 0, none⟩))] from Blk.made wr _ _)
        have B5 := Lib.hid b5
        have lg := World.block_lt_of_cell? _ _ hcell
        unfold ptP at hcell
        dsimp only at hcell
        clear b5 hx
        go_wp2_with (refine list_app1 rfl (.tmp 69) (.tmp 72) 33 99 rfl Try.underlying33 hi hz0 hz1 hz2 rfl (by decide) (.slice ma ml mc) k (vs.take k) rfl OO.out wr.heap.size [.iface 72 (.pointer (some ⟨q, 0, none⟩))] rfl NB.out rfl (by simp [Value.oneCell']) (by omega) (by unfold maxLen; omega) ?_)
        intro v5 w5 o5 g5 e5
        obtain ⟨za, zl, zc, rfl⟩ := own_isSl o5
        have k5 := Lib.hid ((Below.keeps B5.out).trans (grown_keep g5) : Keep (fun i => (Value.slice ma ml mc).ownBlock = some i) wr w5)
        have O5 := Lib.hid o5
        have E5 := Lib.hid e5
        clear o5 g5 e5 hcell
        go_wp2
        refine ⟨⟨k + 1, by omega, by go_num, ?_, ?_, ?_⟩, by simp [intOf]; omega⟩
        · have e : vs[k]? = some (.iface 72 (.pointer (some ⟨q, 0, none⟩))) := by rw [HVS.out, List.getElem?_map, HX.out]; rfl
          rw [List.take_add_one, e]
          exact O5.out
        · intro g' hg
          rcases E5.out with e | e
          · rw [e] at hg
            exact HMG.out _ hg
          · rw [e] at hg
            cases hg
            first | omega | (rw [World.size_alloc]; omega)
        · exact HMB.out.trans (k5.out.below zr (fun i h1 h2 => by have := HMG.out i h2; omega))
      · obtain rfl : k = ss.length := by omega
        rw [List.take_of_length_le (by have := HVL.out; omega)] at HMO
        obtain ⟨qs, hmd⟩ := HP.out.md
        have hmd2 := hmd.below HMB.out
        go_wp2_with fail
        refine (newPuts (p := p) (c := c) (cnt := 0) (bs := List.replicate (8 * 128) 0) hmd2 HMO.out (fun i x hx => by rw [HVS.out, List.getElem?_map, hx]; rfl) (HB4.out.belows HMB.out) (by omega) (by omega) (by omega)).mono ?_
        rintro e wm ⟨W, κm, av, ab, rfl, hW, hκ, hWs, b6⟩
        have HW := Lib.hid hW
        have HKM := Lib.hid hκ
        have z6 := b6.size
        have hno : ∀ i, i < w3.heap.size → i ≠ p → i ≠ c → κm i = .no := fun i h1 h2 h3 => (hκ i (by omega)).trans (kdX_no hmd h1 h2 h3)
        have HNO := Lib.hid hno
        have HNW := Lib.hid (show ∀ i, i < w.heap.size → κm i = .no from fun i hi => hno i (by have := B3.out.size; omega) (by omega) (by omega))
        have HX1 := Lib.hid (show κm w1.heap.size = .no from hno _ lx3 (by omega) (by omega))
        have hpo : wm.ownsRow 0 72 1 (.slice oa ss.length oc) ss.length (ss.map ptP) := (ownsRow_keep ((HP.out.below HMB.out).ow) (Below.keeps (M := fun _ => False) b6) (fun _ _ => id))
        have HPO := Lib.hid hpo
        have HPN := Lib.hid (show ∀ g, (Value.slice oa ss.length oc).ownBlock = some g → κm g = .no from fun g hg => by
          have h1 := HP.out.om g hg
          have h2 := (World.ownsRow.lt (HP.out.ow) g hg).2
          rw [hκ g (by omega)]
          unfold kdX
          rw [if_neg (by omega)]
          exact h1.2)
        have BM := Lib.hid (B4.out.trans ((HMB.out.trans (b6.mono zr)).mono (by omega)))
        have XM := Lib.hid ((X4.out.below HMB.out X4.out.lt).below b6 (by have := X4.out.lt; omega))
        have HQ := Lib.hid (show ss.map (·.2) = putsI s Lb from HP.out.eq)
        clear hW hκ hno hpo hmd hmd2 X4 HB4 HMO HMG
        obtain ⟨a, ha⟩ : ∃ a : Nat, most % 9 = a := ⟨(most % 9).toNat, by omega⟩
        have HA := Lib.hid ha
        have ha8 : a ≤ 8 := by omega
        have hm9 : most.tmod 9 = (a : Int) := by rw [Int.tmod_eq_emod_of_nonneg hmost.1]; exact ha
        have Wa : IntKind.i64.wrap (1 + (a : Int)) = 1 + (a : Int) := IntWalk.i64_in _ ⟨by omega, by omega⟩
        have x0 := XM.out.cell 0
        have x1 := XM.out.cell 1
        have lxm := XM.out.lt
        simp only [List.getElem?_cons_zero, List.getElem?_cons_succ] at x0 x1
        clear ha
        go_wp2_with fail
        refine (gNew_f 0 s (1 + (a : Int)) _ (by decide) (by decide) (by omega) (by omega)).mono ?_
        rintro e w7 ⟨q, rfl, hq, hG, b7⟩
        have HST := Lib.hid (ord_start HS.out HW.out b7 hG (by omega) HQ.out HL.out h8)
        clear hG b7 x0 x1 HW
        go_wp2_with fail
        go_loopw [18, 19, 86] (fun gv g i wr => ∃ (n : Nat) (κ : Nat → Kd) (tv : Value) (q : Nat) (gm : GetM) (A : List (Slot × Nat)) (kk H : Nat) (F : List (List Int)) (k0 : Nat) (L : List (Nat × PutM)) (S : SW putMacQ.σ) (FG O R : Nat → Prop), n ≤ sn ∧ i = .int .i64 n ∧ g = .pointer (some ⟨q, 0, none⟩) ∧ OrdAt wm wr κm κ s W p c av tv ab (keyQ ss) n gv q gm A kk H F k0 L S FG O R ∧ S.tr.length ≤ n) (fun _ _ i _ => sn - (intOf i).toNat)
        case atStart => exact ⟨0, _, _, _, _, _, _, _, _, _, _, _, _, _, _, by omega, rfl, rfl, HST.out, Nat.zero_le _⟩
        case round =>
          obtain ⟨n, κ1, tv, q, gm, A, kk, H, F, k0, L, S, FG, O, R, hn, rfl, rfl, hO, htr⟩ := hrel
          obtain ⟨ga, gc, rfl⟩ := hO.ms.sl
          have HO := Lib.hid hO
          have HTR := Lib.hid htr
          have hBL : Below w.heap.size w wr := BM.out.trans (hO.kp.below (B := w.heap.size) BM.out.size (fun i hi h => h (HNW.out i hi)))
          have HBL := Lib.hid hBL
          have hXR := XM.out.keep hO.kp (fun h => h HX1.out)
          have HXR := Lib.hid hXR
          have hz := hO.kp.size
          clear hO htr hBL hXR
          by_cases hnl : n < sn
          · -- P1
            have hni : (n : Int) < (sn : Int) := by omega
            obtain ⟨bk, off, rfl, hcell, hc1, hc2⟩ := rdB_at RP.out (k := n) (by have := HSN.out; omega)
            have hcr := (HBL.out.cell (p := ⟨bk, off + n, none⟩) (World.block_lt_of_cell? w _ hcell)).trans hcell
            have hxb := BP.out.getD n
            obtain ⟨x, hx⟩ : ∃ x, x = gB pk n := ⟨_, rfl⟩
            rw [← hx] at hcr hxb
            obtain ⟨j, hj⟩ : ∃ j : Nat, x % ((ss.length : Int) + 1) = j := ⟨(x % ((ss.length : Int) + 1)).toNat, by have := Int.emod_nonneg x (show (ss.length : Int) + 1 ≠ 0 by omega); omega⟩
            have hjs : j ≤ ss.length := by have := Int.emod_lt_of_pos x (show 0 < (ss.length : Int) + 1 by omega); omega
            have hjt : x.tmod ((ss.length : Int) + 1) = (j : Int) := by rw [Int.tmod_eq_emod_of_nonneg hxb.1]; exact hj
            have W1 : IntKind.i64.wrap ((ss.length : Int) + 1) = (ss.length : Int) + 1 := IntWalk.i64_in _ ⟨by omega, by omega⟩
            have W2 : IntKind.i64.wrap (j : Int) = (j : Int) := IntWalk.i64_in _ ⟨by omega, by omega⟩
            have hz1' : ¬ ((ss.length : Int) + 1 = 0) := by omega
            have lbk := World.block_lt_of_cell? _ _ hcr
            clear hcell hj hx
            by_cases hjl : j < ss.length
            · have hjl' : (j : Int) < (ss.length : Int) := by omega
              go_wp2_with fail
              refine (wPick_step HO.out.wo j 0 HO.out.c0 (by have := HO.out.c1; omega) (by have := HTR.out; omega)).mono ?_
              rintro e w' hp
              obtain ⟨κ2, tv2, A2, L2, hO2⟩ := HO.out.put hs512 (by omega) (j := j) (by simp [keyQ]; omega) hp
              obtain ⟨_, _, _, _, _, _, rfl, _⟩ := hp
              have HO2 := Lib.hid hO2
              have ht2 := (pick_facts putMacQ S 0 j 0).1
              have HT2 := Lib.hid ht2
              clear hO2 ht2
              go_wp2
              exact ⟨⟨n + 1, κ2, tv2, q, gm, A2, kk, H, F, k0, L2, _, FG, O, R, by omega, by go_num, rfl, HO2.out, by have := HT2.out; have := HTR.out; omega⟩, by simp [intOf]; omega⟩
            · obtain rfl : j = ss.length := by omega
              have hjl' : ¬ (ss.length : Int) < (ss.length : Int) := by omega
              obtain ⟨_, _, gfine, gO, gR, gov, gsub, gI⟩ := HO.out.gf
              have GI := Lib.hid gI
              have GF := Lib.hid gfine
              clear gI gfine
              go_wp2_with fail
              refine (gNext_any wr GI.out GF.out).mono ?_
              rintro e w2 ⟨n0, nl, nc, rfl, hrn, b2⟩
              obtain ⟨wa, hwa⟩ : ∃ wa, wa = gm.want := ⟨_, rfl⟩
              rw [← hwa] at hrn ⊢
              have HWA := Lib.hid hwa
              have HRN := Lib.hid hrn
              have zw2 := b2.size
              unfold AA.V
              obtain ⟨w3', hw3⟩ : ∃ w3', w3' = w2.alloc (Obj.cells #[.int .i64 wa.k, .int .i64 wa.a, .int .i64 wa.n, .int .u64 wa.v, .int .u64 wa.x, .slice n0 nl nc] 47) := ⟨_, rfl⟩
              have XA := Lib.hid (show Blk w3' w2.heap.size [.int .i64 wa.k, .int .i64 wa.a, .int .i64 wa.n, .int .u64 wa.v, .int .u64 wa.x, .slice n0 nl nc] by rw [hw3]; exact Blk.made w2 _ _)
              have B23 := Lib.hid (show Below w2.heap.size w2 w3' by rw [hw3]; exact (Below.refl _ _).alloc (Nat.le_refl _) _)
              have BR3 := Lib.hid (b2.trans (B23.out.mono zw2))
              have HO3 := Lib.hid (HO.out.below BR3.out)
              have zr3 := BR3.out.size
              clear hwa hrn b2
              go_upto_region 26 with fail
              rw [← hw3]
              clear hw3
              cases hl : gm.live with
              | true =>
                obtain ⟨y0, y1, y2, y3, y4, y5⟩ := XA.out.c6
                have lxa := XA.out.lt
                have HL1 := Lib.hid hl
                have herr := (HO.out.get hs512 (by omega) hl (w' := wr)).1
                rw [← HWA.out] at herr
                have HER := Lib.hid herr
                have HWF := Lib.hid (show wa.wf from HWA.out ▸ GF.out.wf)
                clear herr hl
                go_wp2_with fail
                refine (mDo_aa p c S.cnt S.bs wa n0 nl nc w3' HO3.out.wo.buf HO.out.c0 (by have := HO.out.c1; omega) HWF.out (HRN.out.below B23.out) HER.out).mono ?_
                rintro e w4' ⟨r0, rl, rc, rfl, o4, hb4, k4⟩
                obtain ⟨an, han⟩ : ∃ an, an = wa.ans S.bs := ⟨_, rfl⟩
                rw [← han] at o4 ⊢
                have HAN := Lib.hid han
                have zw4 := k4.size
                have O4 := Lib.hid o4
                have HB4' := Lib.hid hb4
                have K4 := Lib.hid k4
                obtain ⟨w5, hw5⟩ : ∃ w5, w5 = w4'.alloc (Obj.cells #[.int .u64 an.v, .bool an.d, .slice r0 rl rc] 49) := ⟨_, rfl⟩
                have XB := Lib.hid (show Blk w5 w4'.heap.size [.int .u64 an.v, .bool an.d, .slice r0 rl rc] by rw [hw5]; exact Blk.made w4' _ _)
                have B45 := Lib.hid (show Below w4'.heap.size w4' w5 by rw [hw5]; exact (Below.refl _ _).alloc (Nat.le_refl _) _)
                have zw5 := B45.out.size
                clear han o4 hb4 k4 y0 y1 y2 y3 y4 y5
                go_upto_region 30 with fail
                rw [← hw5]
                clear hw5
                obtain ⟨v0, v1, v2⟩ := XB.out.c3
                have lxb := XB.out.lt
                have npc : ∀ i, FG i → ¬ (i = p ∨ i = c) := by
                  rintro i hi (rfl | rfl)
                  · have h1 := (HO.out.mem i (.inl hi)).2
                    rw [HO.out.wo.kp] at h1
                    cases h1
                  · have h1 := (HO.out.mem i (.inl hi)).2
                    rw [HO.out.wo.kc] at h1
                    cases h1
                have NPC := Lib.hid npc
                have HG5 := Lib.hid ((HO3.out.gf.keep K4.out npc).below B45.out)
                have hok := AA.ans_ok HO.out.wo.buf.is HER.out
                rw [← HAN.out] at hok
                have HOK := Lib.hid hok
                have hxl : an.b.length ≤ 1000 := by
                  by_cases hk : wa.k = 5
                  · have h1 := hok.rd hk
                    have h2 : wa.n ≤ 8 := by rw [HWA.out] at hk ⊢; exact GetM.want_small hk
                    omega
                  · rw [hok.no hk]
                    simp
                have HXL := Lib.hid hxl
                clear npc hok hxl
                go_wp2_with fail
                refine (gTake_f an r0 rl rc w5 HG5.out HL1.out ⟨HOK.out.v0, HOK.out.v1⟩ HXL.out ((OwB.rd O4.out).below B45.out)).mono ?_
                rintro e w6 ⟨rfl, F', hG6, hF6, k6⟩
                have hlp := HB4'.out.hd.lt
                have hlc := Blk.lt HB4'.out.wd
                have hB6 : Buf w6 p c (S.cnt + 1) (wa.out S.bs) := ((HB4'.out.belows B45.out).keep k6 (fun h => NPC.out p h (.inl rfl)) (fun h => NPC.out c h (.inr rfl)))
                have hK : Keep (fun i => FG i ∨ i = p ∨ i = c) wr w6 := (((Below.keeps BR3.out).trans (K4.out.mono (fun i _ hi => .inr hi))).trans (Below.keeps B45.out)).trans (k6.mono (fun i _ hi => .inl hi))
                rw [HWA.out] at hB6
                have e1 : an = gm.want.ans S.bs := by rw [HAN.out, HWA.out]
                rw [e1] at hG6
                obtain ⟨kk', H', F2, hO2⟩ := (HO.out.get hs512 (by omega) HL1.out (w' := wr)).2 w6 F' hK hB6 hG6 (fun i hi => (hF6 i hi).imp id (fun h => by omega))
                have HO2 := Lib.hid hO2
                clear hB6 hK e1 hG6 hO2 hF6 k6
                go_wp2
                exact ⟨⟨n + 1, κ1, tv, q, _, A, kk', H', F2, k0, L, _, F', O, R, by omega, by go_num, rfl, HO2.out, by show S.tr.length ≤ n + 1; have := HTR.out; omega⟩, by simp [intOf]; omega⟩
              | false =>
                have HL1 := Lib.hid hl
                clear hl
                obtain ⟨_, _, gfine, gO3, gR3, gov3, gsub3, gI3⟩ := HO3.out.gf
                have GI3 := Lib.hid gI3
                clear gI3 gfine
                go_wp2_with fail
                refine (gMessages_at w3' GI3.out (by have := GF.out.lo; omega) (fun x hx => by have := GF.out.ds x hx; omega)).mono ?_
                rintro e w4' ⟨mv, rfl, hms, b4⟩
                obtain ⟨mva, mvc, rfl⟩ := hms.sl
                have zw4 := b4.size
                have B34 := Lib.hid b4
                have BR4 := Lib.hid (BR3.out.trans (b4.mono zr3))
                have hO4 := HO.out.below BR4.out
                have HM1 := Lib.hid hO4.ms
                have HM2 := Lib.hid hms
                have HN := Lib.hid (show (msgs (A.take k0)).length + gm.out.length ≤ 100000 by
                  have h1 := (HO.out.few hs512 (by omega)).2.2 _ (.inr (.inl ⟨k0, rfl⟩))
                  have h2 := GF.out.lo
                  omega)
                have HD := Lib.hid (show ∀ i, O i ∨ (w3'.heap.size ≤ i ∧ i < w4'.heap.size) → ¬ R i from fun i hi hr => by
                  rcases hi with hi | hi
                  · exact HO.out.dr i hi hr
                  · have := (HO.out.mem i (.inr (.inr hr))).1.2
                    omega)
                clear hms b4 hO4
                go_wp2_with (refine list_appMs rfl (.tmp 111) (.tmp 113) rfl rfl rfl HM1.out HM2.out HN.out HD.out ?_)
                intro v5 w5 hm5 k5
                obtain ⟨va, vc, rfl⟩ := hm5.sl
                have zw5 := k5.size
                have K5 := Lib.hid k5
                have HM5 := Lib.hid hm5
                have XR5 := Lib.hid ((HXR.out.below BR4.out HXR.out.lt).keep k5 (fun h => by have := (HO.out.mem _ (.inr (.inr h))).1.1; omega))
                have r0' := XR5.out.cell 0
                have r1' := XR5.out.cell 1
                have lr5 := XR5.out.lt
                simp only [List.getElem?_cons_zero, List.getElem?_cons_succ] at r0' r1'
                clear hm5 k5
                go_wp2_with fail
                refine (gNew_f 0 s (1 + (a : Int)) w5 (by decide) (by decide) (by omega) (by omega)).mono ?_
                rintro e w6 ⟨q2, rfl, hq2, hG6, b6'⟩
                have hO2 := (HO.out.fresh HL1.out (getOk HS.out (by omega)) rfl rfl BR4.out (O2 := fun i => w3'.heap.size ≤ i ∧ i < w4'.heap.size) (fun i hi => ⟨by omega, hi.2⟩) K5.out HM5.out b6' hG6).2
                rw [List.length_append] at hO2
                have HO2 := Lib.hid hO2
                clear hO2 hG6 b6' r0' r1'
                go_wp2
                exact ⟨⟨n + 1, κ1, tv, q2, _, A, kk, H, [], kk, L, S, _, _, _, by omega, by go_num, rfl, HO2.out, by have := HTR.out; omega⟩, by simp [intOf]; omega⟩
          · -- P2
            obtain rfl : n = sn := by omega
            have hni : ¬ (n : Int) < (n : Int) := by omega
            clear hnl HST
            go_wp2_with fail
            refine (wRobin_any HO.out.wo 10000 (by decide) HO.out.c0 (by have := HO.out.c1; omega) (by have := HTR.out; omega) (Nat.le_trans (Nat.le_of_eq HO.out.alen) (by simp [keyQ]; omega))).mono ?_
            rintro e w8 hp
            obtain ⟨κ2, tv2, A2, L2, hO2, hdead⟩ := HO.out.robin hs512 (by omega) (by simp [keyQ]; omega) (fun y hy => by
              obtain ⟨z, hz', rfl⟩ := List.mem_map.1 hy
              obtain ⟨i, hi'⟩ := List.getElem?_of_mem hz'
              have h1 : (putsI s Lb)[i]? = some z.2 := by rw [← HQ.out, List.getElem?_map, hi']; rfl
              obtain ⟨y', hy', e⟩ := putsI_at h1
              rw [e]
              exact HSM.out y' (List.mem_of_getElem? hy')) hp
            obtain ⟨rfl, _⟩ := hp
            have HO2 := Lib.hid hO2
            have HDD := Lib.hid hdead
            clear hO2 hdead
            generalize (putFam.M.robin 10000 S).2 = RN
            go_wp2_with fail
            go_loopw [18, 19, 135] (fun gv g i wr => ∃ (r : Nat) (q : Nat) (gm : GetM) (kk H : Nat) (F : List (List Int)) (k0 : Nat) (S : SW putMacQ.σ) (FG O R : Nat → Prop), r ≤ 12 ∧ i = .int .i64 r ∧ g = .pointer (some ⟨q, 0, none⟩) ∧ OrdAt wm wr κm κ2 s W p c av tv2 ab (keyQ ss) (n + 1 + 2 * r) gv q gm A2 kk H F k0 L2 S FG O R ∧ (r = 0 ∨ (gm = GetC.init ⟨0, s, 9⟩ ∧ F = [] ∧ k0 = kk ∧ Came s A2 kk H (r - 1)))) (fun _ _ i _ => 12 - (intOf i).toNat)
            case atStart => exact ⟨0, q, gm, kk, H, F, k0, _, FG, O, R, by omega, rfl, rfl, HO2.out, .inl rfl⟩
            case round =>
              clear HO HTR HBL HXR hni HO2 hz
              obtain ⟨r, q, gm, kk, H, F, k0, S, FG, O, R, hr, rfl, rfl, hO, hcame⟩ := hrel
              obtain ⟨ga, gc, rfl⟩ := hO.ms.sl
              have HO := Lib.hid hO
              have HCM := Lib.hid hcame
              have HBL := Lib.hid (BM.out.trans (hO.kp.below (B := w.heap.size) BM.out.size (fun i hi h => h (HNW.out i hi))))
              have HXR := Lib.hid (XM.out.keep hO.kp (fun h => h HX1.out))
              have hz := hO.kp.size
              clear hO hcame
              by_cases hrl : r < 12
              · have hri : (r : Int) < 12 := by omega
                obtain ⟨w9, hw9⟩ : ∃ w9, w9 = wr.alloc (Obj.cells #[.iface 74 (.pointer (some ⟨q, 0, none⟩))] 99) := ⟨_, rfl⟩
                have B9 := Lib.hid (show Below wr.heap.size wr w9 by rw [hw9]; exact (Below.refl _ _).alloc (Nat.le_refl _) _)
                have G9 := Lib.hid (show Blk w9 wr.heap.size [.iface 74 (.pointer (some ⟨q, 0, none⟩))] by rw [hw9]; exact Blk.made wr _ _)
                have HO9 := Lib.hid (HO.out.below B9.out)
                have zw9 := B9.out.size
                have npc : ∀ i, FG i → ¬ (i = p ∨ i = c) := by
                  rintro i hi (rfl | rfl)
                  · have h1 := (HO.out.mem i (.inl hi)).2
                    rw [HO.out.wo.kp] at h1
                    cases h1
                  · have h1 := (HO.out.mem i (.inl hi)).2
                    rw [HO.out.wo.kc] at h1
                    cases h1
                have NPC := Lib.hid npc
                clear npc
                go_wp2_with fail
                rw [← hw9]
                clear hw9
                refine (soloNew getFam (F := FG) (s := (q, gm)) HO9.out.wo.buf ⟨rfl, HO9.out.gf⟩ (fun h => NPC.out _ h (.inl rfl)) (fun h => NPC.out _ h (.inr rfl)) G9.out).mono ?_
                rintro e w10 ⟨W2, κ3, av3, ab3, rfl, hW3, hκ3, hWs3, b10⟩
                have HW3 := Lib.hid hW3
                have HK3 := Lib.hid hκ3
                have B10 := Lib.hid b10
                clear hW3 hκ3 b10
                go_wp2_with fail
                refine (soloRobin getFam (w0 := w9) HW3.out HK3.out B10.out (HO9.out.wo.buf.hd.lt) (Blk.lt HO9.out.wo.buf.wd) 10000 (by decide) HO9.out.c0 (by have := HO9.out.c1; omega)).mono ?_
                rintro e w11 ⟨rfl, hS⟩
                obtain ⟨g', k', H', bs', rr, hE, hrr, hacts, hsol⟩ := HO9.out.solo hs512 (by omega) (w' := w9)
                obtain ⟨F', hO11⟩ := hsol w11 hS
                generalize (getFam.M.robin 10000 ⟨S.bs, S.cnt, [⟨some (q, gm), false⟩], 0, []⟩).2 = RN2
                have HO11 := Lib.hid hO11
                have HE := Lib.hid hE
                clear hS hO11 hsol hacts hrr hE HW3 HK3 B10
                obtain ⟨_, _, gfine, gO3, gR3, gov3, gsub3, gI3⟩ := HO11.out.gf
                have GI3 := Lib.hid gI3
                have GF := Lib.hid gfine
                clear gI3 gfine
                go_wp2_with fail
                refine (gMessages_at w11 GI3.out (by have := GF.out.lo; omega) (fun x hx => by have := GF.out.ds x hx; omega)).mono ?_
                rintro e w4' ⟨mv, rfl, hms, b4⟩
                obtain ⟨mva, mvc, rfl⟩ := hms.sl
                have zw4 := b4.size
                have BR4 := Lib.hid b4
                have HM1 := Lib.hid (HO11.out.below b4).ms
                have HM2 := Lib.hid hms
                have HN := Lib.hid (show (msgs (A2.take k0)).length + g'.out.length ≤ 100000 by
                  have h1 := (HO.out.few hs512 (by omega)).2.2 _ (.inr (.inl ⟨k0, rfl⟩))
                  have h2 := GF.out.lo
                  omega)
                have HD := Lib.hid (show ∀ i, O i ∨ (w11.heap.size ≤ i ∧ i < w4'.heap.size) → ¬ R i from fun i hi hr => by
                  rcases hi with hi | hi
                  · exact HO.out.dr i hi hr
                  · have := (HO11.out.mem i (.inr (.inr hr))).1.2
                    omega)
                have GI4 := Lib.hid (GI3.out.below b4)
                clear hms b4
                go_wp2_with (refine list_appMs rfl (.tmp 143) (.tmp 145) rfl rfl rfl HM1.out HM2.out HN.out HD.out ?_)
                intro v5 w5 hm5 k5
                obtain ⟨va, vc, rfl⟩ := hm5.sl
                have zw5 := k5.size
                have K5 := Lib.hid k5
                have HM5 := Lib.hid hm5
                have XR5 := Lib.hid (((XM.out.keep HO11.out.kp (fun h => h HX1.out)).below BR4.out (by have := HO11.out.kp.size; omega)).keep k5 (fun h => by have := (HO11.out.mem _ (.inr (.inr h))).1.1; omega))
                have r0' := XR5.out.cell 0
                have r1' := XR5.out.cell 1
                have lr5 := XR5.out.lt
                have GI5 := Lib.hid (GI4.out.keep k5 (fun i hi hr => HO11.out.dj i (gsub3 i (.inl hi)) (.inr hr)) (fun i hi hr => HO11.out.dj i (gsub3 i (.inr hi)) (.inr hr)) (fun hr => HO11.out.dj _ HO11.out.gf.1 (.inr hr)))
                simp only [List.getElem?_cons_zero, List.getElem?_cons_succ] at r0' r1'
                have hres : g'.res.2 = 0 := GetM.res_ok (HE.out.rel.done HE.out.fin).1
                have HRS := Lib.hid hres
                clear hm5 k5 hres
                go_wp2_with fail
                refine (gResult_any w5 GI5.out.at_).mono ?_
                rintro e w12 ⟨rfl, b12⟩
                rw [HRS.out]
                have zw12 := b12.size
                have B12 := Lib.hid b12
                have XR12 := Lib.hid (XR5.out.below b12 lr5)
                have HM12 := Lib.hid (HM5.out.keep (M := fun _ => False) (Below.keeps b12) (fun _ _ => id) (fun _ _ => id))
                have r0'' := XR12.out.cell 0
                have r1'' := XR12.out.cell 1
                have lr12 := XR12.out.lt
                simp only [List.getElem?_cons_zero, List.getElem?_cons_succ] at r0'' r1''
                clear b12 r0' r1'
                go_wp2_with fail
                refine (gNew_f 0 s 9 w12 (by decide) (by decide) (by omega) (by omega)).mono ?_
                rintro e w6 ⟨q2, rfl, hq2, hG6, b6'⟩
                have hO2 := (HO11.out.fresh HE.out.fin (getOk HS.out (by decide)) rfl rfl BR4.out (O2 := fun i => w11.heap.size ≤ i ∧ i < w4'.heap.size) (fun i hi => hi) (K5.out.trans (Below.keeps B12.out)) (HM12.out.mono (fun _ => id) (fun i hi => hi.imp id (fun hi => ⟨hi.1, by omega⟩))) b6' hG6).2
                rw [List.length_append] at hO2
                have HO2 := Lib.hid hO2
                have HCM2 := Lib.hid (came_next HO.out.pg.inv (fun m hm => by
                  obtain ⟨x, hx, rfl⟩ := List.mem_map.1 hm
                  exact HDD.out x hx) (by rw [List.length_map]; have := HO.out.len; simp [keyQ] at this; omega) HS.out HE.out HCM.out)
                clear hO2 hG6 b6' r0'' r1''
                go_wp2
                exact ⟨⟨r + 1, q2, _, k', H', [], k', _, _, _, _, by omega, by go_num, rfl, by have := HO2.out; rw [show n + 1 + 2 * r + 1 + 1 = n + 1 + 2 * (r + 1) by omega] at this; exact this, .inr ⟨rfl, rfl, rfl, HCM2.out⟩⟩, by simp [intOf]; omega⟩
              · obtain rfl : r = 12 := by omega
                have hcm := HCM.out
                obtain ⟨rfl, rfl, rfl, hka⟩ := hcm.resolve_left (by decide)
                have hka : k0 = A2.length := hka
                subst hka
                have hri : ¬ (12 : Int) < 12 := by decide
                have HZ := Lib.hid (HO.out.pg.inv.empty rfl)
                have HMS := Lib.hid HO.out.ms
                rw [List.take_of_length_le (Nat.le_refl _)] at HMS
                have r1' := HXR.out.cell 1
                have lr5 := HXR.out.lt
                have hbl : s + 24 ≤ S.bs.length := by have := HO.out.pg.inv.rg.len; omega
                have HOD := Lib.hid (ord_ordd HO.out HDD.out HQ.out)
                simp only [List.getElem?_cons_zero, List.getElem?_cons_succ] at r1'
                have hlp : 0 < S.bs.length := by omega
                have hsl : (s : Int) ≤ (S.bs.length : Int) := by omega
                clear hrl HCM hcm
                go_wp2_with fail
                go_region_held3 (fun w' => w'.cell? ⟨w1.heap.size, 1, none⟩ = some (.int .i64 s)) (first | go_keep | trivial)
                  (first
                    | (go_at_call 15; refine (mBytes_any p c S.cnt S.bs _ (HO.out.wo.buf.belows (bel_drewN 1 (Below.refl _ _)))).mono ?_; rintro e w9 ⟨bv, rfl, o9, b9⟩; obtain ⟨g, cp, rfl, hcp0, hcp4, hcp5, hcp6, hcl⟩ := bytes_slice o9 hlp; have hcp1 := (show (s : Int) ≤ (cp : Int) by omega); have hcp2 := (show s ≤ cp by omega); have hc := fun o => b9.cell (p := ⟨w1.heap.size, o, none⟩) (by simp; omega)))
                have HC9 := Lib.hid hcl
                have HB9 := Lib.hid ((bel_drewN 1 (Below.refl wr.heap.size wr)).trans (b9.mono (Nat.le_refl _)))
                clear hc hcl o9 b9 r1'
                go_wp2_with fail
                go_loopw [163] (fun i wl => ∃ k : Nat, k ≤ s ∧ i = .int .i64 k ∧ Below w9.heap.size w9 wl) (fun i _ => s - (intOf i).toNat)
                case atStart => exact ⟨0, Nat.zero_le _, rfl, Below.refl _ _⟩
                case round =>
                  obtain ⟨k, hk, rfl, hbw⟩ := hrel
                  have HBW := Lib.hid hbw
                  clear hbw
                  by_cases hks : k < s
                  · have hki : (k : Int) < (s : Int) := by omega
                    have hcell := (HBW.out.cell (p := ⟨g, k, none⟩) hcp6).trans (HC9.out k (by omega))
                    rw [zs_byte HZ.out hks] at hcell
                    go_wp2
                    exact ⟨⟨k + 1, by omega, by go_num, HBW.out⟩, by simp [intOf]; omega⟩
                  · obtain rfl : k = s := by omega
                    have hki : ¬ (k : Int) < (k : Int) := by omega
                    have BWR : Below _ _ _ := HB9.out.trans (HBW.out.mono HB9.out.size)
                    have HO9 := HO.out.below BWR
                    obtain ⟨qs2, vs2, hpl, hp2, hvs2, hP2⟩ := ord_rows HO9 (ownsRow_keep (ownsRow_keep HPO.out HO.out.kp (fun i hi h => h (HPN.out i hi))) (Below.keeps (M := fun _ => False) BWR) (fun _ _ => id))
                    have BW := HBL.out.trans (BWR.mono HBL.out.size)
                    have HPL := Lib.hid hpl
                    have HP2 := Lib.hid hp2
                    have HV2 := Lib.hid hvs2
                    have HF2 := Lib.hid hP2
                    have BWH := Lib.hid BW
                    have BRH := Lib.hid BWR
                    clear hpl hp2 hvs2 hP2 HO9 BW BWR hks
                    go_wp2_with fail
                    refine (ordered_any (L2.map (·.2)) qs2 t0 tc Lb wr (HR.out.below BWH.out) (fun x hx => ⟨(HL.out x hx).s, (HL.out x hx).r.below BWH.out, (HL.out x hx).b⟩) h8 (HPL.out.trans HSL.out) HP2.out HV2.out HF2.out (HMS.out.keep (M := fun _ => False) (Below.keeps BRH.out) (fun _ _ => id) (fun _ _ => id)) HOD.out).mono ?_
                    rintro e w10 ⟨rfl, b10⟩
                    go_wp2
                    go_ret
                    exact ⟨rfl, BWH.out.trans (b10.mono BWH.out.size)⟩

set_option maxHeartbeats 1000000 in
theorem order_early (bits most : Int) (t0 : Option Addr) (tn tc : Nat) (sa : Option Addr) (sn sc : Nat) (w : World) (h : 8 < tn ∨ 250 < sn) :
    Calls Try.prog 4 #[.int .u8 bits, .slice t0 tn tc, .slice sa sn sc, .int .u8 most] w fun e w' => e = .returned (.bool true) ∧ Below w.heap.size w w' := by
  by_cases h1 : (8 : Int) < (tn : Int)
  · go_enter Try.func4, Try.ntmps4
    go_wp2_with fail
    refine (fixed08_any _).mono ?_
    rintro e w1 ⟨rfl, b1⟩
    go_wp2
    go_ret
    exact ⟨rfl, b1⟩
  · have h2 : (250 : Int) < (sn : Int) := by omega
    clear h
    go_enter Try.func4, Try.ntmps4
    go_wp2_with fail
    refine (fixed08_any _).mono ?_
    rintro e w1 ⟨rfl, b1⟩
    go_wp2
    go_ret
    exact ⟨rfl, b1⟩
theorem u8_bdO {a : Int} (h : (Lit.int .u8 a).wf = true) : 0 ≤ a ∧ a ≤ 255 := by
  simpa [Lit.wf, IntKind.min, IntKind.max, IntKind.signed, IntKind.bits] using h
theorem order_said (bits : Int) (wa : (Lit.int .u8 bits).wf = true) (v : Value) (L : List BytV) (pv : Value) (pk : List Int) (most : Int) (wm : (Lit.int .u8 most).wf = true) (w : World) (h : RdR w v 1 (L.map BytV.cs)) (hL : ∀ x ∈ L, BytV.Ok w x) (rp : RdB w pv pk) (bp : IsB pk) :
    Calls Try.prog 4 #[.int .u8 bits, v, pv, .int .u8 most] w fun e w' => e = .returned (.bool true) ∧ Below w.heap.size w w' := by
  obtain ⟨sa, sn, sc, rfl⟩ := rp.isSl
  obtain ⟨t0, tc, rfl⟩ : ∃ t0 tc, v = .slice t0 L.length tc := by
    rcases h with ⟨rfl, h2⟩ | ⟨a, cap, rfl, h2, _⟩ | ⟨b, off, cap, rfl, _⟩
    · have : L.length = 0 := by have := congrArg List.length h2; simpa using this
      exact ⟨none, 0, by rw [this]⟩
    · have : L.length = 0 := by have := congrArg List.length h2; simpa using this
      exact ⟨some a, cap, by rw [this]⟩
    · exact ⟨_, _, by rw [List.length_map]⟩
  by_cases h1 : 8 < L.length ∨ 250 < sn
  · exact order_early bits most t0 L.length tc sa sn sc w h1
  · exact order_main bits most (u8_bdO wa) (u8_bdO wm) t0 tc L sa sn sc pk w h hL (by omega) rp bp (by omega)
end Go.Proofs.Ytknahaaefmlcpaa
