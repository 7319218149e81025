/- Puts in a new world; readings at a place; what the order of messages rests on. Conditions: as each says. -/
import Derived.Test.YtknahaaefmlcpaaGreatGt
namespace Go.Proofs.YtknahaaefmlcpaaGreat
set_option maxRecDepth 100000
open Go.RowKit
set_option linter.unusedVariables false
set_option linter.unusedSimpArgs false
theorem rdB_at {w : World} {sa : Option Addr} {sn sc : Nat} {l : List Int} (h : RdB w (.slice sa sn sc) l) {k : Nat} (hk : k < l.length) : ∃ bk off, sa = some ⟨bk, off, none⟩ ∧ w.cell? ⟨bk, off + k, none⟩ = some (.int .u8 (gB l k)) ∧ l.length ≤ sc ∧ sc ≤ maxLen := by
  rcases h with ⟨_, e⟩ | ⟨_, _, _, e, _⟩ | ⟨bk, off, cap, e, h1, h2, hc⟩
  · rw [e] at hk
    exact absurd hk (Nat.not_lt_zero _)
  · rw [e] at hk
    exact absurd hk (Nat.not_lt_zero _)
  · cases e
    exact ⟨bk, off, rfl, hc k hk, h1, h2⟩
theorem mcinfoO : (Tryz.prog.info? 154).map (fun i => (i.zero, i.size, i.bytes)) = some (some .nilIface, 1, 16) := by kernel_rfl
def ifP (x : Nat × PutM) : Value := .iface 38 (.pointer (some ⟨x.1, 0, none⟩))
theorem row_at {w : World} {B E n : Nat} {sa : Option Addr} {sn sc : Nat} {vs : List Value} (h : w.ownsRow B E 1 (.slice sa sn sc) n vs) {k : Nat} {u : Value} (hk : vs[k]? = some u) : ∃ g, sa = some ⟨g, 0, none⟩ ∧ w.cell? ⟨g, k, none⟩ = some u ∧ n ≤ sc ∧ sc ≤ maxLen := by
  have hl : k < n * 1 := by rw [← h.1]; exact (List.getElem?_eq_some_iff.1 hk).1
  have h0 := h
  rcases h.2 with ⟨_, e⟩ | ⟨g, cap, cur, e, _, _, h1, h2, _⟩
  · omega
  · cases e
    exact ⟨g, rfl, by rw [World.ownsRow.cellAt h0 k hl]; exact hk, h1, h2⟩

theorem newPuts {w0 wr : World} {κ : Nat → Kd} {qs : Nat → Nat} {ss : List (Nat × PutM)} {ov : Value} {vs : List Value} {p c : Nat} {cnt : Int} {bs : List Int} (h : MdAt putFam w0 wr κ qs ss) (ho : wr.ownsRow 0 154 1 ov ss.length vs) (hv : ∀ (i : Nat) (x : Nat × PutM), ss[i]? = some x → vs[i]? = some (ifP x)) (hBuf : Buf wr p c cnt bs) (hp : p < w0.heap.size) (hc : c < w0.heap.size) (hn : ss.length ≤ 1000) :
    Calls Tryz.prog 20 #[.pointer (some ⟨p, 0, none⟩), ov] wr fun e w' => ∃ W κ' av ab, e = .returned (.pointer (some ⟨W, 0, none⟩)) ∧ WoIn putFam w' κ' W p c av nilSl ab ⟨bs, cnt, actsQ (σ := Nat × PutM) ss, 0, []⟩ ∧ (∀ i, i < wr.heap.size → κ' i = kdX κ p c i) ∧ wr.heap.size ≤ W ∧ Below wr.heap.size wr w' := by
  have hq : ∀ (i : Nat) (x : Nat × PutM), ss[i]? = some x → qs i = x.1 := fun i x hx => (h.mac i x hx).1
  refine h.new ho (fun i x hx => ?_) hBuf hp hc hn
  rw [hq i x hx]
  exact hv i x hx
theorem getOk {s : Nat} (hs : s = 64 ∨ s = 128 ∨ s = 256 ∨ s = 512) {m : Int} (hm : 1 ≤ m) : GetC.ok ⟨0, s, m⟩ = true := by
  have h : rgOk 0 s = true := by rcases hs with rfl | rfl | rfl | rfl <;> decide
  unfold GetC.ok
  dsimp only
  rw [h]
  simpa using hm
theorem GRel.init0 {b s : Nat} {A : List (Slot × Nat)} {k H : Nat} {c : GetC} (hc : c.ok = true) (hb : c.b = b) (hs : c.s = s) : GRel b s A k H [] k (GetC.init c) := by
  have e : GetC.init c = ⟨c, .hd0, 0, 0, 0, [], false, 10⟩ := by unfold GetC.init; rw [hc]; rfl
  rw [e]
  exact ⟨hb, hs, hc, rfl, rfl, rfl, rfl, rfl, rfl⟩
theorem bytes_slice {E B : Nat} {w : World} {v : Value} {l : List Int} (h : OwB E B w v l) (h0 : 0 < l.length) : ∃ g cp, v = .slice (some ⟨g, 0, none⟩) l.length cp ∧ l.length ≤ cp ∧ cp ≤ maxLen ∧ B ≤ g ∧ g < w.heap.size ∧ ∀ i, i < l.length → w.cell? ⟨g, i, none⟩ = some (.int .u8 (gB l i)) := by
  have hr := h.rd
  have hb := fun i hi => World.ownsRow.lt h i hi
  rcases hr with ⟨_, e⟩ | ⟨_, _, _, e, _⟩ | ⟨g, off, cap, e, h1, h2, hc⟩
  · rw [e] at h0
    exact absurd h0 (Nat.lt_irrefl 0)
  · rw [e] at h0
    exact absurd h0 (Nat.lt_irrefl 0)
  · obtain ⟨_, ho⟩ := h
    rcases ho with ⟨e2, _⟩ | ⟨g2, cap2, cur, e2, _⟩
    · rw [e] at e2
      cases e2
    · rw [e] at e2
      cases e2
      subst e
      have := hb g rfl
      exact ⟨g, cap, rfl, h1, h2, this.1, this.2, fun i hi => by have := hc i hi; rwa [Nat.zero_add] at this⟩
theorem GetM.res_ok {g : GetM} (h : g.e = 0) : g.res.2 = 0 := by unfold GetM.res; rw [if_neg (by simpa using h)]
theorem came_next {s : Nat} {bs bs' : List Int} {P : List PutM} {A : List (Slot × Nat)} {k H k0 n k' H' : Nat} {F : List (List Int)} {g g' : GetM} (h : Inv 0 s bs P A k H F) (he : ∀ m ∈ P, m.live = false) (hP : P.length ≤ 8) (hs : s = 64 ∨ s = 128 ∨ s = 256 ∨ s = 512) (e : GEnded False 0 s bs P A k H F k0 g n bs' k' H' g') {r : Nat} (hc : r = 0 ∨ (g = GetC.init ⟨0, s, 9⟩ ∧ F = [] ∧ k0 = k ∧ Came s A k H (r - 1))) : Came s A k' H' r := by
  rcases hc with rfl | ⟨hg, hF, _, hc⟩
  · trivial
  · cases r with
    | zero => trivial
    | succ r =>
      have e1 : GetC.init ⟨0, s, 9⟩ = ⟨⟨0, s, 9⟩, .hd0, 0, 0, 0, [], false, 10⟩ := by unfold GetC.init; rw [getOk hs (by decide)]; rfl
      subst hg
      exact came_on h he hP (by rw [e1]; exact Int.le_refl 9) (by rw [e1]; rfl) hF e hc
theorem ord_ordd {wm wr : World} {κm κ : Nat → Kd} {s W p c : Nat} {av tv : Value} {ab : Nat → Nat} {ss : List (Nat × PutM)} {n : Nat} {gv : Value} {q : Nat} {gm : GetM} {A : List (Slot × Nat)} {kk H : Nat} {F : List (List Int)} {k0 : Nat} {L : List (Nat × PutM)} {S : SW putMacQ.σ} {FG O R : Nat → Prop} {Lb : List BytV}
    (h : OrdAt wm wr κm κ s W p c av tv ab (keyQ ss) n gv q gm A kk H F k0 L S FG O R) (hd : ∀ x ∈ L, x.2.live = false) (hq : ss.map (·.2) = putsI s Lb) : Ordd (L.map (·.2)) Lb (msgs A) (lastP A) := by
  have he : ∀ m ∈ L.map (·.2), m.live = false := by
    intro m hm
    obtain ⟨x, hx, rfl⟩ := List.mem_map.1 hm
    exact hd x hx
  refine ⟨rfl, h.pg.inv.count he, fun j t d hj => ?_⟩
  obtain ⟨h1, i, m, hm, h2, h3, h4, h5⟩ := h.pg.inv.order he hj
  refine ⟨h1, i, m, ?_⟩
  rw [List.getElem?_map] at hm
  obtain ⟨x, hx, rfl⟩ := Option.map_eq_some_iff.1 hm
  have hk : (keyQ ss)[i]? = some (x.1, x.2.c) := by rw [← h.key]; unfold keyQ; rw [List.getElem?_map, hx]; rfl
  unfold keyQ at hk
  rw [List.getElem?_map] at hk
  obtain ⟨y, hy, e⟩ := Option.map_eq_some_iff.1 hk
  have hy2 : (putsI s Lb)[i]? = some y.2 := by rw [← hq, List.getElem?_map, hy]; rfl
  obtain ⟨b, hb, e2⟩ := putsI_at hy2
  have e3 : y.2.c = x.2.c := by injection e
  have e4 : x.2.c = ⟨0, s, ((1 + i : Nat) : Int), b.b⟩ := by rw [← e3, e2]; rfl
  refine ⟨b, by rw [List.getElem?_map, hx]; rfl, hb, h2, ?_, ?_, h5⟩
  · rw [h3, e4]
    show ((1 + i : Nat) : Int) = 1 + (i : Int)
    omega
  · rw [h4, e4]
theorem ord_rows {wm wr : World} {κm κ : Nat → Kd} {s W p c : Nat} {av tv : Value} {ab : Nat → Nat} {ss : List (Nat × PutM)} {n : Nat} {gv pv : Value} {q : Nat} {gm : GetM} {A : List (Slot × Nat)} {kk H : Nat} {F : List (List Int)} {k0 : Nat} {L : List (Nat × PutM)} {S : SW putMacQ.σ} {FG O R : Nat → Prop}
    (h : OrdAt wm wr κm κ s W p c av tv ab (keyQ ss) n gv q gm A kk H F k0 L S FG O R) (hp : wr.ownsRow 0 38 1 pv ss.length (ss.map ptP)) : ∃ (qs : Nat → Nat) (vs : List Value), (L.map (·.2)).length = ss.length ∧ wr.ownsRow 0 38 1 pv (L.map (·.2)).length vs ∧ (∀ i, i < (L.map (·.2)).length → vs[i]? = some (.pointer (some ⟨qs i, 0, none⟩))) ∧ ∀ i m, (L.map (·.2))[i]? = some m → ∃ F, PutF wr F (qs i) m := by
  have hl : (L.map (·.2)).length = ss.length := by
    rw [List.length_map]
    have := h.len
    simpa [keyQ] using this
  have hk : ∀ (i : Nat) (x : Nat × PutM), L[i]? = some x → ∃ y : Nat × PutM, ss[i]? = some y ∧ y.1 = x.1 := by
    intro i x hx
    have hk : (keyQ ss)[i]? = some (x.1, x.2.c) := by rw [← h.key]; unfold keyQ; rw [List.getElem?_map, hx]; rfl
    unfold keyQ at hk
    rw [List.getElem?_map] at hk
    obtain ⟨y, hy, e⟩ := Option.map_eq_some_iff.1 hk
    exact ⟨y, hy, by injection e⟩
  refine ⟨fun i => ((L[i]?).map (·.1)).getD 0, ss.map ptP, hl, by rw [hl]; exact hp, fun i hi => ?_, fun i m hm => ?_⟩
  · rw [List.length_map] at hi
    obtain ⟨y, hy, e⟩ := hk i _ (List.getElem?_eq_getElem hi)
    rw [List.getElem?_map, hy]
    show some (ptP y) = some (.pointer (some ⟨((L[i]?).map (·.1)).getD 0, 0, none⟩))
    rw [List.getElem?_eq_getElem hi]
    unfold ptP
    rw [e]
    rfl
  · rw [List.getElem?_map] at hm
    obtain ⟨x, hx, rfl⟩ := Option.map_eq_some_iff.1 hm
    obtain ⟨F, hF⟩ := PutF.of h.wo h.pg.acts (i := i) (q := x.1) (m := x.2) hx
    refine ⟨F, ?_⟩
    show PutF wr F (((L[i]?).map (·.1)).getD 0) x.2
    rw [hx]
    exact hF
theorem zs_byte {bs : List Int} {s k : Nat} (h : (bs.drop 0).take s = zs s) (hk : k < s) : gB bs k = 0 := by
  have h1 : gB ((bs.drop 0).take s) k = gB bs k := by rw [gB_takeR _ _ _ hk, gB_drop, Nat.zero_add]
  rw [← h1, h]
  simp [gB, zs, List.getD, hk]
theorem ord_start {wm w7 : World} {κm : Nat → Kd} {s W p c : Nat} {av : Value} {ab : Nat → Nat} {ss : List (Nat × PutM)} {Lb : List BytV} {m : Int} {q : Nat} {w0 : World} (hs : s = 64 ∨ s = 128 ∨ s = 256 ∨ s = 512) (hW : WoIn putFam wm κm W p c av nilSl ab ⟨List.replicate (8 * 128) 0, 0, actsQ (σ := Nat × PutM) ss, 0, []⟩) (b7 : Below wm.heap.size wm w7) (hG : GetF w7 (fun k => wm.heap.size ≤ k ∧ k < w7.heap.size) q (GetC.init ⟨0, s, m⟩)) (hm : 1 ≤ m) (hq : ss.map (·.2) = putsI s Lb) (hL : ∀ x ∈ Lb, BytV.Ok w0 x) (h8 : Lb.length ≤ 8) :
    OrdAt wm w7 κm κm s W p c av nilSl ab (keyQ ss) 0 (.slice none 0 0) q (GetC.init ⟨0, s, m⟩) [] 0 0 [] 0 ss ⟨List.replicate (8 * 128) 0, 0, actsQ (σ := Nat × PutM) ss, 0, []⟩ (fun k => wm.heap.size ≤ k ∧ k < w7.heap.size) (fun _ => False) (fun _ => False) := by
  refine ⟨hW.below b7, ⟨rfl, ?_, GRel.init0 (getOk hs hm) rfl rfl⟩, rfl, fun _ _ => rfl, Below.keeps b7, hG, MsIn.none _ _ _, ?_, fun i _ h => by rcases h with h | h <;> exact h, fun i h => h.elim, by omega, Int.le_refl 0, by show (0 : Int) ≤ _; omega⟩
  · refine Inv.start (N := 8 * 128) (by omega) (by decide) (by omega) (fun i m' hi => ?_)
    rw [hq] at hi
    obtain ⟨x, hx, rfl⟩ := putsI_at hi
    have hil := (List.getElem?_eq_some_iff.1 hx).1
    exact ⟨_, rfl, rfl, rfl, (hL x (List.mem_of_getElem? hx)).b, by show ((1 + i : Nat) : Int) ≤ _; omega⟩
  · rintro i (h | h | h)
    · exact ⟨h, no_big hW h.1⟩
    · exact h.elim
    · exact h.elim
end Go.Proofs.YtknahaaefmlcpaaGreat
