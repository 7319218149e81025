/- Contract of law06.made. Conditions: few jobs, of few bytes. -/
import Derived.Test.YtknahaaefmlcpaaSo
import Derived.Test.YtknahaaefmlcpaaSl
import Derived.Test.YtknahaaefmlcpaaOj
import Derived.Test.YtknahaaefmlcpaaSj
import Derived.Deep.QuietTactic
namespace Go.Proofs.Ytknahaaefmlcpaa
set_option maxRecDepth 100000
open Go.RowKit
set_option linter.unusedVariables false
set_option linter.unusedSimpArgs false
theorem mcinfo : (Try.prog.info? 99).map (fun i => (i.zero, i.size, i.bytes)) = some (some .nilIface, 1, 16) := by kernel_rfl
theorem jbinfo : (Try.prog.info? 61).map (fun i => (i.zero, i.size, i.bytes)) = some (some (.agg #[.int .i64 0, .int .i64 0, .int .i64 0, .slice none 0 0, .slice none 0 0, .bool false]), 6, 80) := by kernel_rfl
/-- Two rows of elements of different types lie in different blocks. -/
theorem own_ne {w : World} {B1 B2 E1 E2 s1 s2 n1 n2 : Nat} {v1 v2 : Value} {x1 x2 : List Value} (h1 : w.ownsRow B1 E1 s1 v1 n1 x1) (h2 : w.ownsRow B2 E2 s2 v2 n2 x2) (hE : E1 ≠ E2) {g : Nat} (hg : v1.ownBlock = some g) : v2.ownBlock ≠ some g := by
  intro hg2
  rcases h1.2 with ⟨rfl, _⟩ | ⟨g1, c1, u1, rfl, _, e1, _⟩
  · cases hg
  rcases h2.2 with ⟨rfl, _⟩ | ⟨g2, c2, u2, rfl, _, e2, _⟩
  · cases hg2
  have a1 : g1 = g := Option.some.inj hg
  have a2 : g2 = g := Option.some.inj hg2
  subst a1 a2
  rw [e1] at e2
  simp only [Option.some.injEq, Obj.cells.injEq] at e2
  exact hE e2.2.1
/-- What a job's machine is about to do. -/
def jbM (k a n : Int) (l : List Int) : CpM := if k % 3 = 0 then ⟨true, a, l, 0, []⟩ else if k % 3 = 1 then ⟨true, a, List.replicate n.toNat 0, 0, []⟩ else ⟨false, a, [], n.toNat, []⟩
def JobV.mac (j : JobV) : CpM := jbM j.k (j.a % 300) (j.n % 60) j.b
theorem JobV.mac_fine {w : World} {j : JobV} (h : JobV.Ok w j) (hl : j.b.length ≤ 60) : j.mac.Fine := by
  unfold JobV.mac jbM
  split
  · exact ⟨h.b, by dsimp only; omega, by dsimp only; omega, by simp, by dsimp only; omega, by dsimp only; omega⟩
  split
  · exact ⟨zeros_is _, by simp; omega, by dsimp only; omega, by simp, by dsimp only; omega, by simp; omega⟩
  · exact ⟨IsB.nil, by simp, by dsimp only; omega, by simp; omega, by dsimp only; omega, by simp; omega⟩
/-- What made has made so far. -/
structure MadeTo (w0 wr : World) (κ : Nat → Kd) (ov jv : Value) (mv : Nat → Value) (Js : List JobV) (jc : List (List Value)) (k : Nat) : Prop where
  oo : wr.ownsRow 0 99 1 ov k ((List.range k).map mv)
  jl : jc.length = k
  jo : wr.ownsRow 0 61 6 jv k jc.flatten
  om : ∀ g, ov.ownBlock = some g → w0.heap.size ≤ g ∧ κ g = .no
  jm : ∀ g, jv.ownBlock = some g → w0.heap.size ≤ g ∧ κ g = .no
  mac : ∀ i J, i < k → Js[i]? = some J → ∃ q, mv i = .iface 84 (.pointer (some ⟨q, 0, none⟩)) ∧ cpFam.inv wr (fun b => κ b = .ma i) q J.mac
  jb : ∀ i J, i < k → Js[i]? = some J → ∃ s0 sl sc, jc[i]? = some [.int .i64 (J.k % 3), .int .i64 (J.a % 300), .int .i64 (J.n % 60), .slice s0 sl sc, .slice none 0 0, .bool false] ∧ OwB 5 0 wr (.slice s0 sl sc) J.b ∧ ∀ g, (Value.slice s0 sl sc).ownBlock = some g → w0.heap.size ≤ g ∧ κ g = .no
  kd : ∀ b, κ b = .no ∨ ((∃ i, κ b = .ma i ∧ i < k) ∧ w0.heap.size ≤ b ∧ b < wr.heap.size)
  bel : Below w0.heap.size w0 wr
theorem OwB.keepK {w w' : World} {B : Nat} {v : Value} {l : List Int} {K : Nat → Prop} (h : OwB 5 B w v l) (k : Keep K w w') (hd : ∀ i, v.ownBlock = some i → ¬ K i) : OwB 5 B w' v l := ownsRow_keep h k hd
/-- Nothing but new blocks. -/
theorem MadeTo.below {w0 wr w' : World} {κ : Nat → Kd} {ov jv : Value} {mv : Nat → Value} {Js : List JobV} {jc : List (List Value)} {k : Nat} (h : MadeTo w0 wr κ ov jv mv Js jc k) (b : Below wr.heap.size wr w') : MadeTo w0 w' κ ov jv mv Js jc k where
  oo := ownsRow_keep h.oo (Below.keeps (M := fun _ => False) b) (fun _ _ => id)
  jl := h.jl
  jo := ownsRow_keep h.jo (Below.keeps (M := fun _ => False) b) (fun _ _ => id)
  om := h.om
  jm := h.jm
  mac := fun i J hi hJ => by
    obtain ⟨q, e, hv⟩ := h.mac i J hi hJ
    exact ⟨q, e, cpFam.keep hv (Below.keeps (M := fun _ => False) b) (fun _ _ => id)⟩
  jb := fun i J hi hJ => by
    obtain ⟨s0, sl, sc, e, ho, hg⟩ := h.jb i J hi hJ
    exact ⟨s0, sl, sc, e, OwB.keepK ho (Below.keeps (M := fun _ => False) b) (fun _ _ => id), hg⟩
  kd := fun x => by
    have := b.size
    exact (h.kd x).imp id fun ⟨h1, h2, h3⟩ => ⟨h1, h2, by omega⟩
  bel := h.bel.trans (b.mono h.bel.size)
theorem MadeTo.bel' {w0 wr : World} {κ : Nat → Kd} {ov jv : Value} {mv : Nat → Value} {Js : List JobV} {jc : List (List Value)} {k : Nat} (h : MadeTo w0 wr κ ov jv mv Js jc k) : Below w0.heap.size w0 wr := h.bel
/-- One job more. -/
theorem MadeTo.next {w0 w2 w3 w4 w5 : World} {κ : Nat → Kd} {ov jv ov' jv' : Value} {mv : Nat → Value} {Js : List JobV} {jc : List (List Value)} {k : Nat} (M : MadeTo w0 w2 κ ov jv mv Js jc k) {J : JobV} (hJ : Js[k]? = some J) {ba : Option Addr} {bl bc q : Nat}
    (K3 : Keep (fun i => jv.ownBlock = some i) w2 w3) (o3 : w3.ownsRow 0 61 6 jv' (k + 1) (jc.flatten ++ [.int .i64 (J.k % 3), .int .i64 (J.a % 300), .int .i64 (J.n % 60), .slice ba bl bc, .slice none 0 0, .bool false])) (e3 : jv'.ownBlock = jv.ownBlock ∨ ∃ i, jv'.ownBlock = some i ∧ w2.heap.size ≤ i)
    (O3 : OwB 5 0 w3 (.slice ba bl bc) J.b) (kn : ∀ g, (Value.slice ba bl bc).ownBlock = some g → w0.heap.size ≤ g ∧ κ g = .no)
    (b4 : Below w3.heap.size w3 w4) (cp : cpFam.inv w4 (fun i => w3.heap.size ≤ i ∧ i < w4.heap.size) q J.mac)
    (K5 : Keep (fun i => ov.ownBlock = some i) w4 w5) (o5 : w5.ownsRow 0 99 1 ov' (k + 1) ((List.range k).map mv ++ [.iface 84 (.pointer (some ⟨q, 0, none⟩))])) (e5 : ov'.ownBlock = ov.ownBlock ∨ ∃ i, ov'.ownBlock = some i ∧ w4.heap.size ≤ i) :
    ∃ κ' mv' jc', MadeTo w0 w5 κ' ov' jv' mv' Js jc' (k + 1) := by
  have s3 := K3.size
  have s4 := b4.size
  have s5 := K5.size
  have s0 := M.bel.size
  have lt3 : ∀ g, jv'.ownBlock = some g → g < w3.heap.size := fun g hg => (World.ownsRow.lt o3 g hg).2
  have ltb : ∀ g, (Value.slice ba bl bc).ownBlock = some g → g < w3.heap.size := fun g hg => (World.ownsRow.lt O3 g hg).2
  have old : ∀ b, b < w3.heap.size → kdM κ k w3.heap.size w4.heap.size b = κ b := fun b hb => kdM_old hb
  have kno : ∀ b, w2.heap.size ≤ b → κ b = .no := by
    intro b hb
    rcases M.kd b with h | ⟨_, _, h⟩
    · exact h
    · omega
  have nma : ∀ b i, κ b = .ma i → b < w2.heap.size ∧ jv.ownBlock ≠ some b ∧ ov.ownBlock ≠ some b := by
    intro b i h
    refine ⟨?_, fun e => ?_, fun e => ?_⟩
    · rcases M.kd b with h' | ⟨_, _, h'⟩
      · rw [h] at h'
        cases h'
      · exact h'
    · rw [(M.jm b e).2] at h
      cases h
    · rw [(M.om b e).2] at h
      cases h
  have K24 : Keep (fun i => jv.ownBlock = some i) w2 w4 := K3.trans (Below.keeps b4)
  have oo4 : w4.ownsRow 0 99 1 ov k ((List.range k).map mv) := ownsRow_keep M.oo K24 (fun i hi => own_ne M.oo M.jo (by decide) hi)
  have jo4 : w4.ownsRow 0 61 6 jv' (k + 1) _ := ownsRow_keep o3 (Below.keeps (M := fun _ => False) b4) (fun _ _ => id)
  have O4 : OwB 5 0 w4 (.slice ba bl bc) J.b := OwB.keepK O3 (Below.keeps (M := fun _ => False) b4) (fun _ _ => id)
  refine ⟨kdM κ k w3.heap.size w4.heap.size, fun i => if i = k then .iface 84 (.pointer (some ⟨q, 0, none⟩)) else mv i, jc ++ [[.int .i64 (J.k % 3), .int .i64 (J.a % 300), .int .i64 (J.n % 60), .slice ba bl bc, .slice none 0 0, .bool false]], ?_, ?_, ?_, ?_, ?_, ?_, ?_, ?_, ?_⟩
  · have e : (List.range (k + 1)).map (fun i => if i = k then Value.iface 84 (.pointer (some ⟨q, 0, none⟩)) else mv i) = (List.range k).map mv ++ [.iface 84 (.pointer (some ⟨q, 0, none⟩))] := by
      rw [List.range_succ, List.map_append]
      congr 1
      · apply List.map_congr_left
        intro i hi
        have : i < k := by simpa using hi
        rw [if_neg (by omega)]
      · simp
    rw [e]
    exact o5
  · simp [M.jl]
  · have e : (jc ++ [[Value.int .i64 (J.k % 3), .int .i64 (J.a % 300), .int .i64 (J.n % 60), .slice ba bl bc, .slice none 0 0, .bool false]]).flatten = jc.flatten ++ [.int .i64 (J.k % 3), .int .i64 (J.a % 300), .int .i64 (J.n % 60), .slice ba bl bc, .slice none 0 0, .bool false] := by simp
    rw [e]
    exact ownsRow_keep jo4 K5 (fun i hi h => own_ne oo4 jo4 (by decide) h hi)
  · intro g hg
    have hno : κ g = .no ∧ w0.heap.size ≤ g ∧ (g < w3.heap.size ∨ w4.heap.size ≤ g) := by
      rcases e5 with e | ⟨i, e, hi⟩
      · have h1 := M.om g (e ▸ hg)
        have h2 := (World.ownsRow.lt M.oo g (e ▸ hg)).2
        exact ⟨h1.2, h1.1, .inl (by omega)⟩
      · rw [e] at hg
        have hg := Option.some.inj hg
        exact ⟨kno g (by omega), by omega, .inr (by omega)⟩
    refine ⟨hno.2.1, ?_⟩
    unfold kdM
    rw [if_neg (by omega)]
    exact hno.1
  · intro g hg
    have hl := lt3 g hg
    rw [old g hl]
    rcases e3 with e | ⟨i, e, hi⟩
    · exact M.jm g (e ▸ hg)
    · rw [e] at hg
      have hg := Option.some.inj hg
      exact ⟨by omega, kno g (by omega)⟩
  · intro i J' hi hJ'
    by_cases hik : i = k
    · subst hik
      rw [hJ] at hJ'
      obtain rfl := Option.some.inj hJ'
      refine ⟨q, by simp, cpFam.mono (cpFam.keep cp K5 (fun b hb h => ?_)) (fun b hb => ?_) (fun b hb => ?_)⟩
      · have := (World.ownsRow.lt M.oo b h).2
        omega
      · unfold kdM
        rw [if_pos hb]
      · unfold kdM at hb
        split at hb
        · omega
        · have := (nma b i hb).1
          omega
    · obtain ⟨q', e, hv⟩ := M.mac i J' (by omega) hJ'
      refine ⟨q', by simp [hik, e], cpFam.mono (cpFam.keep (cpFam.keep hv K24 (fun b hb h => (nma b i hb).2.1 h)) K5 (fun b hb h => (nma b i hb).2.2 h)) (fun b hb => ?_) (fun b hb => ?_)⟩
      · rw [old b (by have := (nma b i hb).1; omega)]
        exact hb
      · unfold kdM at hb
        split at hb
        · omega
        · have := (nma b i hb).1
          omega
  · intro i J' hi hJ'
    by_cases hik : i = k
    · subst hik
      rw [hJ] at hJ'
      obtain rfl := Option.some.inj hJ'
      refine ⟨ba, bl, bc, by rw [List.getElem?_append_right (by rw [M.jl]; exact Nat.le_refl _), M.jl]; simp, OwB.keepK O4 K5 (fun g hg h => own_ne oo4 O4 (by decide) h hg), fun g hg => ?_⟩
      rw [old g (ltb g hg)]
      exact kn g hg
    · obtain ⟨s0', sl', sc', e, ho, hg⟩ := M.jb i J' (by omega) hJ'
      have ho4 : OwB 5 0 w4 (.slice s0' sl' sc') J'.b := OwB.keepK ho K24 (fun g hg h => own_ne M.jo ho (by decide) h hg)
      refine ⟨s0', sl', sc', by rw [List.getElem?_append_left (by rw [M.jl]; omega)]; exact e, OwB.keepK ho4 K5 (fun g hg h => own_ne oo4 ho4 (by decide) h hg), fun g hg' => ?_⟩
      have := (World.ownsRow.lt ho g hg').2
      rw [old g (by omega)]
      exact hg g hg'
  · intro b
    by_cases hb : w3.heap.size ≤ b ∧ b < w4.heap.size
    · right
      refine ⟨⟨k, ?_, by omega⟩, by omega, by omega⟩
      unfold kdM
      rw [if_pos hb]
    · have e : kdM κ k w3.heap.size w4.heap.size b = κ b := by unfold kdM; rw [if_neg hb]
      rw [e]
      rcases M.kd b with h | ⟨⟨i, h1, h2⟩, h3, h4⟩
      · exact .inl h
      · exact .inr ⟨⟨i, h1, by omega⟩, h3, by omega⟩
  · have k1 : Below w0.heap.size w0 w4 := (M.bel.trans ((K24.below (B := w0.heap.size) (by omega) (fun i hi h => by have := (M.jm i h).1; omega))))
    exact k1.trans (K5.below (B := w0.heap.size) (by omega) (fun i hi h => by have := (M.om i h).1; omega))
theorem mkIn (at0 : Int) (s0 : Option Addr) (sl sc : Nat) (l : List Int) (w : World) (h : RdB w (.slice s0 sl sc) l) (hl : l.length ≤ 131072) :
    Calls Try.prog 29 #[.int .i64 at0, .slice s0 sl sc] w fun e w' => ∃ q, e = .returned (.pointer (some ⟨q, 0, none⟩)) ∧ Below w.heap.size w w' ∧ Cp w' (fun i => w.heap.size ≤ i ∧ i < w'.heap.size) q ⟨true, at0, l, 0, []⟩ := by
  refine (cpIn_any at0 s0 sl sc l w h hl).mono ?_
  rintro e w1 ⟨q, O, rfl, hq, b1, st, hO⟩
  exact ⟨q, rfl, b1, cp_made_wr 0 hq st hO⟩
theorem mkZero (at0 n : Int) (w : World) (hn : 0 ≤ n) (hn' : n ≤ 131072) :
    Calls Try.prog 30 #[.int .i64 at0, .int .i64 n] w fun e w' => ∃ q, e = .returned (.pointer (some ⟨q, 0, none⟩)) ∧ Below w.heap.size w w' ∧ Cp w' (fun i => w.heap.size ≤ i ∧ i < w'.heap.size) q ⟨true, at0, List.replicate n.toNat 0, 0, []⟩ := by
  obtain ⟨N, rfl⟩ := Int.eq_ofNat_of_zero_le hn
  refine (cpZero_any at0 N w (by omega)).mono ?_
  rintro e w1 ⟨q, O, rfl, hq, b1, st, hO⟩
  exact ⟨q, rfl, b1, cp_made_wr 0 hq (by rw [Int.toNat_natCast]; exact st) hO⟩
theorem mkOut (at0 n : Int) (w : World) (hn : 0 ≤ n) (hn' : n ≤ 131072) :
    Calls Try.prog 31 #[.int .i64 at0, .int .i64 n] w fun e w' => ∃ q, e = .returned (.pointer (some ⟨q, 0, none⟩)) ∧ Below w.heap.size w w' ∧ Cp w' (fun i => w.heap.size ≤ i ∧ i < w'.heap.size) q ⟨false, at0, [], n.toNat, []⟩ := by
  obtain ⟨N, rfl⟩ := Int.eq_ofNat_of_zero_le hn
  refine (cpOut_any at0 N w (by omega)).mono ?_
  rintro e w1 ⟨q, O, rfl, hq, b1, st, hO⟩
  exact ⟨q, rfl, b1, cp_made_rd [] hq (by rw [Int.toNat_natCast]; exact st) hO⟩
set_option maxHeartbeats 1000000 in
theorem made06_row (g off cap : Nat) (Js : List JobV) (w : World) (hcell : ∀ (i : Nat) (l : List Value), (Js.map JobV.cs)[i]? = some l → ∀ (j : Nat) (u : Value), l[j]? = some u → w.cell? ⟨g, off + i * 4 + j, none⟩ = some u) (hc1 : Js.length ≤ cap) (hc2 : cap ≤ maxLen) (hJ : ∀ j ∈ Js, JobV.Ok w j) (hb : ∀ j ∈ Js, j.b.length ≤ 60) (hn : Js.length ≤ 100) :
    Calls Try.prog 7 #[.slice (some ⟨g, off, none⟩) Js.length cap] w fun e w' => ∃ ov jv κ mv jc, e = .returned (.tuple #[ov, jv]) ∧ MadeTo w w' κ ov jv mv Js jc Js.length := by
  obtain ⟨i0, hi, hz0, hz1, hz2⟩ := info_parts mcinfo
  obtain ⟨i1, hi', hz0', hz1', hz2'⟩ := info_parts jbinfo
  have HC := Lib.hid hcell
  have HJ := Lib.hid hJ
  have HBb := Lib.hid hb
  obtain ⟨n, hnn⟩ : ∃ n, n = Js.length := ⟨_, rfl⟩
  rw [← hnn] at hc1 hn ⊢
  have HN := Lib.hid hnn
  clear hcell hJ hb hnn
  go_enter Try.func7, Try.ntmps7
  go_wp2_with fail
  go_loopw [4, 5, 13] (fun ov jv i wr => ∃ (k : Nat) (κ : Nat → Kd) (mv : Nat → Value) (jc : List (List Value)), k ≤ n ∧ i = .int .i64 k ∧ MadeTo w wr κ ov jv mv Js jc k) (fun _ _ i _ => n - (intOf i).toNat)
  case atStart => exact ⟨0, fun _ => .no, fun _ => .nilIface, [], by omega, rfl, ⟨World.ownsRow_nil _ _ _ _, rfl, World.ownsRow_nil _ _ _ _, (fun g h => by cases h), (fun g h => by cases h), (fun i J h => by omega), (fun i J h => by omega), (fun b => .inl rfl), Below.refl _ _⟩⟩
  case round =>
    obtain ⟨k, κ, mv, jc, hk, rfl, hM⟩ := hrel
    have HM := Lib.hid hM
    have hbs := hM.bel.size
    by_cases hlt : k < n
    · obtain ⟨J, hJk⟩ : ∃ J, Js[k]? = some J := ⟨_, List.getElem?_eq_getElem (by rw [← HN.out]; exact hlt)⟩
      have hJm : J ∈ Js := List.mem_of_getElem? hJk
      have JOK := Lib.hid (HJ.out J hJm)
      have JL := Lib.hid (HBb.out J hJm)
      have hcs := HC.out k J.cs (by rw [List.getElem?_map, hJk]; rfl)
      have hcw : ∀ j u, J.cs[j]? = some u → wr.cell? ⟨g, off + k * 4 + j, none⟩ = some u := fun j u hj => (hM.bel.cell (p := ⟨g, off + k * 4 + j, none⟩) (World.block_lt_of_cell? w _ (hcs j u hj))).trans (hcs j u hj)
      have d0 : wr.cell? ⟨g, off + k * 4, none⟩ = _ := hcw 0 _ rfl
      have d1 := hcw 1 _ rfl
      have d2 := hcw 2 _ rfl
      have d3 := hcw 3 _ rfl
      have hgl : g < wr.heap.size := World.block_lt_of_cell? _ _ d0
      obtain ⟨sa, sl, sc, hs⟩ := JOK.out.s
      obtain ⟨jk, ja, jn, js, jbb⟩ := J
      dsimp only at hs
      subst hs
      have hjk := JOK.out.k
      have hja := JOK.out.a
      have hjn := JOK.out.n
      dsimp only at hjk hja hjn d0 d1 d2 d3
      clear hcs hcw hM hJm
      have m3 : jk.tmod 3 = jk % 3 := Int.tmod_eq_emod_of_nonneg (by omega)
      have m300 : ja.tmod 300 = ja % 300 := Int.tmod_eq_emod_of_nonneg (by omega)
      have m60 : jn.tmod 60 = jn % 60 := Int.tmod_eq_emod_of_nonneg (by omega)
      obtain ⟨oa, ol, oc, rfl⟩ := own_isSl HM.out.oo
      obtain ⟨ra, rl, rc, rfl⟩ := own_isSl HM.out.jo
      go_wp2_with fail
      go_quiet (fail)
      obtain ⟨w1, hw1⟩ : ∃ w1 : World, w1 = (wr.alloc (Obj.cells #[.int .u8 jk, .int .u16 ja, .int .u16 jn, .slice sa sl sc] 28)).drewN nq := ⟨_, rfl⟩
      have b1 : Below wr.heap.size wr w1 := by rw [hw1]; exact bel_drewN nq ((Below.refl _ _).alloc (Nat.le_refl _) _)
      have JB := Lib.hid (show Blk w1 wr.heap.size [.int .u8 jk, .int .u16 ja, .int .u16 jn, .slice sa sl sc] by rw [hw1]; exact Blk.drewN nq (Blk.made wr _ _))
      have z1 : w1.heap.size = wr.heap.size + 1 := by rw [hw1]; simp [World.drewN]
      rw [← hw1]
      have M1 := Lib.hid (HM.out.below b1)
      have B1 := Lib.hid b1
      have RB := Lib.hid (show RdB w1 (.slice sa sl sc) jbb from (JOK.out.r.below HM.out.bel').below b1)
      clear hw1 b1 d0 d1 d2 d3
      have OE := Lib.hid (show OwB 5 w1.heap.size (w1.alloc (Obj.cells #[] 5)) (.slice (some ⟨w1.heap.size, 0, none⟩) 0 0) [] from own_empty _ _ _ _ #[] (by rw [(MapKept.heap_alloc w1 _).1]) (Nat.le_refl _))
      have RB2 := Lib.hid (RB.out.below ((Below.refl _ _).alloc (Nat.le_refl _) (Obj.cells #[] 5)))
      obtain ⟨x0, x1, x2, x3⟩ : w1.cell? ⟨wr.heap.size, 0, none⟩ = some (.int .u8 jk) ∧ w1.cell? ⟨wr.heap.size, 1, none⟩ = some (.int .u16 ja) ∧ w1.cell? ⟨wr.heap.size, 2, none⟩ = some (.int .u16 jn) ∧ w1.cell? ⟨wr.heap.size, 3, none⟩ = some (.slice sa sl sc) := ⟨JB.out.cell 0, JB.out.cell 1, JB.out.cell 2, JB.out.cell 3⟩
      have y1 : wr.heap.size < w1.heap.size := by omega
      have Z1 := Lib.hid z1
      clear z1
      go_wp2_with (refine list_app rfl (.tmp 25) (.tmp 27) rfl w1.heap.size _ _ [] jbb rfl OE.out rfl RB2.out (by have := JL.out; simp; omega) (by simp) ?_)
      intro v2 w2 p2
      obtain ⟨ba, bl, bc, rfl⟩ := p2.1.isSliceC
      have B2 := Lib.hid (AppB.below p2 ((Below.refl _ _).alloc (Nat.le_refl _) _) (by simp) (fun i hi => by have h : w1.heap.size = i := Option.some.inj hi; omega) : Below w1.heap.size w1 w2)
      have O2 := Lib.hid (show OwB 5 w1.heap.size w2 (.slice ba bl bc) jbb by simpa using p2.1)
      have M2 := Lib.hid (M1.out.below B2.out)
      have JB2 := Lib.hid (JB.out.below B2.out y1)
      have s2 := B2.out.size
      clear p2 OE RB2 x0 x1 x2 x3 M1
      obtain ⟨x0, x1, x2, x3⟩ : w2.cell? ⟨wr.heap.size, 0, none⟩ = some (.int .u8 jk) ∧ w2.cell? ⟨wr.heap.size, 1, none⟩ = some (.int .u16 ja) ∧ w2.cell? ⟨wr.heap.size, 2, none⟩ = some (.int .u16 jn) ∧ w2.cell? ⟨wr.heap.size, 3, none⟩ = some (.slice sa sl sc) := ⟨JB2.out.cell 0, JB2.out.cell 1, JB2.out.cell 2, JB2.out.cell 3⟩
      have y2 : wr.heap.size < w2.heap.size := by omega
      have b3 : Below w2.heap.size w2 (w2.alloc (Obj.cells #[.int .i64 (jk % 3), .int .i64 (ja % 300), .int .i64 (jn % 60), .slice ba bl bc, .slice none 0 0, .bool false] 61)) := (Below.refl _ _).alloc (Nat.le_refl _) _
      have JO := Lib.hid (M2.out.below b3).jo
      have NB := Lib.hid (show Blk (w2.alloc (Obj.cells #[.int .i64 (jk % 3), .int .i64 (ja % 300), .int .i64 (jn % 60), .slice ba bl bc, .slice none 0 0, .bool false] 61)) w2.heap.size [.int .i64 (jk % 3), .int .i64 (ja % 300), .int .i64 (jn % 60), .slice ba bl bc, .slice none 0 0, .bool false] from Blk.made w2 _ _)
      have B3 := Lib.hid b3
      clear b3
      go_wp2_with (refine list_app1 rfl (.tmp 29) (.tmp 38) 34 61 rfl Try.underlying34 hi' hz0' hz1' hz2' rfl (by decide) (.slice ra rl rc) k jc.flatten rfl JO.out w2.heap.size [.int .i64 (jk % 3), .int .i64 (ja % 300), .int .i64 (jn % 60), .slice ba bl bc, .slice none 0 0, .bool false] rfl NB.out rfl (by simp [Value.oneCell']) (by omega) (by unfold maxLen; omega) ?_)
      intro v3 w3 o3 g3 e3
      obtain ⟨ya, yl, yc, rfl⟩ := own_isSl o3
      have K3 := Lib.hid ((Below.keeps B3.out).trans (grown_keep g3) : Keep (fun i => (Value.slice ra rl rc).ownBlock = some i) w2 w3)
      have jlt : ∀ i, (Value.slice ra rl rc).ownBlock = some i → i < wr.heap.size := fun i h => (World.ownsRow.lt HM.out.jo i h).2
      have JB3 := Lib.hid (JB2.out.keep K3.out (fun h => by have := jlt _ h; omega))
      have O3 := Lib.hid (show OwB 5 0 w3 (.slice ba bl bc) jbb from OwB.keepK (OwB.mono O2.out (Nat.zero_le _)) K3.out (fun i hi h => by have := jlt _ h; have := (World.ownsRow.lt O2.out i hi).1; omega))
      have kn := Lib.hid (show ∀ i, (Value.slice ba bl bc).ownBlock = some i → w.heap.size ≤ i ∧ κ i = .no from fun i hi => by
        have h1 := (World.ownsRow.lt O2.out i hi).1
        refine ⟨by omega, ?_⟩
        rcases HM.out.kd i with h | ⟨_, _, h⟩
        · exact h
        · omega)
      have E3 := Lib.hid (show (Value.slice ya yl yc).ownBlock = (Value.slice ra rl rc).ownBlock ∨ ∃ i, (Value.slice ya yl yc).ownBlock = some i ∧ w2.heap.size ≤ i from e3.imp id fun h => ⟨_, h, by first | omega | (rw [World.size_alloc]; omega)⟩)
      have R3 := Lib.hid o3
      have s3 := K3.out.size
      have x0 := JB3.out.cell 0
      simp only [List.getElem?_cons_zero] at x0
      have y3 : wr.heap.size < w3.heap.size := by omega
      clear o3 g3 e3 JO NB x1 x2 x3 jlt
      by_cases c0 : jk % 3 = 0
      · have q0 : (jk % 3 == 0) = true := by simp [c0]
        have hmac : JobV.mac ⟨jk, ja, jn, .slice sa sl sc, jbb⟩ = ⟨true, ja % 300, jbb, 0, []⟩ := by unfold JobV.mac jbM; rw [if_pos c0]
        have HMC := Lib.hid hmac
        clear c0 hmac
        go_wp2_with fail
        refine (mkIn (ja % 300) ba bl bc jbb _ O3.out.rd (by have := JL.out; omega)).mono ?_
        rintro e w4 ⟨q, rfl, b4, cp⟩
        have B4 := Lib.hid b4
        have CP := Lib.hid (show cpFam.inv w4 (fun i => w3.heap.size ≤ i ∧ i < w4.heap.size) q (JobV.mac ⟨jk, ja, jn, .slice sa sl sc, jbb⟩) from ⟨by rw [HMC.out]; exact cp, JobV.mac_fine JOK.out JL.out⟩)
        have b5 : Below w4.heap.size w4 (w4.alloc (Obj.cells #[.iface 84 (.pointer (some ⟨q, 0, none⟩))] 99)) := (Below.refl _ _).alloc (Nat.le_refl _) _
        have OO := Lib.hid (ownsRow_keep (ownsRow_keep (ownsRow_keep M2.out.oo K3.out (fun i hi => own_ne M2.out.oo M2.out.jo (by decide) hi)) (Below.keeps (M := fun _ => False) b4) (fun _ _ => id)) (Below.keeps (M := fun _ => False) b5) (fun _ _ => id))
        have NB := Lib.hid (show Blk (w4.alloc (Obj.cells #[.iface 84 (.pointer (some ⟨q, 0, none⟩))] 99)) w4.heap.size [.iface 84 (.pointer (some ⟨q, 0, none⟩))] from Blk.made w4 _ _)
        have B5 := Lib.hid b5
        have s4 := b4.size
        clear b4 cp b5
        go_wp2_with (refine list_app1 rfl (.tmp 52) (.tmp 57) 33 99 rfl Try.underlying33 hi hz0 hz1 hz2 rfl (by decide) (.slice oa ol oc) k ((List.range k).map mv) rfl OO.out w4.heap.size [.iface 84 (.pointer (some ⟨q, 0, none⟩))] rfl NB.out rfl (by simp [Value.oneCell']) (by omega) (by unfold maxLen; omega) ?_)
        intro v5 w5 o5 g5 e5
        obtain ⟨za, zl, zc, rfl⟩ := own_isSl o5
        obtain ⟨κ', mv', jc', hM'⟩ := M2.out.next hJk K3.out R3.out E3.out O3.out kn.out B4.out CP.out ((Below.keeps B5.out).trans (grown_keep g5)) o5 (e5.imp id fun h => ⟨_, h, by first | omega | (rw [World.size_alloc]; omega)⟩)
        have HM' := Lib.hid hM'
        clear hM' o5 g5 e5
        go_wp2
        exact ⟨⟨k + 1, κ', mv', jc', by omega, by go_num, HM'.out⟩, by simp [intOf]; omega⟩
      · by_cases c1 : jk % 3 = 1
        · have q0 : (jk % 3 == 0) = false := by simp [c0]
          have q1 : (jk % 3 == 1) = true := by simp [c1]
          have hmac : JobV.mac ⟨jk, ja, jn, .slice sa sl sc, jbb⟩ = ⟨true, ja % 300, List.replicate (jn % 60).toNat 0, 0, []⟩ := by unfold JobV.mac jbM; rw [if_neg c0, if_pos c1]
          have HMC := Lib.hid hmac
          clear c0 c1 hmac
          go_wp2_with fail
          refine (mkZero (ja % 300) (jn % 60) _ (by omega) (by omega)).mono ?_
          rintro e w4 ⟨q, rfl, b4, cp⟩
          have B4 := Lib.hid b4
          have CP := Lib.hid (show cpFam.inv w4 (fun i => w3.heap.size ≤ i ∧ i < w4.heap.size) q (JobV.mac ⟨jk, ja, jn, .slice sa sl sc, jbb⟩) from ⟨by rw [HMC.out]; exact cp, JobV.mac_fine JOK.out JL.out⟩)
          have b5 : Below w4.heap.size w4 (w4.alloc (Obj.cells #[.iface 84 (.pointer (some ⟨q, 0, none⟩))] 99)) := (Below.refl _ _).alloc (Nat.le_refl _) _
          have OO := Lib.hid (ownsRow_keep (ownsRow_keep (ownsRow_keep M2.out.oo K3.out (fun i hi => own_ne M2.out.oo M2.out.jo (by decide) hi)) (Below.keeps (M := fun _ => False) b4) (fun _ _ => id)) (Below.keeps (M := fun _ => False) b5) (fun _ _ => id))
          have NB := Lib.hid (show Blk (w4.alloc (Obj.cells #[.iface 84 (.pointer (some ⟨q, 0, none⟩))] 99)) w4.heap.size [.iface 84 (.pointer (some ⟨q, 0, none⟩))] from Blk.made w4 _ _)
          have B5 := Lib.hid b5
          have s4 := b4.size
          clear b4 cp b5
          go_wp2_with (refine list_app1 rfl (.tmp 61) (.tmp 66) 33 99 rfl Try.underlying33 hi hz0 hz1 hz2 rfl (by decide) (.slice oa ol oc) k ((List.range k).map mv) rfl OO.out w4.heap.size [.iface 84 (.pointer (some ⟨q, 0, none⟩))] rfl NB.out rfl (by simp [Value.oneCell']) (by omega) (by unfold maxLen; omega) ?_)
          intro v5 w5 o5 g5 e5
          obtain ⟨za, zl, zc, rfl⟩ := own_isSl o5
          obtain ⟨κ', mv', jc', hM'⟩ := M2.out.next hJk K3.out R3.out E3.out O3.out kn.out B4.out CP.out ((Below.keeps B5.out).trans (grown_keep g5)) o5 (e5.imp id fun h => ⟨_, h, by first | omega | (rw [World.size_alloc]; omega)⟩)
          have HM' := Lib.hid hM'
          clear hM' o5 g5 e5
          go_wp2
          exact ⟨⟨k + 1, κ', mv', jc', by omega, by go_num, HM'.out⟩, by simp [intOf]; omega⟩
        · have q0 : (jk % 3 == 0) = false := by simp [c0]
          have q1 : (jk % 3 == 1) = false := by simp [c1]
          have hmac : JobV.mac ⟨jk, ja, jn, .slice sa sl sc, jbb⟩ = ⟨false, ja % 300, [], (jn % 60).toNat, []⟩ := by unfold JobV.mac jbM; rw [if_neg c0, if_neg c1]
          have HMC := Lib.hid hmac
          clear c0 c1 hmac
          go_wp2_with fail
          refine (mkOut (ja % 300) (jn % 60) _ (by omega) (by omega)).mono ?_
          rintro e w4 ⟨q, rfl, b4, cp⟩
          have B4 := Lib.hid b4
          have CP := Lib.hid (show cpFam.inv w4 (fun i => w3.heap.size ≤ i ∧ i < w4.heap.size) q (JobV.mac ⟨jk, ja, jn, .slice sa sl sc, jbb⟩) from ⟨by rw [HMC.out]; exact cp, JobV.mac_fine JOK.out JL.out⟩)
          have b5 : Below w4.heap.size w4 (w4.alloc (Obj.cells #[.iface 84 (.pointer (some ⟨q, 0, none⟩))] 99)) := (Below.refl _ _).alloc (Nat.le_refl _) _
          have OO := Lib.hid (ownsRow_keep (ownsRow_keep (ownsRow_keep M2.out.oo K3.out (fun i hi => own_ne M2.out.oo M2.out.jo (by decide) hi)) (Below.keeps (M := fun _ => False) b4) (fun _ _ => id)) (Below.keeps (M := fun _ => False) b5) (fun _ _ => id))
          have NB := Lib.hid (show Blk (w4.alloc (Obj.cells #[.iface 84 (.pointer (some ⟨q, 0, none⟩))] 99)) w4.heap.size [.iface 84 (.pointer (some ⟨q, 0, none⟩))] from Blk.made w4 _ _)
          have B5 := Lib.hid b5
          have s4 := b4.size
          clear b4 cp b5
          go_wp2_with (refine list_app1 rfl (.tmp 43) (.tmp 48) 33 99 rfl Try.underlying33 hi hz0 hz1 hz2 rfl (by decide) (.slice oa ol oc) k ((List.range k).map mv) rfl OO.out w4.heap.size [.iface 84 (.pointer (some ⟨q, 0, none⟩))] rfl NB.out rfl (by simp [Value.oneCell']) (by omega) (by unfold maxLen; omega) ?_)
          intro v5 w5 o5 g5 e5
          obtain ⟨za, zl, zc, rfl⟩ := own_isSl o5
          obtain ⟨κ', mv', jc', hM'⟩ := M2.out.next hJk K3.out R3.out E3.out O3.out kn.out B4.out CP.out ((Below.keeps B5.out).trans (grown_keep g5)) o5 (e5.imp id fun h => ⟨_, h, by first | omega | (rw [World.size_alloc]; omega)⟩)
          have HM' := Lib.hid hM'
          clear hM' o5 g5 e5
          go_wp2
          exact ⟨⟨k + 1, κ', mv', jc', by omega, by go_num, HM'.out⟩, by simp [intOf]; omega⟩
    · obtain rfl : k = n := by omega
      clear hlt
      go_wp2
      go_ret2
      exact ⟨_, _, κ, mv, jc, rfl, HM.out⟩
end Go.Proofs.Ytknahaaefmlcpaa
