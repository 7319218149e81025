/- Two worlds side by side: the scheduler's and the reference's. What a Robin leaves of few bytes. Conditions: as each says. -/
import Derived.Test.YtknahaaefmlcpaaJd
import Derived.Deep.OwnRows
namespace Go.Proofs.Ytknahaaefmlcpaa
set_option maxRecDepth 100000
open Go.RowKit
set_option linter.unusedVariables false
set_option linter.unusedSimpArgs false
theorem row_keeps (M : Mac) (most : Int) (I : SW M.σ → Int → Prop) (hI : ∀ S n (j : Nat), I S n → n < most → I (M.pick S 0 j 0).1 (n + 1)) : ∀ (l : List Nat) (S : SW M.σ) (n : Int) (g : Bool), I S n → I (M.row most l S n g).1 (M.row most l S n g).2.1
  | [], S, n, g, h => h
  | i :: r, S, n, g, h => by
    unfold Mac.row
    split
    · exact row_keeps M most I hI r S n g h
    split
    · exact h
    · exact row_keeps M most I hI r _ _ _ (hI S n i h (by omega))
theorem rob_keeps (M : Mac) (most : Int) (I : SW M.σ → Int → Prop) (hI : ∀ S n (j : Nat), I S n → n < most → I (M.pick S 0 j 0).1 (n + 1)) : ∀ (f : Nat) (S : SW M.σ) (n : Int), I S n → I (M.rob most f S n).1 (M.rob most f S n).2
  | 0, S, n, h => h
  | f + 1, S, n, h => by
    unfold Mac.rob
    split
    · exact rob_keeps M most I hI f _ _ (row_keeps M most I hI _ S n false h)
    · exact row_keeps M most I hI _ S n false h
/-- Machines that are copies, fine; few bytes told. -/
structure FewS (t0 : Nat) (most : Int) (S : SW CpM) (n : Int) : Prop where
  tr : (S.tr.length : Int) ≤ t0 + n
  n0 : 0 ≤ n
  n1 : n ≤ max most 0
  ev : ∀ e ∈ S.tr, e.few
  fine : ∀ a ∈ S.acts, ∀ s, a.m = some s → CpM.Fine s
  isb : IsB S.bs
theorem cp_act (S : SW CpM) (k a : Int) (hf : ∀ a ∈ S.acts, ∀ s, a.m = some s → CpM.Fine s) (hb : IsB S.bs) :
    ((cpMac.act S k a).2.1.1.b.length ≤ 70368744177664 ∧ (cpMac.act S k a).2.1.2.b.length ≤ 70368744177664) ∧ (∀ b ∈ (cpMac.act S k a).1.acts, ∀ s, b.m = some s → CpM.Fine s) ∧ IsB (cpMac.act S k a).1.bs := by
  have z : ((aaZ.b.length ≤ 70368744177664) ∧ (anZ.b.length ≤ 70368744177664)) := by simp [aaZ, anZ]
  unfold Mac.act
  split
  · exact ⟨z, hf, hb⟩
  split
  · exact ⟨z, hf, hb⟩
  rename_i c hc
  have hc : S.acts[a.toNat]? = some c := hc
  have hcf := hf c (List.mem_of_getElem? hc)
  split
  · exact ⟨z, hf, hb⟩
  split
  · refine ⟨z, fun x hx s hs => ?_, hb⟩
    rcases List.mem_or_eq_of_mem_set hx with hx | rfl
    · exact hf x hx s hs
    · exact hcf s hs
  · unfold Mac.stepA
    obtain ⟨m, d⟩ := c
    cases m with
    | none => exact ⟨z, hf, hb⟩
    | some s =>
      have hs : CpM.Fine s := hcf s rfl
      dsimp only
      split
      · exact ⟨z, hf, hb⟩
      rename_i hl
      have hl : s.live = true := by
        have hl : ¬ s.live = false := hl
        simpa using hl
      split
      · rename_i he
        have he : (CpM.want s).err S.bs.length = 0 := he
        have hw := hs.wf
        refine ⟨⟨?_, ?_⟩, fun x hx s' hs' => ?_, AA.out_is hb hw.b⟩
        · show (CpM.want s).b.length ≤ _
          have := hw.bl
          omega
        · show ((CpM.want s).ans S.bs).b.length ≤ _
          have := want_len (M := cpMac) (s := s) hw he
          have e : ((CpM.want s).ans S.bs).b.length ≤ 8 := this
          omega
        · rcases List.mem_or_eq_of_mem_set hx with hx | rfl
          · exact hf x hx s' hs'
          · obtain rfl := Option.some.inj hs'
            exact hs.step hl (AA.ans_ok hb he)
      · refine ⟨z, fun x hx s' hs' => ?_, hb⟩
        rcases List.mem_or_eq_of_mem_set hx with hx | rfl
        · exact hf x hx s' hs'
        · obtain rfl := Option.some.inj hs'
          exact hs
theorem pick_acts (S : SW CpM) (k a n : Int) : (cpMac.pick S k a n).1.acts = S.acts ∧ (cpMac.pick S k a n).1.bs = S.bs ∨ (cpMac.pick S k a n).1.acts = (cpMac.act S k a).1.acts ∧ (cpMac.pick S k a n).1.bs = (cpMac.act S k a).1.bs := by
  unfold Mac.pick
  split
  · left
    unfold Mac.tick
    split
    · split <;> exact ⟨rfl, rfl⟩
    · split <;> exact ⟨rfl, rfl⟩
  split
  · right
    split <;> exact ⟨rfl, rfl⟩
  · exact .inl ⟨rfl, rfl⟩
theorem FewS.pick {t0 : Nat} {most : Int} {S : SW CpM} {n : Int} (h : FewS t0 most S n) (k a m : Int) (hn : n + 1 ≤ max most 0) : FewS t0 most (cpMac.pick S k a m).1 (n + 1) := by
  obtain ⟨h1, h2, h3⟩ := cp_act S k a h.fine h.isb
  have hf := pick_facts cpMac S k a m
  have ht := h.tr
  have h0 := h.n0
  refine ⟨by have := hf.1; omega, by omega, hn, fun e he => ?_, ?_, ?_⟩
  · rcases pick_few cpMac S k a m h1 e he with he | he
    · exact h.ev e he
    · exact he
  · rcases pick_acts S k a m with ⟨e, _⟩ | ⟨e, _⟩
    · intro x hx
      exact h.fine x (by rw [← e]; exact hx)
    · intro x hx
      exact h2 x (by rw [← e]; exact hx)
  · rcases pick_acts S k a m with ⟨_, e⟩ | ⟨_, e⟩
    · rw [e]
      exact h.isb
    · rw [e]
      exact h3
theorem few_robin {S : SW CpM} {t0 : Nat} (most : Int) (h : FewS t0 most S 0) : FewS t0 most (cpMac.robin most S).1 (cpMac.robin most S).2 :=
  rob_keeps cpMac most (fun S n => FewS t0 most S n) (fun S n j h hn => FewS.pick h 0 j 0 (by omega)) _ S 0 h
/-- Two worlds in one memory. -/
structure Pl2 (w wr : World) (W p c : Nat) (av : Value) (ab : Nat → Nat) (R bb : Nat) (jv : Value) (k N n0 : Nat) (κ : Nat → Kd) (tv : Value) (SP : SW CpM) (κ2 : Nat → Kd) (tv2 : Value) (J : List JbS) (SR : SW CpM) : Prop where
  pk : PkAt w wr W p c av ab k κ tv SP
  ro : RoIn wr κ2 R bb jv tv2 J SR
  dj : ∀ i, κ2 i ≠ .no → κ i = .no
  lo : ∀ i, κ2 i ≠ .no → w.heap.size ≤ i
  tl : ∀ j ∈ J, j.T.length ≤ N
  jl : J.length = n0
theorem Pl2.below {w wr w' : World} {W p c : Nat} {av : Value} {ab : Nat → Nat} {R bb : Nat} {jv : Value} {k N n0 : Nat} {κ : Nat → Kd} {tv : Value} {SP : SW CpM} {κ2 : Nat → Kd} {tv2 : Value} {J : List JbS} {SR : SW CpM} (h : Pl2 w wr W p c av ab R bb jv k N n0 κ tv SP κ2 tv2 J SR) (b : Below wr.heap.size wr w') : Pl2 w w' W p c av ab R bb jv k N n0 κ tv SP κ2 tv2 J SR :=
  ⟨h.pk.below b, h.ro.below b, h.dj, h.lo, h.tl, h.jl⟩
/-- The program has picked. -/
theorem Pl2.prog {w wr w' : World} {W p c : Nat} {av : Value} {ab : Nat → Nat} {R bb : Nat} {jv : Value} {k N n0 : Nat} {κ κ' : Nat → Kd} {tv tv' : Value} {SP : SW CpM} {κ2 : Nat → Kd} {tv2 : Value} {J : List JbS} {SR : SW CpM} (h : Pl2 w wr W p c av ab R bb jv k N n0 κ tv SP κ2 tv2 J SR) (pk pa pn : Int)
    (hw : WoIn cpFam w' κ' W p c av tv' ab (cpMac.pick SP pk pa pn).1) (hk : ∀ i, i < wr.heap.size → κ' i = κ i) (kp : Keep (fun i => κ i ≠ .no) wr w') : Pl2 w w' W p c av ab R bb jv (k + 1) N n0 κ' tv' (cpMac.pick SP pk pa pn).1 κ2 tv2 J SR :=
  ⟨h.pk.pick pk pa pn hw hk kp, h.ro.keep kp (fun i hi h2 => h2 (h.dj i hi)), fun i hi => (hk i (h.ro.all i hi)).trans (h.dj i hi), h.lo, h.tl, h.jl⟩
/-- The reference has turned its world. -/
theorem Pl2.refp {w wr w' : World} {W p c : Nat} {av : Value} {ab : Nat → Nat} {R bb : Nat} {jv : Value} {k N N' n0 : Nat} {κ : Nat → Kd} {tv : Value} {SP : SW CpM} {κ2 κ2' : Nat → Kd} {tv2 tv2' : Value} {J J' : List JbS} {SR SR' : SW CpM} (h : Pl2 w wr W p c av ab R bb jv k N n0 κ tv SP κ2 tv2 J SR)
    (hr : RoIn w' κ2' R bb jv tv2' J' SR') (hk : ∀ i, i < wr.heap.size → κ2' i = κ2 i) (hl : ∀ j ∈ J', j.T.length ≤ N') (hn : J'.length = n0) (kp : Keep (fun i => κ2 i ≠ .no) wr w') : Pl2 w w' W p c av ab R bb jv k N' n0 κ tv SP κ2' tv2' J' SR' := by
  have hz := h.pk.bel.size
  refine ⟨⟨h.pk.wo.keep kp (fun i hi h2 => hi (h.dj i h2)), h.pk.nk, h.pk.bel.trans (kp.below hz (fun i hi h2 => by have := h.lo i h2; omega)), h.pk.c0, h.pk.c1, h.pk.t, h.pk.k0, h.pk.k1⟩, hr, fun i hi => ?_, fun i hi => ?_, hl, hn⟩
  · by_cases hlt : i < wr.heap.size
    · exact h.dj i (by rw [← hk i hlt]; exact hi)
    · exact no_big h.pk.wo (by omega)
  · by_cases hlt : i < wr.heap.size
    · exact h.lo i (by rw [← hk i hlt]; exact hi)
    · omega
/-- An event in a row of its own. -/
theorem evRd_one (w : World) (e : Ev) (s0 t0 : Option Addr) (sl sc tl tc : Nat) (h1 : RdB w (.slice s0 sl sc) e.c.b) (h2 : RdB w (.slice t0 tl tc) e.x.b) :
    EvRd (w.alloc (.cells (evC e.pk e.pa e.pn e.c (.slice s0 sl sc) e.x (.slice t0 tl tc)).toArray 51)) (.slice (some ⟨w.heap.size, 0, none⟩) 1 1) [e] := by
  refine ⟨[(e, .slice s0 sl sc, .slice t0 tl tc)], rfl, ?_, fun x hx => ?_⟩
  · have := World.ownsRow_lit (base := 0) (e := 51) (size := 12) w (evC e.pk e.pa e.pn e.c (.slice s0 sl sc) e.x (.slice t0 tl tc)).toArray 1 (Nat.zero_le _) (by decide) rfl
    simpa [evL] using this
  · obtain rfl := List.mem_singleton.1 hx
    have b : Below w.heap.size w (w.alloc (.cells (evC e.pk e.pa e.pn e.c (.slice s0 sl sc) e.x (.slice t0 tl tc)).toArray 51)) := (Below.refl _ _).alloc (Nat.le_refl _) _
    exact ⟨h1.below b, h2.below b⟩
theorem EvRd.below {w w' : World} {v : Value} {l : List Ev} (h : EvRd w v l) (b : Below w.heap.size w w') : EvRd w' v l := by
  obtain ⟨es, e, ho, he⟩ := h
  exact ⟨es, e, ownsRow_keep ho (Below.keeps (M := fun _ => False) b) (fun _ _ => id), fun x hx => ⟨(he x hx).1.below b, (he x hx).2.below b⟩⟩
theorem RoIn.evRd {w : World} {κ : Nat → Kd} {R bb : Nat} {jv tv : Value} {J : List JbS} {S : SW CpM} (h : RoIn w κ R bb jv tv J S) : EvRd w tv S.tr := by
  obtain ⟨es, he, ho, _, hev⟩ := h.tr
  exact ⟨es, he, ho, fun x hx => ⟨hev.r1 x hx, hev.r2 x hx⟩⟩
theorem flatten_cs : ∀ (J : List JbS), (J.map JbS.cs).flatten = J.flatMap JbS.cs
  | [] => rfl
  | j :: r => by rw [List.map_cons, List.flatten_cons, List.flatMap_cons, flatten_cs r]
theorem jb_mac (x : JobV) (s t : Value) (d : Bool) : JbS.mac ⟨x.k % 3, x.a % 300, x.n % 60, s, x.b, t, [], d⟩ = x.mac := by
  have e : x.k % 3 % 3 = x.k % 3 := by omega
  unfold JbS.mac JobV.mac jbM CpM.told
  dsimp only [List.foldl_nil]
  rw [e]
/-- The reference's jobs, as they were made. -/
theorem made_jobs {w0 wr : World} {κ : Nat → Kd} {ov jv : Value} {mv : Nat → Value} {Js : List JobV} {jc : List (List Value)} (h : MadeTo w0 wr κ ov jv mv Js jc Js.length) (hJ : ∀ x ∈ Js, JobV.Ok w0 x) (hb : ∀ x ∈ Js, x.b.length ≤ 60) :
    ∃ J : List JbS, J.length = Js.length ∧ jc.flatten = J.flatMap JbS.cs ∧ J.map JbS.ac = Js.map (fun x => ⟨some x.mac, false⟩) ∧ ∀ j ∈ J, (0 ≤ j.k ∧ j.k ≤ 2 ∧ 0 ≤ j.a ∧ j.a ≤ 1000 ∧ 0 ≤ j.n ∧ j.n ≤ 1000) ∧ (∃ a n c, j.s = .slice a n c) ∧ OwB 5 0 wr j.s j.b ∧ j.b.length ≤ 60 ∧ (∀ g, j.s.ownBlock = some g → w0.heap.size ≤ g ∧ κ g = .no) ∧ j.t = .slice none 0 0 ∧ j.T = [] ∧ j.d = false ∧ j.mac.Fine := by
  obtain ⟨J, hJd⟩ : ∃ J, J = (List.range Js.length).map (fun i => (⟨(Js.getD i ⟨0, 0, 0, .slice none 0 0, []⟩).k % 3, (Js.getD i ⟨0, 0, 0, .slice none 0 0, []⟩).a % 300, (Js.getD i ⟨0, 0, 0, .slice none 0 0, []⟩).n % 60, (jc.getD i []).getD 3 undef, (Js.getD i ⟨0, 0, 0, .slice none 0 0, []⟩).b, .slice none 0 0, [], false⟩ : JbS)) := ⟨_, rfl⟩
  have hlen : J.length = Js.length := by rw [hJd]; simp
  have at_ : ∀ i, i < Js.length → ∃ x, Js[i]? = some x ∧ Js.getD i ⟨0, 0, 0, .slice none 0 0, []⟩ = x := by
    intro i hi
    exact ⟨Js[i], List.getElem?_eq_getElem hi, by simp [List.getD, List.getElem?_eq_getElem hi]⟩
  have hget : ∀ i, i < Js.length → ∃ x s0 sl sc, Js[i]? = some x ∧ jc[i]? = some [.int .i64 (x.k % 3), .int .i64 (x.a % 300), .int .i64 (x.n % 60), .slice s0 sl sc, .slice none 0 0, .bool false] ∧ OwB 5 0 wr (.slice s0 sl sc) x.b ∧ (∀ g, (Value.slice s0 sl sc).ownBlock = some g → w0.heap.size ≤ g ∧ κ g = .no) ∧ J[i]? = some ⟨x.k % 3, x.a % 300, x.n % 60, .slice s0 sl sc, x.b, .slice none 0 0, [], false⟩ := by
    intro i hi
    obtain ⟨x, hx, hd⟩ := at_ i hi
    obtain ⟨s0, sl, sc, hc, ho, hg⟩ := h.jb i x hi hx
    refine ⟨x, s0, sl, sc, hx, hc, ho, hg, ?_⟩
    have hjc : (jc.getD i []).getD 3 undef = .slice s0 sl sc := by simp [List.getD, hc]
    rw [hJd, List.getElem?_map, List.getElem?_range hi, Option.map_some, hd, hjc]
  have hcs : J.map JbS.cs = jc := by
    apply List.ext_getElem?
    intro i
    by_cases hi : i < Js.length
    · obtain ⟨x, s0, sl, sc, _, hc, _, _, hj⟩ := hget i hi
      rw [List.getElem?_map, hj, hc]
      rfl
    · rw [List.getElem?_eq_none (by rw [List.length_map, hlen]; omega), List.getElem?_eq_none (by rw [h.jl]; omega)]
  refine ⟨J, hlen, by rw [← hcs, flatten_cs], ?_, fun j hj => ?_⟩
  · apply List.ext_getElem?
    intro i
    by_cases hi : i < Js.length
    · obtain ⟨x, s0, sl, sc, hx, _, _, _, hj⟩ := hget i hi
      rw [List.getElem?_map, hj, List.getElem?_map, hx, Option.map_some, Option.map_some]
      unfold JbS.ac
      rw [jb_mac]
    · rw [List.getElem?_eq_none (by rw [List.length_map, hlen]; omega), List.getElem?_eq_none (by rw [List.length_map]; omega)]
  · obtain ⟨i, hi⟩ := List.getElem?_of_mem hj
    have hi' : i < Js.length := by have := (List.getElem?_eq_some_iff.1 hi).1; omega
    obtain ⟨x, s0, sl, sc, hx, _, ho, hg, hj'⟩ := hget i hi'
    rw [hi] at hj'
    obtain rfl := Option.some.inj hj'
    have hxm := List.mem_of_getElem? hx
    have hok := hJ x hxm
    refine ⟨⟨?_, ?_, ?_, ?_, ?_, ?_⟩, ⟨_, _, _, rfl⟩, ho, hb x hxm, hg, rfl, rfl, rfl, by rw [jb_mac]; exact JobV.mac_fine hok (hb x hxm)⟩ <;> dsimp only <;> omega
/-- Labels of the reference's world. -/
noncomputable def kdW (R bb : Nat) (jv : Value) (J : List JbS) : Nat → Kd := fun i => by
  classical
  exact if i = R then .wo else if i = bb then .bu else if jv.ownBlock = some i then .row else if ∃ j ∈ J, j.s.ownBlock = some i then .tb else .no
theorem ro_made {w1 wr : World} {κ : Nat → Kd} {w0 : World} {ov jv : Value} {mv : Nat → Value} {Js : List JobV} {jc : List (List Value)} (h : MadeTo w0 w1 κ ov jv mv Js jc Js.length) (hJ : ∀ x ∈ Js, JobV.Ok w0 x) (hb : ∀ x ∈ Js, x.b.length ≤ 60) (b : Below w1.heap.size w1 wr) (R bb : Nat) (bs : List Int) (cnt : Int)
    (hR : w1.heap.size ≤ R) (hB : w1.heap.size ≤ bb) (hne : R ≠ bb) (hd : Blk wr R [.slice (some ⟨bb, 0, none⟩) bs.length bs.length, jv, .int .i64 0, .slice none 0 0]) (hby : Blk wr bb (bs.map (Value.int .u8))) (hi : IsB bs) (hl : bs.length ≤ 131072) :
    ∃ J κ2, RoIn wr κ2 R bb jv (.slice none 0 0) J ⟨bs, cnt, Js.map fun j => ⟨some j.mac, false⟩, 0, []⟩ ∧ (∀ j ∈ J, j.T.length ≤ 0) ∧ J.length = Js.length ∧ ∀ i, κ2 i ≠ .no → w0.heap.size ≤ i ∧ ((i < w1.heap.size ∧ κ i = .no) ∨ i = R ∨ i = bb) := by
  classical
  obtain ⟨J, j1, j2, j3, j4⟩ := made_jobs h hJ hb
  have hz := h.bel.size
  have hlt : ∀ g, jv.ownBlock = some g → g < w1.heap.size := fun g hg => (World.ownsRow.lt h.jo g hg).2
  have hls : ∀ j ∈ J, ∀ g, j.s.ownBlock = some g → g < w1.heap.size := fun j hj g hg => (World.ownsRow.lt (j4 j hj).2.2.1 g hg).2
  have kR : kdW R bb jv J R = .wo := by unfold kdW; simp
  have kB : kdW R bb jv J bb = .bu := by unfold kdW; simp [Ne.symm hne]
  have kJ : ∀ g, jv.ownBlock = some g → kdW R bb jv J g = .row := by
    intro g hg
    have := hlt g hg
    unfold kdW
    simp [hg, show g ≠ R by omega, show g ≠ bb by omega]
  have kS : ∀ j ∈ J, ∀ g, j.s.ownBlock = some g → kdW R bb jv J g = .tb := by
    intro j hj g hg
    have := hls j hj g hg
    have hn : jv.ownBlock ≠ some g := own_ne (j4 j hj).2.2.1 h.jo (by decide) hg
    unfold kdW
    rw [if_neg (by omega), if_neg (by omega), if_neg hn, if_pos ⟨j, hj, hg⟩]
  have kN : ∀ i, kdW R bb jv J i ≠ .no → i = R ∨ i = bb ∨ jv.ownBlock = some i ∨ ∃ j ∈ J, j.s.ownBlock = some i := by
    intro i hi
    unfold kdW at hi
    split at hi
    · exact .inl ‹_›
    split at hi
    · exact .inr (.inl ‹_›)
    split at hi
    · exact .inr (.inr (.inl ‹_›))
    split at hi
    · exact .inr (.inr (.inr ‹_›))
    · exact absurd rfl hi
  refine ⟨J, kdW R bb jv J, ⟨hd, kR, hby, kB, hi, hl, by rw [j1, ← j2]; exact ownsRow_keep h.jo (Below.keeps (M := fun _ => False) b) (fun _ _ => id), kJ, fun j hj => ?_, j3.symm, ⟨[], rfl, World.ownsRow_nil _ _ _ _, (fun i hi => by cases hi), ⟨(fun e he => by cases he), (fun e he => by cases he), (fun e he => by cases he), (fun e he => by cases he)⟩⟩, fun i hi => ?_⟩, fun j hj => by rw [(j4 j hj).2.2.2.2.2.2.1]; exact Nat.le_refl _, j1, fun i hi => ?_⟩
  · obtain ⟨⟨a1, a2, a3, a4, a5, a6⟩, a7, a8, a9, a10, a11, a12, a13, a14⟩ := j4 j hj
    exact ⟨a1, a2, a3, a4, a5, a6, a7, a8.rd.below b, by omega, kS j hj, by rw [a11, a12]; exact AnT.none _ _, a14⟩
  · have hbz := b.size
    rcases kN i hi with rfl | rfl | h1 | ⟨j, hj, h1⟩
    · exact hd.lt
    · exact hby.lt
    · have := hlt i h1; omega
    · have := hls j hj i h1; omega
  · rcases kN i hi with rfl | rfl | h1 | ⟨j, hj, h1⟩
    · exact ⟨by omega, .inr (.inl rfl)⟩
    · exact ⟨by omega, .inr (.inr rfl)⟩
    · exact ⟨(h.jm i h1).1, .inl ⟨hlt i h1, (h.jm i h1).2⟩⟩
    · obtain ⟨_, _, _, _, a10, _⟩ := j4 j hj
      exact ⟨(a10 i h1).1, .inl ⟨hls j hj i h1, (a10 i h1).2⟩⟩
end Go.Proofs.Ytknahaaefmlcpaa
