/- Contract of sched.New. Conditions: as it says. -/
import Derived.Test.YtpicplkbblmbeaaGreatSi
namespace Go.Proofs.YtpicplkbblmbeaaGreat
set_option maxRecDepth 100000
open Go.RowKit
set_option linter.unusedVariables false
set_option linter.unusedSimpArgs false
theorem list_app1 {w : World} {ops : Array Oper} {rest : List Oper} {o : Oper} {a : Act} {Q : Exit → Act → World → Prop} (hgd : o.guard = none) (s x : Operand) (T E : TypeId)
    (ho : o.op = .call { callee := .builtin .append, args := #[s, x], argTypes := #[T, T] }) {i : TypeInfo} {z : Value} {size bytes : Nat} (ht : Tryz.prog.underlying T = some (.slice E)) (hi : Tryz.prog.info? E = some i) (hz : i.zero = some z) (hsize : i.size = size) (hby : i.bytes = bytes) (hzs : z.cells.size = size) (hsz : 0 < size)
    (v : Value) (n : Nat) (xs : List Value) (hs : a.eval s = v) (hown : w.ownsRow 0 E size v n xs) (g : Nat) (news : List Value) (hx : a.eval x = .slice (some ⟨g, 0, none⟩) 1 1) (hb : Blk w g news) (hl : news.length = size) (h1 : ∀ u ∈ news, u.oneCell' = true) (hn : (n + 1) * bytes ≤ 140737488355328) (hm : n + 1 ≤ maxLen)
    (h : ∀ v' w', w'.ownsRow 0 E size v' (n + 1) (xs ++ news) → w.grownBy w' v.ownBlock → (v'.ownBlock = v.ownBlock ∨ v'.ownBlock = some w.heap.size) → wpList Tryz.prog ops Q rest (a.put o.dst v') w') : wpList Tryz.prog ops Q (o :: rest) a w :=
  wpList_plain hgd fun _ hK => wp_app1 s x T E ho ht hi hz hsize hby hzs hsz v n xs hs hown g news hx hb hl h1 hn hm fun v' w' h2 h3 h4 => hK _ _ (h v' w' h2 h3 h4)
theorem actinfo : (Tryz.prog.info? 164).map (fun i => (i.zero, i.size, i.bytes)) = some (some (.pointer none), 1, 8) := by kernel_rfl
/-- The pointers to the first k actors. -/
def actP (ab : Nat → Nat) (k : Nat) : List Value := (List.range k).map fun i => .pointer (some ⟨ab i, 0, none⟩)
theorem actP_len (ab : Nat → Nat) (k : Nat) : (actP ab k).length = k := by simp [actP]
theorem actP_succ (ab : Nat → Nat) (k x : Nat) : actP (fun i => if i = k then x else ab i) (k + 1) = actP ab k ++ [.pointer (some ⟨x, 0, none⟩)] := by
  unfold actP
  rw [List.range_succ, List.map_append]
  congr 1
  · apply List.map_congr_left
    intro i hi
    have : i < k := by simpa using hi
    simp only []
    rw [if_neg (by omega)]
  · simp
/-- The actors' row so far. -/
structure RowTo (w : World) (W : Nat) (av : Value) (ab : Nat → Nat) (mv : Nat → Value) (k : Nat) : Prop where
  own : w.ownsRow 0 164 1 av k (actP ab k)
  ne : ∀ g, av.ownBlock = some g → W < g
  blk : ∀ j, j < k → W < ab j ∧ Blk w (ab j) [mv j, .bool false] ∧ av.ownBlock ≠ some (ab j)
  inj : ∀ i j, i < k → j < k → ab i = ab j → i = j
noncomputable def kdN (κ : Nat → Kd) (W : Nat) (av : Value) (ab : Nat → Nat) (n : Nat) : Nat → Kd := fun k => open Classical in if k = W then .wo else if av.ownBlock = some k then .row else if h : ∃ i, i < n ∧ ab i = k then .ac h.choose else κ k
theorem kdN_old {κ : Nat → Kd} {w : World} {W : Nat} {av : Value} {ab : Nat → Nat} {mv : Nat → Value} {n : Nat} (h : RowTo w W av ab mv n) {i : Nat} (hi : i < W) : kdN κ W av ab n i = κ i := by
  unfold kdN
  rw [if_neg (by omega), if_neg (fun e => by have := h.ne i e; omega), dif_neg]
  rintro ⟨j, hj, e⟩
  have := (h.blk j hj).1
  omega
theorem kdN_ac {κ : Nat → Kd} {w : World} {W : Nat} {av : Value} {ab : Nat → Nat} {mv : Nat → Value} {n : Nat} (h : RowTo w W av ab mv n) {i : Nat} (hi : i < n) : kdN κ W av ab n (ab i) = .ac i := by
  obtain ⟨h1, h2, h3⟩ := h.blk i hi
  unfold kdN
  have hex : ∃ j, j < n ∧ ab j = ab i := ⟨i, hi, rfl⟩
  rw [if_neg (by omega), if_neg h3, dif_pos hex]
  rw [h.inj _ _ hex.choose_spec.1 hi hex.choose_spec.2]
set_option maxHeartbeats 1000000 in
theorem wNew_any (C : Fam) (w : World) (κ : Nat → Kd) (p c : Nat) (cnt : Int) (bs : List Int) (n : Nat) (mv : Nat → Value) (ms : List (Option C.M.σ)) (g off lc : Nat) (h0 : 0 < n) (hlc : n ≤ lc) (hlm : lc ≤ maxLen) (hBuf : Buf w p c cnt bs) (kp : κ p = .bu) (kc : κ c = .bu) (hn : ms.length = n) (hn1 : n ≤ 1000000)
    (hl : ∀ i, i < n → w.cell? ⟨g, off + i, none⟩ = some (mv i)) (hif : ∀ i, i < n → (mv i).oneCell' = true)
    (hm : ∀ i m, ms[i]? = some m → McIn C w (fun k => κ k = .ma i) (mv i) m) (hall : ∀ k, κ k ≠ .no → k < w.heap.size) (hkd : ∀ k i, κ k ≠ .wo ∧ κ k ≠ .row ∧ κ k ≠ .ac i ∧ κ k ≠ .tr ∧ κ k ≠ .tb) :
    Calls Tryz.prog 25 #[.pointer (some ⟨p, 0, none⟩), .slice (some ⟨g, off, none⟩) n lc] w fun e w' => ∃ W κ' av ab, e = .returned (.pointer (some ⟨W, 0, none⟩)) ∧ WoIn C w' κ' W p c av nilSl ab ⟨bs, cnt, ms.map fun m => ⟨m, false⟩, 0, []⟩ ∧ (∀ i, i < w.heap.size → κ' i = κ i) ∧ w.heap.size ≤ W ∧ Below w.heap.size w w' := by
  obtain ⟨i0, hi, hz0, hz1, hz2⟩ := info_parts actinfo
  have HBuf := Lib.hid hBuf
  have HL := Lib.hid hl
  have HM := Lib.hid hm
  have HA := Lib.hid hall
  have HK := Lib.hid hkd
  have HIF := Lib.hid hif
  have HKP := Lib.hid kp
  have HKC := Lib.hid kc
  have HN := Lib.hid hn
  clear hBuf hl hm hall hkd hif kp kc hn
  go_enter Tryz.func25, Tryz.ntmps25
  go_wp2_with fail
  go_loopw [7, 13] (fun t i wr => ∃ k : Nat, k ≤ n ∧ i = .int .i64 k ∧ ∃ av ab, Blk wr w.heap.size [.pointer (some ⟨p, 0, none⟩), av, .int .i64 0, nilSl] ∧ RowTo wr w.heap.size av ab mv k ∧ Below w.heap.size w wr) (fun _ i _ => n - (intOf i).toNat)
  case atStart =>
    refine ⟨0, by omega, rfl, .slice none 0 0, fun _ => 0, Blk.made w _ _, ⟨World.ownsRow_nil _ _ _ _, (fun g h => by cases h), (fun j h => by omega), (fun i j h => by omega)⟩, by go_grown⟩
  case round =>
    obtain ⟨k, hk, rfl, av, ab, hW, hR, hB⟩ := hrel
    obtain ⟨va, vl, vc, rfl⟩ := own_isSl hR.own
    have hc1 := hW.cell 1
    have hf1 := hW.frozen 1
    simp only [List.getElem?_cons_zero, List.getElem?_cons_succ] at hc1
    have hWlt := hW.lt
    have HW := Lib.hid hW
    have HR := Lib.hid hR
    have HB := Lib.hid hB
    by_cases hlt : k < n
    · have hcl : wr.cell? ⟨g, off + k, none⟩ = some (mv k) := by
        have h0 := HL.out k hlt
        exact (hB.cell (p := ⟨g, off + k, none⟩) (World.block_lt_of_cell? w _ h0)).trans h0
      have hgl : g < wr.heap.size := Nat.lt_of_lt_of_le (World.block_lt_of_cell? w _ (HL.out k hlt)) hB.size
      have hform : mv k = .nilIface ∨ ∃ T v, mv k = .iface T v := by
        obtain ⟨m, hmk⟩ : ∃ m, ms[k]? = some m := ⟨_, List.getElem?_eq_getElem (by rw [HN.out]; exact hlt)⟩
        have := HM.out k m hmk
        cases m with
        | none => exact .inl this
        | some s =>
          obtain ⟨q, e, _⟩ := this
          exact .inr ⟨_, _, e⟩
      clear hW hR hB
      rcases hform with hmv | ⟨T, v, hmv⟩
      · rw [hmv] at hcl
        have HMV := Lib.hid hmv
        obtain ⟨w5, hw5⟩ : ∃ w5 : World, w5 = (wr.alloc (Obj.cells #[.nilIface, .bool false] 166)).alloc (Obj.cells #[.pointer (some ⟨wr.heap.size, 0, none⟩)] 164) := ⟨_, rfl⟩
        have hw5' := Lib.hid hw5
        have b5 : Below wr.heap.size wr w5 := by rw [hw5]; go_grown
        have AB := Lib.hid (show Blk w5 wr.heap.size [mv k, .bool false] by rw [hw5, hmv]; exact (Blk.made wr _ _).alloc _)
        have NB := Lib.hid (show Blk w5 (wr.heap.size + 1) [.pointer (some ⟨wr.heap.size, 0, none⟩)] by rw [hw5]; simpa using Blk.made (wr.alloc (Obj.cells #[.nilIface, .bool false] 166)) #[.pointer (some ⟨wr.heap.size, 0, none⟩)] 164)
        have OW := Lib.hid (ownsRow_keep HR.out.own (Below.keeps (M := fun _ => False) b5) (fun _ _ => id))
        have Z5 := Lib.hid (show w5.heap.size = wr.heap.size + 2 by rw [hw5]; simp)
        have B5 := Lib.hid b5
        clear hw5 b5 hmv
        go_wp2_with (refine list_app1 rfl (.tmp 21) (.tmp 25) 158 164 rfl Tryz.underlying158 hi hz0 hz1 hz2 rfl (by decide) (.slice va vl vc) k (actP ab k) rfl (by rw [← hw5'.out]; exact OW.out) (wr.heap.size + 1) [.pointer (some ⟨wr.heap.size, 0, none⟩)] rfl (by rw [← hw5'.out]; exact NB.out) rfl (by simp [Value.oneCell']) (by omega) (by unfold maxLen; omega) ?_)
        rw [← hw5'.out]
        intro v' w6 o6 g6 e6
        clear hw5'
        obtain ⟨xa, xl, xc, rfl⟩ := own_isSl o6
        have KG := grown_keep g6
        have hnew : ∀ j, j < wr.heap.size → (Value.slice va vl vc).ownBlock ≠ some j → (Value.slice xa xl xc).ownBlock ≠ some j := by
          intro j hj hn e
          rcases e6 with h | h
          · exact hn (h ▸ e)
          · rw [h] at e
            have e' := Option.some.inj e
            have := Z5.out
            omega
        have nW : ¬ (Value.slice va vl vc).ownBlock = some w.heap.size := fun e => by have := HR.out.ne _ e; omega
        have W6 := Lib.hid ((HW.out.below B5.out hWlt).keep KG nW)
        have nA : ¬ (Value.slice va vl vc).ownBlock = some wr.heap.size := fun e => by have := (World.ownsRow.lt HR.out.own _ e).2; omega
        have AB6 := Lib.hid (AB.out.keep KG nA)
        have hc1' := W6.out.cell 1
        have hf1' := W6.out.frozen 1
        simp only [List.getElem?_cons_zero, List.getElem?_cons_succ] at hc1'
        have O6 := Lib.hid o6
        have E6 := Lib.hid e6
        have KG := Lib.hid KG
        have HNW := Lib.hid hnew
        clear o6 g6 e6 hnew hc1 hf1
        go_wp2
        refine ⟨⟨k + 1, by omega, by go_num, .slice xa xl xc, (fun i => if i = k then wr.heap.size else ab i), W6.out.set 1 _, ⟨?_, ?_, ?_, ?_⟩, ?_⟩, by simp [intOf]; omega⟩
        · rw [actP_succ]
          exact ownsRow_keep O6.out (Keep.setCell (M := (· = w.heap.size)) (Keep.refl _ _) (p := ⟨w.heap.size, 1, none⟩) (.inl rfl) _) (fun i hi e => HNW.out w.heap.size hWlt nW (e ▸ hi))
        · intro j hj
          rcases E6.out with h | h
          · exact HR.out.ne j (h ▸ hj)
          · rw [h] at hj
            have e' := Option.some.inj hj
            have := Z5.out
            omega
        · intro j hj
          by_cases hjk : j = k
          · subst hjk
            refine ⟨by simpa using hWlt, ?_, ?_⟩
            · simp only [if_true]
              exact AB6.out.far (a := ⟨w.heap.size, 1, none⟩) (by show wr.heap.size ≠ w.heap.size; omega) _
            · simp only [if_true]
              intro e
              rcases E6.out with h | h
              · exact nA (h ▸ e)
              · rw [h] at e
                have e' := Option.some.inj e
                have := Z5.out
                omega
          · obtain ⟨h1, h2, h3⟩ := HR.out.blk j (by omega)
            simp only [if_neg hjk]
            refine ⟨h1, ?_, HNW.out _ h2.lt h3⟩
            exact ((h2.below B5.out h2.lt).keep KG.out h3).far (a := ⟨w.heap.size, 1, none⟩) (by show ab j ≠ w.heap.size; omega) _
        · intro i j hi' hj' e
          by_cases h1 : i = k
          · by_cases h2 : j = k
            · omega
            · simp only [h1, if_true, if_neg h2] at e
              have := (HR.out.blk j (by omega)).2.1.lt
              omega
          · by_cases h2 : j = k
            · simp only [h2, if_true, if_neg h1] at e
              have := (HR.out.blk i (by omega)).2.1.lt
              omega
            · simp only [if_neg h1, if_neg h2] at e
              exact HR.out.inj i j (by omega) (by omega) e
        · refine Below.setCell ?_ (p := ⟨w.heap.size, 1, none⟩) (Nat.le_refl _) _
          exact (HB.out.trans (B5.out.mono HB.out.size)).trans (KG.out.below (by have := Z5.out; omega) (fun i hi e => by have := HR.out.ne i e; omega))
      · rw [hmv] at hcl
        have HMV := Lib.hid hmv
        obtain ⟨w5, hw5⟩ : ∃ w5 : World, w5 = (wr.alloc (Obj.cells #[.iface T v, .bool false] 166)).alloc (Obj.cells #[.pointer (some ⟨wr.heap.size, 0, none⟩)] 164) := ⟨_, rfl⟩
        have hw5' := Lib.hid hw5
        have b5 : Below wr.heap.size wr w5 := by rw [hw5]; go_grown
        have AB := Lib.hid (show Blk w5 wr.heap.size [mv k, .bool false] by rw [hw5, hmv]; exact (Blk.made wr _ _).alloc _)
        have NB := Lib.hid (show Blk w5 (wr.heap.size + 1) [.pointer (some ⟨wr.heap.size, 0, none⟩)] by rw [hw5]; simpa using Blk.made (wr.alloc (Obj.cells #[.iface T v, .bool false] 166)) #[.pointer (some ⟨wr.heap.size, 0, none⟩)] 164)
        have OW := Lib.hid (ownsRow_keep HR.out.own (Below.keeps (M := fun _ => False) b5) (fun _ _ => id))
        have Z5 := Lib.hid (show w5.heap.size = wr.heap.size + 2 by rw [hw5]; simp)
        have B5 := Lib.hid b5
        clear hw5 b5 hmv
        go_wp2_with (refine list_app1 rfl (.tmp 21) (.tmp 25) 158 164 rfl Tryz.underlying158 hi hz0 hz1 hz2 rfl (by decide) (.slice va vl vc) k (actP ab k) rfl (by rw [← hw5'.out]; exact OW.out) (wr.heap.size + 1) [.pointer (some ⟨wr.heap.size, 0, none⟩)] rfl (by rw [← hw5'.out]; exact NB.out) rfl (by simp [Value.oneCell']) (by omega) (by unfold maxLen; omega) ?_)
        rw [← hw5'.out]
        intro v' w6 o6 g6 e6
        clear hw5'
        obtain ⟨xa, xl, xc, rfl⟩ := own_isSl o6
        have KG := grown_keep g6
        have hnew : ∀ j, j < wr.heap.size → (Value.slice va vl vc).ownBlock ≠ some j → (Value.slice xa xl xc).ownBlock ≠ some j := by
          intro j hj hn e
          rcases e6 with h | h
          · exact hn (h ▸ e)
          · rw [h] at e
            have e' := Option.some.inj e
            have := Z5.out
            omega
        have nW : ¬ (Value.slice va vl vc).ownBlock = some w.heap.size := fun e => by have := HR.out.ne _ e; omega
        have W6 := Lib.hid ((HW.out.below B5.out hWlt).keep KG nW)
        have nA : ¬ (Value.slice va vl vc).ownBlock = some wr.heap.size := fun e => by have := (World.ownsRow.lt HR.out.own _ e).2; omega
        have AB6 := Lib.hid (AB.out.keep KG nA)
        have hc1' := W6.out.cell 1
        have hf1' := W6.out.frozen 1
        simp only [List.getElem?_cons_zero, List.getElem?_cons_succ] at hc1'
        have O6 := Lib.hid o6
        have E6 := Lib.hid e6
        have KG := Lib.hid KG
        have HNW := Lib.hid hnew
        clear o6 g6 e6 hnew hc1 hf1
        go_wp2
        refine ⟨⟨k + 1, by omega, by go_num, .slice xa xl xc, (fun i => if i = k then wr.heap.size else ab i), W6.out.set 1 _, ⟨?_, ?_, ?_, ?_⟩, ?_⟩, by simp [intOf]; omega⟩
        · rw [actP_succ]
          exact ownsRow_keep O6.out (Keep.setCell (M := (· = w.heap.size)) (Keep.refl _ _) (p := ⟨w.heap.size, 1, none⟩) (.inl rfl) _) (fun i hi e => HNW.out w.heap.size hWlt nW (e ▸ hi))
        · intro j hj
          rcases E6.out with h | h
          · exact HR.out.ne j (h ▸ hj)
          · rw [h] at hj
            have e' := Option.some.inj hj
            have := Z5.out
            omega
        · intro j hj
          by_cases hjk : j = k
          · subst hjk
            refine ⟨by simpa using hWlt, ?_, ?_⟩
            · simp only [if_true]
              exact AB6.out.far (a := ⟨w.heap.size, 1, none⟩) (by show wr.heap.size ≠ w.heap.size; omega) _
            · simp only [if_true]
              intro e
              rcases E6.out with h | h
              · exact nA (h ▸ e)
              · rw [h] at e
                have e' := Option.some.inj e
                have := Z5.out
                omega
          · obtain ⟨h1, h2, h3⟩ := HR.out.blk j (by omega)
            simp only [if_neg hjk]
            refine ⟨h1, ?_, HNW.out _ h2.lt h3⟩
            exact ((h2.below B5.out h2.lt).keep KG.out h3).far (a := ⟨w.heap.size, 1, none⟩) (by show ab j ≠ w.heap.size; omega) _
        · intro i j hi' hj' e
          by_cases h1 : i = k
          · by_cases h2 : j = k
            · omega
            · simp only [h1, if_true, if_neg h2] at e
              have := (HR.out.blk j (by omega)).2.1.lt
              omega
          · by_cases h2 : j = k
            · simp only [h2, if_true, if_neg h1] at e
              have := (HR.out.blk i (by omega)).2.1.lt
              omega
            · simp only [if_neg h1, if_neg h2] at e
              exact HR.out.inj i j (by omega) (by omega) e
        · refine Below.setCell ?_ (p := ⟨w.heap.size, 1, none⟩) (Nat.le_refl _) _
          exact (HB.out.trans (B5.out.mono HB.out.size)).trans (KG.out.below (by have := Z5.out; omega) (fun i hi e => by have := HR.out.ne i e; omega))
    · obtain rfl : k = n := by omega
      clear hW hR hB hlt
      go_wp2
      go_ret
      have hal := HB.out.size
      have nw : ∀ i, kdN κ w.heap.size (.slice va vl vc) ab k i ≠ .no → i < wr.heap.size := by
        intro i hi
        by_cases hk : κ i = .no
        · unfold kdN at hi
          split at hi
          · omega
          split at hi
          · rename_i e
            exact (World.ownsRow.lt HR.out.own i e).2
          split at hi
          · rename_i e
            obtain ⟨j, hj, rfl⟩ := e
            exact (HR.out.blk j hj).2.1.lt
          · exact absurd hk hi
        · have := HA.out i hk
          omega
      refine ⟨w.heap.size, kdN κ w.heap.size (.slice va vl vc) ab k, .slice va vl vc, ab, rfl, ⟨HW.out, ?_, HBuf.out.belows HB.out, ?_, ?_, ?_, ?_, ?_, nw⟩, fun i hi => kdN_old HR.out hi, Nat.le_refl _, HB.out⟩
      · unfold kdN
        rw [if_pos rfl]
      · rw [kdN_old HR.out HBuf.out.hd.lt]
        exact HKP.out
      · rw [kdN_old HR.out HBuf.out.wd.lt]
        exact HKC.out
      · right
        rcases HR.out.own.2 with ⟨_, e⟩ | ⟨g', cap, cur, e, _, _, h1, h2, _⟩
        · omega
        · cases e
          refine ⟨g', vc, by simp [HN.out], by simp [HN.out]; exact h1, h2, ?_, ?_⟩
          · unfold kdN
            rw [if_neg (by have := HR.out.ne g' rfl; omega)]
            exact if_pos rfl
          · intro i hi
            have hi' : i < k := by simpa [HN.out] using hi
            have := World.ownsRow.cells HR.out.own rfl i (.pointer (some ⟨ab i, 0, none⟩)) (by simp [actP, hi'])
            have e : (⟨g', 0, none⟩ : Addr).add i = ⟨g', 0 + i, none⟩ := by unfold Addr.add; split <;> simp_all
            rw [e, Nat.zero_add] at this
            exact this
      · intro i a hia
        simp only [List.getElem?_map] at hia
        obtain ⟨m, hmi, rfl⟩ := Option.map_eq_some_iff.1 hia
        have hi' : i < k := by have := (List.getElem?_eq_some_iff.1 hmi).1; rw [HN.out] at this; exact this
        refine ⟨kdN_ac HR.out hi', mv i, (HR.out.blk i hi').2.1, ?_⟩
        have hmc := HM.out i m hmi
        cases m with
        | none => exact hmc
        | some s2 =>
          obtain ⟨q2, e2, hi2⟩ := hmc
          refine ⟨q2, e2, C.mono (C.keep hi2 (Below.keeps (M := fun _ => False) HB.out) (fun _ _ => id)) ?_ (fun l hl => nw l (by rw [hl]; nofun))⟩
          intro l hl
          have : l < w.heap.size := HA.out l (by rw [hl]; nofun)
          rw [kdN_old HR.out this]
          exact hl
      · exact ⟨[], rfl, World.ownsRow_nil _ _ _ _, (fun i h => by cases h), ⟨(fun e h => by cases h), (fun e h => by cases h), (fun e h => by cases h), (fun e h => by cases h)⟩⟩
end Go.Proofs.YtpicplkbblmbeaaGreat
