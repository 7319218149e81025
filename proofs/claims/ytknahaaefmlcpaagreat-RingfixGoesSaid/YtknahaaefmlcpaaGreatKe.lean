/- What machines have in common: rows and blocks, zeros in parts, the builtin copy. Conditions: as each says. -/
import Derived.Test.YtknahaaefmlcpaaGreatKj
import Derived.Test.YtknahaaefmlcpaaGreatKs
import Derived.Test.YtknahaaefmlcpaaGreatBm
import Derived.Deep.RegionHeld3
import Derived.Deep.RegionLaw
import Derived.Laws.CopyOwn
namespace Go.Proofs.YtknahaaefmlcpaaGreat
set_option maxRecDepth 100000
open Go.RowKit
set_option linter.unusedVariables false
set_option linter.unusedSimpArgs false
theorem OwB.isSliceC {B : Nat} {w : World} {v : Value} {l : List Int} (h : OwB 5 B w v l) : ∃ a n c, v = .slice a n c := by
  rcases h.2 with ⟨rfl, _⟩ | ⟨g, cap, cur, rfl, _⟩
  · exact ⟨_, _, _, rfl⟩
  · exact ⟨_, _, _, rfl⟩
theorem OwB.farC {B : Nat} {w : World} {v : Value} {l : List Int} (h : OwB 5 B w v l) {a : Addr} (ha : a.block < B) (x : Value) : OwB 5 B (w.setCell a x) v l := ownsRow_setCell_below h ha x
theorem Blk.grown {w w' : World} {b : Nat} {cs : List Value} {row : Option Nat} (h : Blk w b cs) (hg : w.grownBy w' row) (hne : some b ≠ row) : Blk w' b cs := by
  have hl := h.lt
  obtain ⟨T, h⟩ := h
  exact ⟨T, by rw [hg.block b hl hne]; exact h⟩
theorem keep_grown {w w' : World} {row : Option Nat} (hg : w.grownBy w' row) : Keep (fun i => row = some i) w w' :=
  ⟨hg.os, hg.tape, hg.output, hg.size, fun k hk hn => hg.block k hk (fun e => hn e.symm)⟩
theorem OwB.farNe {E B : Nat} {w : World} {v : Value} {l : List Int} (h : OwB E B w v l) {a : Addr} (ha : v.ownBlock ≠ some a.block) (x : Value) : OwB E B (w.setCell a x) v l := by
  obtain ⟨h1, h2⟩ := h
  refine ⟨h1, h2.imp id ?_⟩
  rintro ⟨g, cap, cur, e1, e2, e3, e4⟩
  refine ⟨g, cap, cur, e1, e2, ?_, e4⟩
  rw [Below.heap_setCell _ _ _ _ ?_]
  · exact e3
  · rintro rfl
    exact ha (by rw [e1]; rfl)
theorem OwB.keepM {E B : Nat} {M : Nat → Prop} {w w' : World} {v : Value} {l : List Int} (h : OwB E B w v l) (k : Keep M w w') (hm : ∀ i, B ≤ i → ¬ M i) : OwB E B w' v l := by
  have hlt := World.ownsRow.lt h
  obtain ⟨h1, h2⟩ := h
  refine ⟨h1, h2.imp id ?_⟩
  rintro ⟨g, cap, cur, e1, e2, e3, e4⟩
  exact ⟨g, cap, cur, e1, e2, by rw [k.block g (by have := Array.getElem?_eq_some_iff.1 e3; exact this.1) (hm _ e2)]; exact e3, e4⟩
theorem OwB.sliceOf {B : Nat} {w : World} {v : Value} {l : List Int} (h : OwB 5 B w v l) : ∃ a n c, v = .slice a n c ∧ n = l.length := by
  rcases h.rd with ⟨rfl, rfl⟩ | ⟨a, cap, rfl, rfl, hm⟩ | ⟨b, off, cap, rfl, hc, hm, hcell⟩
  · exact ⟨_, _, _, rfl, rfl⟩
  · exact ⟨_, _, _, rfl, rfl⟩
  · exact ⟨_, _, _, rfl, rfl⟩
theorem RdB.keepNe {w w' : World} {M : Nat → Prop} {v : Value} {l : List Int} (h : RdB w v l) (k : Keep M w w') (hne : ∀ b off i y, v = .slice (some ⟨b, off, none⟩) l.length i → w.cell? ⟨b, off + y, none⟩ = some (.int .u8 (gB l y)) → ¬ M b) : RdB w' v l := by
  rcases h with h | h | ⟨b, off, cap, e1, e2, e3, e4⟩
  · exact .inl h
  · exact .inr (.inl h)
  · refine .inr <| .inr ⟨b, off, cap, e1, e2, e3, fun i hi => ?_⟩
    rw [k.cell _ (World.block_lt_of_cell? w _ (e4 i hi)) (hne b off cap i e1 (e4 i hi))]
    exact e4 i hi
theorem own_blkK {w : World} {B E g n : Nat} {xs : List Value} (h : w.ownsRow B E 1 (.slice (some ⟨g, 0, none⟩) n n) n xs) : Blk w g xs ∧ B ≤ g := by
  rcases h.2 with ⟨h, _⟩ | ⟨g', cap, cur, e, hb, hg, hn, hc, hs, ht⟩
  · cases h
  · cases e
    refine ⟨⟨E, ?_⟩, hb⟩
    rw [hg, ← ht, List.take_of_length_le (by simp; omega)]
theorem rep_cells (n : Nat) : ((List.replicate n (0 : Int)).map (Value.int .u8)) = (madeCells #[Value.int .u8 0] n).toList := by
  simp only [madeCells, List.map_replicate]
  apply List.ext_getElem
  · simp
  · intro i h1 h2
    simp [Nat.mod_one]
set_option maxHeartbeats 2000000 in
theorem cZero_st (q : Nat) (c : Acc) (t : Value) (r : List Value) (at0 : Int) (n : Nat) (g : Nat) (gc : Array Value) (w : World) (h : Mch w q c t r) (hn : 1 ≤ n) (hn' : n ≤ 131072) :
    Calls Tryz.prog 182 #[.pointer (some ⟨q, 0, none⟩), .int .i64 at0, .int .i64 n, .func (.func g) #[] gc] w fun e w' =>
      e = .returned (.tuple #[]) ∧ InSt w' (fun k => w.heap.size ≤ k ∧ k < w'.heap.size) q at0 (List.replicate n 0) (.func (.func g) #[] gc) r ∧ Keep (· = q) w w' := by
  obtain ⟨i0, hi, hz0, hz1, hz2⟩ := info_parts u8info
  have hlt := h.lt
  have H := Lib.hid h
  have hmx : max (n : Int) 0 = n := by omega
  have h0 : (0 : Int) ≤ n := by omega
  clear h
  go_enter Tryz.func182, Tryz.ntmps182
  go_wp2_with (refine wpList_make_full _ rfl _ _ 22 rfl w.heap.size 5 i0 (.int .u8 0) 1 Tryz.underlying22 hi hz0 hz1 _ _ _ _ n rfl rfl rfl rfl (by rw [hz2]; omega) (by unfold maxLen; omega) (Nat.le_refl _) ?_)
  intro w1 own1 hg1
  obtain ⟨hblk, _⟩ := own_blkK own1
  have b1 : Below w.heap.size w w1 := (Below.refl _ _).grown hg1 (Nat.le_refl _) (fun k hk => by cases hk)
  rw [← rep_cells n] at hblk
  have HB := Lib.hid hblk
  have bl := hblk.lt
  have z1 := b1.size
  clear own1 hg1 hblk
  have hcall := cIn_st q c t r at0 w.heap.size 0 n (List.replicate n 0) g gc w1 (· = w.heap.size) (Blk.below H.out b1 hlt) (by simp; omega) (by simp; omega) (by simp) (by unfold maxLen; omega) rfl (by omega) (fun i hi => by
    have e := Blk.cell HB.out (0 + i)
    simp at hi
    rw [e]
    simp [gB, hi])
  rw [List.length_replicate] at hcall
  have HC := Lib.hid hcall
  clear hcall
  go_wp2_with fail
  refine HC.out.mono ?_
  rintro e w2 ⟨rfl, h2, k2⟩
  have z2 := k2.size
  go_wp2
  go_end0
  refine ⟨rfl, h2.mono (fun i hi => ?_), (Below.keeps b1).trans k2⟩
  rcases hi with rfl | hi
  · omega
  · omega
set_option maxHeartbeats 1000000 in
theorem cZero_none (q : Nat) (at0 n : Int) (g : Nat) (gc : Array Value) (w : World) (hn : n ≤ 0) (hen : ∀ w1, (callFunc g gc).run Tryz.prog w1 = .ok (.enter g gc) w1) (Q : World → Prop)
    (hF : ∀ w1, Below w.heap.size w w1 → Calls Tryz.prog g gc w1 fun e w' => e = .returned (.tuple #[]) ∧ Q w') :
    Calls Tryz.prog 182 #[.pointer (some ⟨q, 0, none⟩), .int .i64 at0, .int .i64 n, .func (.func g) #[] gc] w fun e w' => e = .returned (.tuple #[]) ∧ Q w' := by
  by_cases h9 : n < 0
  · obtain ⟨i0, hi, hz0, hz1, hz2⟩ := info_parts u8info
    have hmx : max n 0 = 0 := by omega
    have HF := Lib.hid hF
    have HE := Lib.hid hen
    clear hF hen
    go_enter Tryz.func182, Tryz.ntmps182
    go_wp2_with (refine wpList_make_full _ rfl _ _ 22 rfl w.heap.size 5 i0 (.int .u8 0) 1 Tryz.underlying22 hi hz0 hz1 _ _ _ _ 0 rfl rfl rfl rfl (by rw [hz2]; omega) (by unfold maxLen; omega) (Nat.le_refl _) ?_)
    intro w1 own1 hg1
    have b1 : Below w.heap.size w w1 := (Below.refl _ _).grown hg1 (Nat.le_refl _) (fun k hk => by cases hk)
    have z1 := b1.size
    clear own1 hg1
    go_wp2_with fail
    refine (cIn_end q at0 _ _ g gc w1 HE.out Q (fun w2 b2 => HF.out w2 (b1.trans (b2.mono z1)))).mono ?_
    rintro e w2 ⟨rfl, hQ⟩
    go_wp2
    go_end0
    exact ⟨rfl, hQ⟩
  · obtain rfl : n = 0 := by omega
    clear h9
    obtain ⟨i0, hi, hz0, hz1, hz2⟩ := info_parts u8info
    have hmx : max (0 : Int) 0 = 0 := by omega
    have HF := Lib.hid hF
    have HE := Lib.hid hen
    clear hF hen
    go_enter Tryz.func182, Tryz.ntmps182
    go_wp2_with (refine wpList_make_full _ rfl _ _ 22 rfl w.heap.size 5 i0 (.int .u8 0) 1 Tryz.underlying22 hi hz0 hz1 _ _ _ _ 0 rfl rfl rfl rfl (by rw [hz2]; omega) (by unfold maxLen; omega) (Nat.le_refl _) ?_)
    intro w1 own1 hg1
    have b1 : Below w.heap.size w w1 := (Below.refl _ _).grown hg1 (Nat.le_refl _) (fun k hk => by cases hk)
    have z1 := b1.size
    clear own1 hg1
    go_wp2_with fail
    refine (cIn_end q at0 _ _ g gc w1 HE.out Q (fun w2 b2 => HF.out w2 (b1.trans (b2.mono z1)))).mono ?_
    rintro e w2 ⟨rfl, hQ⟩
    go_wp2
    go_end0
    exact ⟨rfl, hQ⟩
theorem keep_setRow (w : World) (g : Nat) (cs : Array Value) : Keep (· = g) w (w.setRow g cs) := ⟨rfl, rfl, rfl, by simp [World.setRow], fun k hk hm => setRow_other w g k cs hm⟩
/-- A copy over a row that is known whole: nothing else turns. -/
theorem list_copy {ops : Array Oper} {w : World} {rest : List Oper} {o : Oper} {a : Act} {Q : Exit → Act → World → Prop} (hgd : o.guard = none) (d s : Operand)
    (ho : o.op = .call { callee := .builtin .copy, args := #[d, s], argTypes := #[22, 22] })
    (dp sp : Option Addr) (dLen dCap sLen sCap : Nat) (hd : a.eval d = .slice dp dLen dCap) (hs : a.eval s = .slice sp sLen sCap)
    (g off : Nat) (cur ms : List Int) (hg : Blk w g (cur.map (Value.int .u8))) (hr : RdB w (.slice sp sLen sCap) ms) (hn : ms.length ≤ dLen) (hpos : ms.length ≠ 0 → dp = some ⟨g, off, none⟩) (hfit : off + ms.length ≤ cur.length)
    (h : ∀ w', Hid (Blk w' g ((spl cur off ms).map (Value.int .u8))) → Keep (· = g) w w' → wpList Tryz.prog ops Q rest (a.put o.dst (goInt ms.length)) w') :
    wpList Tryz.prog ops Q (o :: rest) a w := by
  have hl := rd_len hr
  obtain ⟨T, hg⟩ := hg
  by_cases h0 : ms.length = 0
  · obtain rfl : ms = [] := List.eq_nil_of_length_eq_zero h0
    simp at hl
    subst hl
    refine wpList_copy_nothing hgd d s _ _ ho 5 Tryz.underlying22 (by kernel_rfl) dp sp dLen dCap 0 sCap hd hs (by simp) ?_
    exact h w (show Blk _ _ _ from ⟨T, by rw [spl_nil]; exact hg⟩) (Keep.refl _ _)
  · obtain rfl := hpos h0
    rcases hr with ⟨_, e⟩ | ⟨_, _, _, e, _⟩ | ⟨b, o', cap, e, e2, e3, e4⟩
    · rw [e] at h0
      exact absurd rfl h0
    · rw [e] at h0
      exact absurd rfl h0
    · cases e
      have hml : (ms.map (Value.int .u8)).length = ms.length := by simp
      refine wpList_copy_own hgd d s _ _ ho 5 Tryz.underlying22 (by kernel_rfl) g off dLen dCap ⟨b, o', none⟩ _ _ hd hs (cur.map (Value.int .u8)).toArray T hg (ms.map (Value.int .u8)) (by rw [hml]; exact (Nat.min_eq_left hn).symm) ?_ (by simpa using hfit) (ones_u8 _) ?_
      · intro j v hj
        have hjl : j < ms.length := by
          have := (List.getElem?_eq_some_iff.1 hj).1
          simpa using this
        have e5 := e4 j hjl
        have e6 : (⟨b, o', none⟩ : Addr).add j = ⟨b, o' + j, none⟩ := by unfold Addr.add; split <;> simp_all
        rw [e6, e5]
        rw [← hj]
        simp [gB, hjl]
      · rw [hml]
        refine h _ (show Blk _ _ _ from ⟨T, ?_⟩) (keep_setRow _ _ _)
        rw [setRow_heap w g _ _ T _ hg]
        simp [spl]
end Go.Proofs.YtknahaaefmlcpaaGreat
