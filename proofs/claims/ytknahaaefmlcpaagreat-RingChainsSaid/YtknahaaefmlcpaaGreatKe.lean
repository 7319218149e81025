/- What machines have in common: rows and blocks, zeros in parts, the builtin copy. Conditions: as each says. -/
import Derived.Test.YtknahaaefmlcpaaGreatKj
import Derived.Test.YtknahaaefmlcpaaGreatKs
import Derived.Test.YtknahaaefmlcpaaGreatBm
import Derived.Deep.RegionHeld3
import Derived.Deep.RegionLaw
import Derived.Laws.CopyOwn
namespace Go.Proofs.YtknahaaefmlcpaaGreat
set_option maxRecDepth 100000
open Go.RowKit
set_option linter.unusedVariables false
set_option linter.unusedSimpArgs false
theorem OwB.isSliceC {B : Nat} {w : World} {v : Value} {l : List Int} (h : OwB 5 B w v l) : ∃ a n c, v = .slice a n c := by
 rcases h.2 with ⟨rfl, _⟩ | ⟨g, cap, cur, rfl, _⟩
 ·exact ⟨_, _, _, rfl⟩
 ·exact ⟨_, _, _, rfl⟩
theorem OwB.farC {B : Nat} {w : World} {v : Value} {l : List Int} (h : OwB 5 B w v l) {a : Addr} (ha : a.block < B) (x : Value) : OwB 5 B (w.setCell a x) v l := ownsRow_setCell_below h ha x
theorem keep_grown {w w' : World} {row : Option Nat} (hg : w.grownBy w' row) : Keep (fun i => row = some i) w w' :=
 ⟨hg.os, hg.tape, hg.output, hg.size, fun k hk hn => hg.block k hk (fun e => hn e.symm)⟩
theorem OwB.farNe {E B : Nat} {w : World} {v : Value} {l : List Int} (h : OwB E B w v l) {a : Addr} (ha : v.ownBlock ≠ some a.block) (x : Value) : OwB E B (w.setCell a x) v l := by
 obtain ⟨h1, h2⟩ := h
 refine ⟨h1, h2.imp id ?_⟩
 rintro ⟨g, cap, cur, e1, e2, e3, e4⟩
 refine ⟨g, cap, cur, e1, e2, ?_, e4⟩
 rw [Below.heap_setCell _ _ _ _ ?_]
 ·exact e3
 ·rintro rfl
  exact ha (by rw [e1]; rfl)
theorem own_blkK {w : World} {B E g n : Nat} {xs : List Value} (h : w.ownsRow B E 1 (.slice (some ⟨g, 0, none⟩) n n) n xs) : Blk w g xs ∧ B ≤ g := by
 rcases h.2 with ⟨h, _⟩ | ⟨g', cap, cur, e, hb, hg, hn, hc, hs, ht⟩
 ·cases h
 ·cases e
  refine ⟨⟨E, ?_⟩, hb⟩
  rw [hg, ← ht, List.take_of_length_le (by simp; omega)]
theorem rep_cells (n : Nat) : ((List.replicate n (0 : Int)).map (Value.int .u8)) = (madeCells #[Value.int .u8 0] n).toList := by
 simp only [madeCells, List.map_replicate]
 apply List.ext_getElem
 ·simp
 ·intro i h1 h2
  simp [Nat.mod_one]
set_option maxHeartbeats 2000000 in
theorem cZero_st (q : Nat) (c : Acc) (t : Value) (r : List Value) (at0 : Int) (n : Nat) (g : Nat) (gc : Array Value) (w : World) (h : Mch w q c t r) (hn : 1 ≤ n) (hn' : n ≤ 131072) :
  Calls Tryz.prog 182 #[.pointer (some ⟨q, 0, none⟩), .int .i64 at0, .int .i64 n, .func (.func g) #[] gc] w fun e w' =>
   e = .returned (.tuple #[]) ∧ InSt w' (fun k => w.heap.size ≤ k ∧ k < w'.heap.size) q at0 (List.replicate n 0) (.func (.func g) #[] gc) r ∧ Keep (· = q) w w' := by
 obtain ⟨i0, hi, hz0, hz1, hz2⟩ := info_parts u8info
 have hlt := h.lt
 have H := Lib.hid h
 have hmx : max (n : Int) 0 = n := by omega
 have h0 : (0 : Int) ≤ n := by omega
 clear h
 go_enter Tryz.func182, Tryz.ntmps182
 go_wp2_with (refine wpList_make_full _ rfl _ _ 22 rfl w.heap.size 5 i0 (.int .u8 0) 1 Tryz.underlying22 hi hz0 hz1 _ _ _ _ n rfl rfl rfl rfl (by rw [hz2]; omega) (by unfold maxLen; omega) (Nat.le_refl _) ?_)
 intro w1 own1 hg1
 obtain ⟨hblk, _⟩ := own_blkK own1
 have b1 : Below w.heap.size w w1 := (Below.refl _ _).grown hg1 (Nat.le_refl _) (fun k hk => by cases hk)
 rw [← rep_cells n] at hblk
 have HB := Lib.hid hblk
 have bl := hblk.lt
 have z1 := b1.size
 clear own1 hg1 hblk
 have hcall := cIn_st q c t r at0 w.heap.size 0 n (List.replicate n 0) g gc w1 (· = w.heap.size) (Blk.below H.out b1 hlt) (by simp; omega) (by simp; omega) (by simp) (by unfold maxLen; omega) rfl (by omega) (fun i hi => by
  have e := Blk.cell HB.out (0 + i)
  simp at hi
  rw [e]
  simp [gB, hi])
 rw [List.length_replicate] at hcall
 have HC := Lib.hid hcall
 clear hcall
 go_wp2_with fail
 refine HC.out.mono ?_
 rintro e w2 ⟨rfl, h2, k2⟩
 have z2 := k2.size
 go_wp2
 go_end0
 refine ⟨rfl, h2.mono (fun i hi => ?_), (Below.keeps b1).trans k2⟩
 rcases hi with rfl | hi
 ·omega
 ·omega
end Go.Proofs.YtknahaaefmlcpaaGreat
