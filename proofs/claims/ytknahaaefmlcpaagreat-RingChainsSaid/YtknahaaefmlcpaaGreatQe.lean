/- Contracts of the reference's Put of anything, and of law07.same. Conditions: as each says. The walk of the law RingputSteps. Conditions: the numbers are in their kinds' ranges. -/
import Derived.Test.YtknahaaefmlcpaaGreatQc
import Derived.Test.YtknahaaefmlcpaaGreatQb
import Derived.Test.YtknahaaefmlcpaaGreatTc
section
namespace Go.Proofs.YtknahaaefmlcpaaGreat
set_option maxRecDepth 100000
open Go.RowKit
set_option linter.unusedVariables false
set_option linter.unusedSimpArgs false
theorem TOk.mk1 {w0 w1 : World} {t0 : Option Addr} {c tb : Nat} {T : List AnsV} (hT : RdA w0 (.slice t0 T.length c) T) (hS : Sls T) (hTs : RdAs w0 T) (hlen : T.length ≤ 1000000) (b : Below w0.heap.size w0 w1) (ht : w0.heap.size ≤ tb) : TOk w1 tb (.slice t0 T.length c) T := by
 refine ⟨hT.below b, hS, hTs.below b, fun h0 e => ?_, fun i hi h0 e => ?_, hlen⟩
 ·have := hT.blk (by omega) tb e
  omega
 ·have := (hTs i hi).blk h0 tb e
  omega
set_option maxHeartbeats 1000000 in
theorem refPut_any (tb k0 : Nat) (tv : Value) (T : List AnsV) (b s typ : Int) (s0 : Option Addr) (sl sc : Nat) (l : List Int) (w : World) (h : Tp w tb tv k0 accZ false) (hT : TOk w tb tv T) (hk : k0 ≤ T.length) (hu : ∀ i, i < T.length → inU (gA T i).v)
  (hr : RdB w (.slice s0 sl sc) l) (hb : l.length ≠ 0 → (Value.slice s0 sl sc).ownBlock ≠ some tb) (hb0 : -9223372036854775808 ≤ b) (hb1 : b ≤ 9223372036854775807) (hs0 : -9223372036854775808 ≤ s) (hs1 : s ≤ 9223372036854775807) (htyp : typ ≤ 2147483647) :
  Calls Tryz.prog 72 #[.pointer (some ⟨tb, 0, none⟩), .agg #[.int .i64 b, .int .i64 s], .int .i32 typ, .slice s0 sl sc] w (PutSaid w tb tv T ((PutC.init ⟨b, s, typ, l⟩).eat (ans T k0))) := by
 by_cases hok : (PutC.mk b s typ l).ok = true
 ·exact refPut_ok tb k0 tv T b s typ s0 sl sc l w h hT hk hu hr hb hok hb0 hb1 hs0 hs1 htyp
 have hok' : (PutC.mk b s typ l).ok = false := by simpa using hok
 have hsl := rd_len hr
 have HSL := Lib.hid hsl
 have H := Lib.hid h
 have hlt := h.lt
 have fin : ∀ (e : Int) (w' : World), PutC.init ⟨b, s, typ, l⟩ = ⟨⟨b, s, typ, l⟩, .done, 0, 0, false, e⟩ → Below w.heap.size w w' → PutSaid w tb tv T ((PutC.init ⟨b, s, typ, l⟩).eat (ans T k0)) (.returned (.tuple #[.int .i64 0, .bool false, .int .i64 e])) w' := by
  intro e w' hi bb
  rw [hi, PutM.eat_done rfl]
  refine ⟨Below.keeps bb, rfl, .inr ⟨rfl, ?_⟩⟩
  rw [ans_len, show T.length - (T.length - k0) = k0 by omega]
  exact Blk.below H.out bb hlt
 have FIN := Lib.hid fin
 clear fin hsl
 by_cases hg : rgOk b s = true
 ·obtain ⟨r1, r2, r3, r4, r5, r6⟩ := rgOk_bd hg
  have RG := Lib.hid hg
  clear r1
  by_cases ht : typ < 1
  ·have hI : PutC.init ⟨b, s, typ, l⟩ = ⟨⟨b, s, typ, l⟩, .done, 0, 0, false, 1⟩ := by
    have hto : ¬ 1 ≤ typ := by omega
    unfold PutC.init PutC.e0
    rw [hok']
    simp [hg, hto]
   have HI := Lib.hid hI
   clear hI hok hok' hg h hT hr
   go_enter Tryz.func72, Tryz.ntmps72
   go_wp2_with fail
   refine (rRight_any b s _ hb0 hb1 hs0 hs1).mono ?_
   rintro e w1 ⟨rfl, b1⟩
   rw [RG.out]
   go_wp2
   go_ret3
   exact FIN.out 1 _ HI.out (((Below.refl w.heap.size w).alloc (Nat.le_refl _) _).trans (b1.mono (by simp)))
  ·have hle : ¬ (l.length : Int) ≤ s / 8 := by
    intro h9
    apply hok
    unfold PutC.ok
    simp [hg, show 1 ≤ typ by omega, h9]
   have hI : PutC.init ⟨b, s, typ, l⟩ = ⟨⟨b, s, typ, l⟩, .done, 0, 0, false, 4⟩ := by
    unfold PutC.init PutC.e0
    rw [hok']
    simp [hg, show 1 ≤ typ by omega, hle]
   have HI := Lib.hid hI
   have hs8 : s.tdiv 8 = s / 8 := Int.tdiv_eq_ediv_of_nonneg (by omega)
   have W8' : IntKind.i64.wrap (s.tdiv 8) = s.tdiv 8 := IntWalk.i64_in _ ⟨by omega, by omega⟩
   have W8 : IntKind.i64.wrap (s / 8) = s / 8 := IntWalk.i64_in _ ⟨by omega, by omega⟩
   have hlen' : s.tdiv 8 < (sl : Int) := by have := HSL.out; omega
   clear hI hok hok' hg h hT hr hle
   go_enter Tryz.func72, Tryz.ntmps72
   go_wp2_with fail
   refine (rRight_any b s _ hb0 hb1 hs0 hs1).mono ?_
   rintro e w1 ⟨rfl, b1⟩
   rw [RG.out]
   have z1 := b1.size
   simp at z1
   have X1 := Lib.hid (Blk.below (Blk.made w #[.int .i64 b, .int .i64 s] 26) b1 (by simp))
   have B1 := Lib.hid (((Below.refl w.heap.size w).alloc (Nat.le_refl _) (.cells #[.int .i64 b, .int .i64 s] 26)).trans (b1.mono (by simp)))
   have x1 := X1.out.cell 1
   simp only [List.getElem?_toArray, List.getElem?_cons_zero, List.getElem?_cons_succ] at x1
   have hx : w.heap.size < w1.heap.size := by omega
   clear b1
   go_wp2
   go_ret3
   exact FIN.out 4 _ HI.out B1.out
 ·have hg' : rgOk b s = false := by simpa using hg
  have RG := Lib.hid hg'
  have hI : PutC.init ⟨b, s, typ, l⟩ = ⟨⟨b, s, typ, l⟩, .done, 0, 0, false, 1⟩ := by
   unfold PutC.init PutC.e0
   rw [hok']
   simp [hg]
  have HI := Lib.hid hI
  clear hI hok hok' hg hg' h hT hr
  go_enter Tryz.func72, Tryz.ntmps72
  go_wp2_with fail
  refine (rRight_any b s _ hb0 hb1 hs0 hs1).mono ?_
  rintro e w1 ⟨rfl, b1⟩
  rw [RG.out]
  go_wp2
  go_ret3
  exact FIN.out 1 _ HI.out (((Below.refl w.heap.size w).alloc (Nat.le_refl _) _).trans (b1.mono (by simp)))
def PutM.told (m : PutM) (T : List AnsV) : PutM := T.foldl (fun m x => m.step x.an) m
end Go.Proofs.YtknahaaefmlcpaaGreat
end
