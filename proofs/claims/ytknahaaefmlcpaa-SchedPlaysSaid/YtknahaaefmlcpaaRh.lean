/- What an access does to a buffer, and to bytes, refused or not. Conditions: as each says. -/
import Derived.Test.YtknahaaefmlcpaaRg
import Derived.Test.YtknahaaefmlcpaaBm
import Derived.Test.YtknahaaefmlcpaaGa
namespace Go.Proofs.Ytknahaaefmlcpaa
set_option maxRecDepth 100000
open Go.RowKit
set_option linter.unusedVariables false
set_option linter.unusedSimpArgs false
/-- What an access tells, refused or not. -/
def AA.ansE (c : AA) (bs : List Int) : AN := if c.err bs.length = 0 then c.ans bs else anZ
def AA.outE (c : AA) (bs : List Int) : List Int := if c.err bs.length = 0 then c.out bs else bs
theorem AA.outE_len (c : AA) (bs : List Int) : (c.outE bs).length = bs.length := by
  unfold AA.outE
  split
  · rename_i h
    exact AA.out_len h
  · rfl
theorem mDo_all (p c : Nat) (cnt : Int) (bs : List Int) (A : AA) (s0 : Option Addr) (sl sc : Nat) (w : World) (h : Buf w p c cnt bs) (hc0 : 0 ≤ cnt) (hc1 : cnt ≤ 4611686018427387904) (hwf : A.wf) (hB : RdB w (.slice s0 sl sc) A.b) :
    Calls Try.prog 25 #[.pointer (some ⟨p, 0, none⟩), A.V (.slice s0 sl sc)] w fun e w' => ∃ r0 rl rc cnt', e = .returned (.tuple #[.agg #[.int .u64 (A.ansE bs).v, .bool (A.ansE bs).d, .slice r0 rl rc], .int .i64 (A.err bs.length)]) ∧ OwB 5 w.heap.size w' (.slice r0 rl rc) (A.ansE bs).b ∧ Buf w' p c cnt' (A.outE bs) ∧ cnt ≤ cnt' ∧ cnt' ≤ cnt + 1 ∧ Keep (fun k => k = p ∨ k = c) w w' := by
  by_cases he : A.err bs.length = 0
  · have hle := h.le
    obtain ⟨hz, h0, h1, h2, h3, h4, h5⟩ := acE_ok he (by omega)
    have e1 : A.ansE bs = A.ans bs := if_pos he
    have e2 : A.outE bs = A.out bs := if_pos he
    rw [e1, e2, he]
    clear e1 e2
    obtain ⟨k, a, n, v, x, b⟩ := A
    dsimp only at h0 h3
    obtain ⟨a, rfl⟩ := Int.eq_ofNat_of_zero_le h0
    obtain ⟨n, rfl⟩ := Int.eq_ofNat_of_zero_le h3
    have hl := rd_len hB
    dsimp only at hl hB
    refine (mDo_ok p c cnt bs k a n v x s0 sl sc b w h hc0 hc1 hwf.v0 hwf.v1 hwf.x0 hwf.x1 hB hwf.b (by rw [hl]; exact he)).mono ?_
    rintro e w' ⟨s, rfl, o, hb, k⟩
    obtain ⟨r0, rl, rc, rfl⟩ := o.isSliceC
    exact ⟨r0, rl, rc, cnt + 1, rfl, o, hb, by omega, by omega, k⟩
  · have e1 : A.ansE bs = anZ := if_neg he
    have e2 : A.outE bs = bs := if_neg he
    rw [e1, e2]
    have hl := rd_len hB
    refine (mDo_bad p c cnt bs A.k A.a A.n A.v A.x s0 sl sc w h (by rw [hl]; exact he)).mono ?_
    rintro e w' ⟨rfl, b⟩
    refine ⟨none, 0, 0, cnt, ?_, OwB.nil _ _ _, h.belows b, by omega, by omega, Below.keeps b⟩
    have e3 : A.err bs.length = acE bs.length A.k A.a A.n sl := by rw [hl]; rfl
    rw [e3]
    rfl
theorem rDo_all (g : Nat) (bs : List Int) (A : AA) (s0 : Option Addr) (sl sc : Nat) (w : World) (hg : Blk w g (bs.map (Value.int .u8))) (hib : IsB bs) (hl : bs.length ≤ 131072) (hwf : A.wf) (hB : RdB w (.slice s0 sl sc) A.b) (hne : A.b.length ≠ 0 → ∀ i, (Value.slice s0 sl sc).ownBlock = some i → i ≠ g) :
    Calls Try.prog 35 #[.slice (some ⟨g, 0, none⟩) bs.length bs.length, A.V (.slice s0 sl sc)] w fun e w' => ∃ r0 rl rc, e = .returned (.tuple #[.agg #[.int .u64 (A.ansE bs).v, .bool (A.ansE bs).d, .slice r0 rl rc], .int .i64 (A.err bs.length)]) ∧ OwB 5 w.heap.size w' (.slice r0 rl rc) (A.ansE bs).b ∧ Blk w' g ((A.outE bs).map (Value.int .u8)) ∧ Keep (· = g) w w' := by
  by_cases he : A.err bs.length = 0
  · have e1 : A.ansE bs = A.ans bs := if_pos he
    have e2 : A.outE bs = A.out bs := if_pos he
    rw [e1, e2, he]
    exact rDo_ok g bs A s0 sl sc w hg hib hl hwf hB hne he
  · have e1 : A.ansE bs = anZ := if_neg he
    have e2 : A.outE bs = bs := if_neg he
    rw [e1, e2]
    have hsl := rd_len hB
    refine (rDo_bad (some ⟨g, 0, none⟩) bs.length bs.length A.k A.a A.n A.v A.x s0 sl sc w hl (by rw [hsl]; exact he)).mono ?_
    rintro e w' ⟨rfl, b⟩
    refine ⟨none, 0, 0, ?_, OwB.nil _ _ _, hg.below b hg.lt, Below.keeps b⟩
    have e3 : A.err bs.length = acE bs.length A.k A.a A.n sl := by rw [hsl]; rfl
    rw [e3]
    rfl
end Go.Proofs.Ytknahaaefmlcpaa
