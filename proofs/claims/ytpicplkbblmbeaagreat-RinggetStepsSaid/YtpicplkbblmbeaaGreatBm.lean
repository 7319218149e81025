/- One contract of (*membuf.Buffer).Do for every access that may be. Conditions: the numbers are in their kinds' ranges. -/
import Derived.Test.YtpicplkbblmbeaaGreatBf
import Derived.Test.YtpicplkbblmbeaaGreatBg
import Derived.Test.YtpicplkbblmbeaaGreatBh
namespace Go.Proofs.YtpicplkbblmbeaaGreat
set_option maxRecDepth 100000
open Go.RowKit
set_option linter.unusedVariables false
/-- What an access does to bytes, and what it tells. -/
def doB (bs : List Int) (k : Int) (a n : Nat) (v x : Int) (l : List Int) : List Int :=
  if k = 2 then spl bs a (leB v n) else if k = 3 then spl bs a (leB ((rdN bs a 8 + v) % 18446744073709551616) 8) else if k = 4 then (if rdN bs a n = v % 256 ^ n then spl bs a (leB x n) else bs) else if k = 6 then spl bs a l else bs
def doV (bs : List Int) (k : Int) (a n : Nat) : Int := if k = 1 ∨ k = 4 then rdN bs a n else if k = 3 then rdN bs a 8 else 0
def doD (bs : List Int) (k : Int) (a n : Nat) (v : Int) : Bool := if k = 4 then rdN bs a n == v % 256 ^ n else false
def doR (bs : List Int) (k : Int) (a n : Nat) : List Int := if k = 5 then (bs.drop a).take n else []
theorem acSized_k {k n l : Int} (h : acSized k n l = true) : k = 1 ∨ k = 2 ∨ k = 3 ∨ k = 4 ∨ k = 5 ∨ k = 6 := by
  unfold acSized at h
  split at h
  · omega
  split at h
  · omega
  split at h
  · omega
  split at h
  · omega
  · cases h
theorem mDo_ok (p c : Nat) (cnt : Int) (bs : List Int) (k : Int) (a n : Nat) (v x : Int) (s0 : Option Addr) (sl sc : Nat) (l : List Int) (w : World) (h : Buf w p c cnt bs) (hc0 : 0 ≤ cnt) (hc1 : cnt ≤ 4611686018427387904) (hv0 : 0 ≤ v) (hv1 : v ≤ 18446744073709551615) (hx0 : 0 ≤ x) (hx1 : x ≤ 18446744073709551615)
    (hB : RdB w (.slice s0 sl sc) l) (hBb : IsB l) (he : acE bs.length k a n sl = 0) :
    Calls Tryz.prog 12 #[.pointer (some ⟨p, 0, none⟩), .agg #[.int .i64 k, .int .i64 (a : Int), .int .i64 (n : Int), .int .u64 v, .int .u64 x, .slice s0 sl sc]] w fun e w' =>
      ∃ s, e = .returned (.tuple #[anV (doV bs k a n) (doD bs k a n v) s, .int .i64 0]) ∧ OwB 5 w.heap.size w' s (doR bs k a n) ∧ Buf w' p c (cnt + 1) (doB bs k a n v x l) ∧ Keep (fun k => k = p ∨ k = c) w w' := by
  rcases acSized_k (acE_ok he (by omega)).1 with rfl | rfl | rfl | rfl | rfl | rfl
  · refine (mDo_load p c cnt bs a n v x s0 sl sc w h hc0 hc1 he).mono ?_
    rintro e w' ⟨rfl, hb, hk⟩
    exact ⟨_, rfl, OwB.nil _ _ _, hb, hk⟩
  · refine (mDo_store p c cnt bs a n v x s0 sl sc w h hc0 hc1 he hv0 hv1).mono ?_
    rintro e w' ⟨rfl, hb, hk⟩
    exact ⟨_, rfl, OwB.nil _ _ _, hb, hk⟩
  · refine (mDo_add p c cnt bs a n v x s0 sl sc w h hc0 hc1 he hv0 hv1).mono ?_
    rintro e w' ⟨rfl, hb, hk⟩
    exact ⟨_, rfl, OwB.nil _ _ _, hb, hk⟩
  · refine (mDo_cas p c cnt bs a n v x s0 sl sc w h hc0 hc1 he hv0 hv1 hx0 hx1).mono ?_
    rintro e w' ⟨rfl, hb, hk⟩
    exact ⟨_, rfl, OwB.nil _ _ _, hb, hk⟩
  · refine (mDo_read p c cnt bs a n v x s0 sl sc w h hc0 hc1 he).mono ?_
    rintro e w' ⟨s, rfl, ho, hb, hk⟩
    exact ⟨_, rfl, ho, hb, hk⟩
  · refine (mDo_write p c cnt bs a n v x s0 sl sc w h hc0 hc1 he l hB hBb).mono ?_
    rintro e w' ⟨rfl, hb, hk⟩
    exact ⟨_, rfl, OwB.nil _ _ _, hb, hk⟩
theorem rd_len {w : World} {s0 : Option Addr} {sl sc : Nat} {l : List Int} (h : RdB w (.slice s0 sl sc) l) : sl = l.length := by
  rcases h with ⟨e, rfl⟩ | ⟨_, _, e, rfl, _⟩ | ⟨_, _, _, e, _⟩
  · cases e
    rfl
  · cases e
    rfl
  · cases e
    rfl
/-- What an access does to bytes lies in its own. -/
theorem doB_own {bs l : List Int} {k v x : Int} {a n : Nat} (he : acE bs.length k a n l.length = 0) (i : Nat) (hi : ¬ (a ≤ i ∧ i < a + n)) : gB (doB bs k a n v x l) i = gB bs i := by
  obtain ⟨hz, h0, h1, h2, h3, h4, h5⟩ := acE_ok he (by omega)
  have key : ∀ ms : List Int, ms.length = n → gB (spl bs a ms) i = gB bs i := by
    intro ms hm
    by_cases c : i < a
    · exact spl_lt _ _ _ (by omega) _ c
    · exact spl_ge _ _ _ (by omega) _ (by omega)
  unfold doB
  split
  · exact key _ (leB_length _ _)
  split
  · rename_i c1 c2
    have : n = 8 := by
      subst c2
      simp [acSized] at hz
      omega
    subst this
    exact key _ (leB_length _ _)
  split
  · split
    · exact key _ (leB_length _ _)
    · rfl
  split
  · rename_i c1 c2 c3 c4
    have : n = l.length := by
      subst c4
      simp [acSized] at hz
      omega
    exact key _ this.symm
  · rfl
theorem doB_len {bs l : List Int} {k v x : Int} {a n : Nat} (he : acE bs.length k a n l.length = 0) : (doB bs k a n v x l).length = bs.length := by
  obtain ⟨hz, h0, h1, h2, h3, h4, h5⟩ := acE_ok he (by omega)
  unfold doB
  split
  · exact spl_len _ _ _ (by rw [leB_length]; omega)
  split
  · rename_i c1 c2
    have : n = 8 := by
      subst c2
      simp [acSized] at hz
      omega
    subst this
    exact spl_len _ _ _ (by rw [leB_length]; omega)
  split
  · split
    · exact spl_len _ _ _ (by rw [leB_length]; omega)
    · rfl
  split
  · rename_i c1 c2 c3 c4
    have : n = l.length := by
      subst c4
      simp [acSized] at hz
      omega
    exact spl_len _ _ _ (by omega)
  · rfl
end Go.Proofs.YtpicplkbblmbeaaGreat
