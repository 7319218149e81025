/- The law WordBytes walked: true, and nothing that was there has turned. Conditions: the arguments are in their kinds' ranges; the table of math/bits holds what the text of the library lays. -/
import Derived.Test.YtmlmchgigepleaaDoorLa
namespace Go.Proofs.YtmlmchgigepleaaDoor
open Go.RowKit
set_option linter.unusedVariables false
theorem take_leB8 (x : Int) (h0 : 0 ≤ x) (h1 : x ≤ 18446744073709551615) : leN ((byS x 8).take 8) = x := by
  have e : byS x 8 = leB x 8 := by unfold byS; rw [if_pos (by omega)]; rfl
  rw [e, List.take_of_length_le (by simp [leB_length]), leN_leB]
  have : (256 : Int) ^ 8 = 18446744073709551616 := by decide
  rw [this]; omega
set_option maxHeartbeats 16000000 in
/-- law01.WordBytes -/
theorem wordBytes_walk (x : Int) (wx : (Lit.int .u64 x).wf = true) (n : Int) (wn : (Lit.int .i64 n).wf = true) (v : Value) (l : List Int) (w : World) (hr : RdB w v l) (hl : IsB l) (hT : TabOk w) :
    Calls Tryd.prog 5 #[.int .u64 x, .int .i64 n, v] w fun e w' => e = .returned (.bool true) ∧ Below w.heap.size w w' := by
  obtain ⟨n0, n1⟩ := i64_bd wn
  obtain ⟨x0, x1⟩ := u64_bd wx
  have HT := Lib.hid hT
  have HR := Lib.hid hr
  have e8 := take_leB8 x x0 x1
  clear wn wx hT
  rcases hr with ⟨rfl, rfl⟩ | ⟨a, cap, rfl, rfl, hm⟩ | ⟨b, off, cap, rfl, hc, hm, hcell⟩
  · go_enter Tryd.func5, Tryd.ntmps5
    go_wp2_with (go_at_call 10; refine (fixed01_any _ HT.out).mono ?_; rintro e w1 ⟨rfl, hb⟩; have HR1 := Lib.hid (HR.out.past hb rfl))
    go_region_with ((first
      | (go_at_call_of 19 (Value.int IntKind.i64 8); refine (wBytes_all _ _ _ x0 x1).mono ?_; rintro e w4 ⟨v4, rfl, own4, hb4⟩)
      | (go_at_call 19; refine (wBytes_all _ _ _ x0 x1).mono ?_; rintro e w2 ⟨v2, rfl, own2, hb2⟩; have hcv2 := conv_rd 32 9 Tryd.underlying32 Tryd.underlying9 own2.rd)
      | (go_at_call 20; refine (refBytes_all _ _ _ x0 x1).mono ?_; rintro e w3 ⟨v3, rfl, own3, hb3⟩; have hcv3 := conv_rd 32 9 Tryd.underlying32 Tryd.underlying9 own3.rd; have hcv2' := conv_rd 32 9 Tryd.underlying32 Tryd.underlying9 (own2.rd.past hb3 rfl); have HR3 := Lib.hid ((HR1.out.past hb2 rfl).past hb3 rfl))
      | (go_at_call_of 21 (Value.slice none 0 0); refine (wNumber_any _ _ _ HR3.out hl).mono ?_; rintro e w' ⟨rfl, rfl⟩)
      | (go_at_call 21; refine (wNumber_any _ _ _ own4.rd (byS_is _ _)).mono ?_; rintro e w' ⟨rfl, rfl⟩)
      | (go_at_call 22; refine (refNumber_any _ _ _ HR3.out hl).mono ?_; rintro e w' ⟨rfl, rfl⟩)))
    all_goals
      go_wp2
      go_ret
      exact ⟨rfl, hb.trans ((Below.trans (Below.drew (Below.refl _ _)) (hb2.mono (Nat.le_refl _) |>.trans (hb3.mono hb2.size) |>.trans (hb4.mono (Nat.le_trans hb2.size hb3.size)))).mono hb.size)⟩
  · go_enter Tryd.func5, Tryd.ntmps5
    go_wp2_with (go_at_call 10; refine (fixed01_any _ HT.out).mono ?_; rintro e w1 ⟨rfl, hb⟩; have HR1 := Lib.hid (HR.out.past hb rfl))
    go_region_with ((first
      | (go_at_call_of 19 (Value.int IntKind.i64 8); refine (wBytes_all _ _ _ x0 x1).mono ?_; rintro e w4 ⟨v4, rfl, own4, hb4⟩)
      | (go_at_call 19; refine (wBytes_all _ _ _ x0 x1).mono ?_; rintro e w2 ⟨v2, rfl, own2, hb2⟩; have hcv2 := conv_rd 32 9 Tryd.underlying32 Tryd.underlying9 own2.rd)
      | (go_at_call 20; refine (refBytes_all _ _ _ x0 x1).mono ?_; rintro e w3 ⟨v3, rfl, own3, hb3⟩; have hcv3 := conv_rd 32 9 Tryd.underlying32 Tryd.underlying9 own3.rd; have hcv2' := conv_rd 32 9 Tryd.underlying32 Tryd.underlying9 (own2.rd.past hb3 rfl); have HR3 := Lib.hid ((HR1.out.past hb2 rfl).past hb3 rfl))
      | (go_at_call_of 21 (Value.slice (some a) 0 cap); refine (wNumber_any _ _ _ HR3.out hl).mono ?_; rintro e w' ⟨rfl, rfl⟩)
      | (go_at_call 21; refine (wNumber_any _ _ _ own4.rd (byS_is _ _)).mono ?_; rintro e w' ⟨rfl, rfl⟩)
      | (go_at_call 22; refine (refNumber_any _ _ _ HR3.out hl).mono ?_; rintro e w' ⟨rfl, rfl⟩)))
    all_goals
      go_wp2
      go_ret
      exact ⟨rfl, hb.trans ((Below.trans (Below.drew (Below.refl _ _)) (hb2.mono (Nat.le_refl _) |>.trans (hb3.mono hb2.size) |>.trans (hb4.mono (Nat.le_trans hb2.size hb3.size)))).mono hb.size)⟩
  · clear hcell
    by_cases h2000 : 2000 < (l.length : Int)
    · go_enter Tryd.func5, Tryd.ntmps5
      go_wp2_with (go_at_call 10; refine (fixed01_any _ HT.out).mono ?_; rintro e w1 ⟨rfl, hb⟩; have HR1 := Lib.hid (HR.out.past hb rfl))
      go_ret
      exact ⟨rfl, hb⟩
    · go_enter Tryd.func5, Tryd.ntmps5
      go_wp2_with (go_at_call 10; refine (fixed01_any _ HT.out).mono ?_; rintro e w1 ⟨rfl, hb⟩; have HR1 := Lib.hid (HR.out.past hb rfl))
      go_region_with ((first
        | (go_at_call_of 19 (Value.int IntKind.i64 8); refine (wBytes_all _ _ _ x0 x1).mono ?_; rintro e w4 ⟨v4, rfl, own4, hb4⟩)
        | (go_at_call 19; refine (wBytes_all _ _ _ x0 x1).mono ?_; rintro e w2 ⟨v2, rfl, own2, hb2⟩; have hcv2 := conv_rd 32 9 Tryd.underlying32 Tryd.underlying9 own2.rd)
        | (go_at_call 20; refine (refBytes_all _ _ _ x0 x1).mono ?_; rintro e w3 ⟨v3, rfl, own3, hb3⟩; have hcv3 := conv_rd 32 9 Tryd.underlying32 Tryd.underlying9 own3.rd; have hcv2' := conv_rd 32 9 Tryd.underlying32 Tryd.underlying9 (own2.rd.past hb3 rfl); have HR3 := Lib.hid ((HR1.out.past hb2 rfl).past hb3 rfl))
        | (go_at_call_of 21 (Value.slice (some ⟨b, off, none⟩) l.length cap); refine (wNumber_any _ _ _ HR3.out hl).mono ?_; rintro e w' ⟨rfl, rfl⟩)
        | (go_at_call 21; refine (wNumber_any _ _ _ own4.rd (byS_is _ _)).mono ?_; rintro e w' ⟨rfl, rfl⟩)
        | (go_at_call 22; refine (refNumber_any _ _ _ HR3.out hl).mono ?_; rintro e w' ⟨rfl, rfl⟩)))
      all_goals
        go_wp2
        go_ret
        exact ⟨rfl, hb.trans ((Below.trans (Below.drew (Below.refl _ _)) (hb2.mono (Nat.le_refl _) |>.trans (hb3.mono hb2.size) |>.trans (hb4.mono (Nat.le_trans hb2.size hb3.size)))).mono hb.size)⟩
end Go.Proofs.YtmlmchgigepleaaDoor
