/- What a record's bytes are while a put writes it. No program in sight. Conditions: none. -/
import Derived.Test.YtpicplkbblmbeaaRa
import Derived.Test.YtpicplkbblmbeaaPe
namespace Go.Proofs.Ytpicplkbblmbeaa
open Go.RowKit
set_option linter.unusedVariables false
/-- A row of zeros. -/
def zs (n : Nat) : List Int := List.replicate n 0
theorem zs_len (n : Nat) : (zs n).length = n := by simp [zs]
/-- A record's bytes, so many of them written: its header, the bytes written, zeros up to so many. -/
def rcB (hd : Int) (d : List Int) (N : Nat) : List Int := leB hd 8 ++ (d ++ zs (N - 8 - d.length))
theorem rcB_len {hd : Int} {d : List Int} {N : Nat} (h : 8 + d.length ≤ N) : (rcB hd d N).length = N := by
  unfold rcB
  simp [leB_length, zs_len]
  omega
theorem zs_drop (n k : Nat) : (zs n).drop k = zs (n - k) := by simp [zs]
theorem zs_take (n k : Nat) : (zs n).take k = zs (min k n) := by simp [zs]
theorem zs_app (n k : Nat) : zs n ++ zs k = zs (n + k) := by simp [zs, List.replicate_append_replicate]
/-- The header is written. -/
theorem spl_head (hd : Int) {N : Nat} (h : 8 ≤ N) : spl (zs N) 0 (leB hd 8) = rcB hd [] N := by
  unfold spl rcB
  simp [leB_length, zs_drop]
/-- Bytes are written behind those that are. -/
theorem spl_body (hd : Int) (d : List Int) (N k : Nat) (h : 8 + d.length ≤ N) (hk : k ≤ d.length) : spl (rcB hd (d.take k) N) (8 + k) ((d.drop k).take 8) = rcB hd (d.take (k + 8)) N := by
  have l8 := leB_length hd 8
  have lk : (d.take k).length = k := by simp; omega
  have lc : ((d.drop k).take 8).length = min 8 (d.length - k) := by simp
  have lk8 : (d.take (k + 8)).length = min (k + 8) d.length := by simp
  have e1 : (rcB hd (d.take k) N).take (8 + k) = leB hd 8 ++ d.take k := by
    unfold rcB
    rw [List.take_append, l8, List.take_of_length_le (by omega), List.take_append, lk]
    rw [show 8 + k - 8 = k by omega, List.take_of_length_le (show (d.take k).length ≤ k by omega), show k - k = 0 by omega]
    simp
  have e2 : (rcB hd (d.take k) N).drop (8 + k + ((d.drop k).take 8).length) = zs (N - 8 - (d.take (k + 8)).length) := by
    unfold rcB
    rw [List.drop_append, l8, List.drop_eq_nil_of_le (by omega), List.nil_append, List.drop_append, lk]
    rw [List.drop_eq_nil_of_le (by omega), List.nil_append, zs_drop]
    congr 1
    omega
  have e3 : d.take (k + 8) = d.take k ++ (d.drop k).take 8 := by rw [List.take_add]
  unfold spl
  rw [e1, e2]
  unfold rcB
  have e4 : N - 8 - (d.take (k + 8)).length = N - 8 - (d.take k ++ (d.drop k).take 8).length := by rw [← e3]
  rw [e4, e3]
  simp only [List.append_assoc]
/-- The header's length is written anew. -/
theorem leB_lo (a b n : Int) (t : Int) : leB (recS b t) 4 ++ (leB (recS a t) 8).drop 4 = leB (recS b t) 8 := by
  have h1 : (leB (recS b t) 8).take 4 = leB (recS b t) 4 := leB_take _ _ _ (by omega)
  have h2 : (leB (recS a t) 8).drop 4 = (leB (recS b t) 8).drop 4 := by
    rw [leB_drop, leB_drop]
    congr 1
    unfold recS
    have e : (256 : Int) ^ 4 = 4294967296 := by decide
    rw [e]
    omega
  rw [h2, ← h1, List.take_append_drop]
theorem leB_recS4 (n t : Int) (h0 : 0 ≤ n) (h1 : n < 4294967296) : leB (recS n t) 4 = leB n 4 := by
  have e : ∀ v : Int, leB v 4 = [v % 256, v / 256 % 256, v / 65536 % 256, v / 16777216 % 256] := by
    intro v
    rw [leB_snoc, leB_snoc, leB_snoc, leB_snoc]
    have e0 : leB v 0 = [] := List.eq_nil_of_length_eq_zero (leB_length v 0)
    rw [e0]
    simp
  rw [e, e]
  unfold recS
  have a1 : (t % 4294967296 * 4294967296 + n % 4294967296) % 256 = n % 256 := by omega
  have a2 : (t % 4294967296 * 4294967296 + n % 4294967296) / 256 % 256 = n / 256 % 256 := by omega
  have a3 : (t % 4294967296 * 4294967296 + n % 4294967296) / 65536 % 256 = n / 65536 % 256 := by omega
  have a4 : (t % 4294967296 * 4294967296 + n % 4294967296) / 16777216 % 256 = n / 16777216 % 256 := by omega
  rw [a1, a2, a3, a4]
theorem spl_whole (a n t : Int) (d : List Int) (N : Nat) (h : 8 + d.length ≤ N) (h0 : 0 ≤ n) (h1 : n < 4294967296) : spl (rcB (recS a t) d N) 0 (leB n 4) = rcB (recS n t) d N := by
  have l4 := leB_length n 4
  have l8 := leB_length (recS a t) 8
  unfold spl rcB
  rw [List.take_zero, List.nil_append, l4, List.drop_append, l8, show 0 + 4 - 8 = 0 by omega, List.drop_zero, ← List.append_assoc, ← leB_recS4 n t h0 h1]
  rw [show 0 + 4 = 4 by omega, leB_lo a n n t]
/-- A record's header, read. -/
theorem rcB_head (hd : Int) (d : List Int) (N : Nat) (h0 : 0 ≤ hd) (h1 : hd ≤ 18446744073709551615) : leN ((rcB hd d N).take 8) = hd := by
  unfold rcB
  rw [List.take_append, leB_length, List.take_of_length_le (by rw [leB_length]; omega), show 8 - 8 = 0 by omega, List.take_zero, List.append_nil, leN_leB]
  have e : (256 : Int) ^ 8 = 18446744073709551616 := by decide
  rw [e]
  omega
theorem recS_lo (n t : Int) (h0 : -2147483648 ≤ n) (h1 : n ≤ 2147483647) : loS (recS n t) = n := by
  unfold loS recS wrap32
  omega
theorem recS_hi (n t : Int) (h0 : -2147483648 ≤ t) (h1 : t ≤ 2147483647) : hiS (recS n t) = t := by
  unfold hiS recS wrap32
  omega
end Go.Proofs.Ytpicplkbblmbeaa
