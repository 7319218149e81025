/- A ring's bytes, unrolled from a place on. No program in sight. Conditions: none. What a record's bytes are while a put writes it. -/
import Derived.Test.YtggjhleomocojaaGreatBd
import Derived.Test.YtggjhleomocojaaGreatKe
import Derived.Test.YtggjhleomocojaaGreatQb
section
namespace Go.Proofs.YtggjhleomocojaaGreat
open Go.RowKit
set_option linter.unusedVariables false
def un (bs : List Int) (b s h : Nat) : List Int := (bs.drop (b + h)).take (s - h) ++ (bs.drop b).take h
def plc (s h o : Nat) : Nat := if h + o < s then h + o else h + o - s
theorem plc_cases (s h o : Nat) : (h + o < s ∧ plc s h o = h + o) ∨ (s ≤ h + o ∧ plc s h o = h + o - s) := by
 unfold plc
 by_cases h1 : h + o < s
 ·exact .inl ⟨h1, if_pos h1⟩
 ·exact .inr ⟨by omega, if_neg h1⟩
variable {bs : List Int}
theorem un_len {b s h : Nat} (hl : b + s ≤ bs.length) (hh : h ≤ s) : (un bs b s h).length = s := by
 unfold un
 simp
 omega
theorem gB_drop (l : List Int) (a i : Nat) : gB (l.drop a) i = gB l (a + i) := by simp [gB, List.getD]
theorem gB_takeR (l : List Int) (n i : Nat) (h : i < n) : gB (l.take n) i = gB l i := by simp [gB, List.getD, h]
theorem gB_app1 (l m : List Int) (i : Nat) (h : i < l.length) : gB (l ++ m) i = gB l i := by simp [gB, List.getD, List.getElem?_append_left h]
theorem gB_app2 (l m : List Int) (i : Nat) (h : l.length ≤ i) : gB (l ++ m) i = gB m (i - l.length) := by simp [gB, List.getD, List.getElem?_append_right h]
theorem gB_ext {l m : List Int} (hl : l.length = m.length) (h : ∀ i, i < l.length → gB l i = gB m i) : l = m := by
 apply List.ext_getElem hl
 intro i h1 h2
 have := h i h1
 simpa [gB, List.getD, h1, h2] using this
theorem un_at {b s h : Nat} (hl : b + s ≤ bs.length) (hh : h ≤ s) {o : Nat} (ho : o < s) : gB (un bs b s h) o = gB bs (b + plc s h o) := by
 have l1 : ((bs.drop (b + h)).take (s - h)).length = s - h := by simp; omega
 unfold un plc
 by_cases hc : h + o < s
 ·rw [if_pos hc, gB_app1 _ _ _ (by omega), gB_takeR _ _ _ (by omega), gB_drop]
  rw [Nat.add_assoc]
 ·rw [if_neg hc, gB_app2 _ _ _ (by omega), l1, gB_takeR _ _ _ (by omega), gB_drop]
  rw [show b + (o - (s - h)) = b + (h + o - s) by omega]
theorem un_spl {b s h : Nat} (hl : b + s ≤ bs.length) (hh : h < s) {o : Nat} {ms : List Int} (ho : o + ms.length ≤ s) (hx : plc s h o + ms.length ≤ s) : un (spl bs (b + plc s h o) ms) b s h = spl (un bs b s h) o ms := by
 have hsl := spl_len bs (b + plc s h o) ms (by omega)
 have hul := un_len hl (Nat.le_of_lt hh)
 have co := plc_cases s h o
 apply gB_ext
 ·rw [un_len (by rw [hsl]; exact hl) (Nat.le_of_lt hh), spl_len _ _ _ (by omega), hul]
 ·intro i hi
  rw [un_len (by rw [hsl]; exact hl) (Nat.le_of_lt hh)] at hi
  have ci := plc_cases s h i
  rw [un_at (by rw [hsl]; exact hl) (Nat.le_of_lt hh) hi]
  by_cases h1 : i < o
  ·rw [spl_lt (un bs b s h) o ms (by omega) i h1, un_at hl (Nat.le_of_lt hh) hi]
   by_cases h2 : b + plc s h i < b + plc s h o
   ·rw [spl_lt _ _ _ (by omega) _ h2]
   ·rw [spl_ge _ _ _ (by omega) _ (by omega)]
  by_cases h3 : i < o + ms.length
  ·rw [spl_in _ _ _ (by omega) _ (by omega) h3, spl_in _ _ _ (by omega) _ (by omega) (by omega)]
   congr 1
   omega
  ·rw [spl_ge (un bs b s h) o ms (by omega) i (by omega), un_at hl (Nat.le_of_lt hh) hi]
   by_cases h2 : b + plc s h i < b + plc s h o
   ·rw [spl_lt _ _ _ (by omega) _ h2]
   ·rw [spl_ge _ _ _ (by omega) _ (by omega)]
theorem un_take {b s h : Nat} (hl : b + s ≤ bs.length) (hh : h < s) {o n : Nat} (ho : o + n ≤ s) (hx : plc s h o + n ≤ s) : ((un bs b s h).drop o).take n = (bs.drop (b + plc s h o)).take n := by
 have hul := un_len hl (Nat.le_of_lt hh)
 have co := plc_cases s h o
 apply gB_ext
 ·simp
  omega
 ·intro i hi
  simp at hi
  have ci := plc_cases s h (o + i)
  rw [gB_takeR _ _ _ (by omega), gB_takeR _ _ _ (by omega), gB_drop, gB_drop, un_at hl (Nat.le_of_lt hh) (by omega)]
  congr 1
  omega
theorem un_out {b s h a : Nat} {ms : List Int} (hl : b + s ≤ bs.length) (hh : h ≤ s) (ha : a + ms.length ≤ bs.length) (ho : b + s ≤ a ∨ a + ms.length ≤ b) : un (spl bs a ms) b s h = un bs b s h := by
 have hsl := spl_len bs a ms ha
 apply gB_ext
 ·rw [un_len (by rw [hsl]; exact hl) hh, un_len hl hh]
 ·intro i hi
  rw [un_len (by rw [hsl]; exact hl) hh] at hi
  rw [un_at (by rw [hsl]; exact hl) hh hi, un_at hl hh hi]
  have hp : plc s h i < s := by unfold plc; split <;> omega
  rcases ho with ho | ho
  ·rw [spl_lt _ _ _ ha _ (by omega)]
  ·rw [spl_ge _ _ _ ha _ (by omega)]
theorem un_turn {b s h d : Nat} (hl : b + s ≤ bs.length) (hh : h < s) (hd : d ≤ s) : un bs b s ((h + d) % s) = (un bs b s h).drop d ++ (un bs b s h).take d := by
 have hm : (h + d) % s < s := Nat.mod_lt _ (by omega)
 have hm2 : (h + d) % s = if h + d < s then h + d else if h + d < 2 * s then h + d - s else 0 := by
  split
  ·exact Nat.mod_eq_of_lt (by assumption)
  split
  ·rw [Nat.mod_eq_sub_mod (by omega), Nat.mod_eq_of_lt (by omega)]
  ·omega
 have hul := un_len hl (Nat.le_of_lt hh)
 have hdl : ((un bs b s h).drop d).length = s - d := by simp [hul]
 apply gB_ext
 ·rw [un_len hl (by omega)]
  simp [hul]
  omega
 ·intro i hi
  rw [un_len hl (by omega)] at hi
  rw [un_at hl (by omega) hi]
  by_cases hc : i < s - d
  ·rw [gB_app1 _ _ _ (by omega), gB_drop, un_at hl (by omega) (by omega)]
   congr 1
   have c1 := plc_cases s ((h + d) % s) i
   have c2 := plc_cases s h (d + i)
   split at hm2
   ·omega
   split at hm2 <;> omega
  ·rw [gB_app2 _ _ _ (by omega), hdl, gB_takeR _ _ _ (by omega), un_at hl (by omega) (by omega)]
   congr 1
   have c1 := plc_cases s ((h + d) % s) i
   have c2 := plc_cases s h (i - (s - d))
   split at hm2
   ·omega
   split at hm2 <;> omega
def zs (n : Nat) : List Int := List.replicate n 0
theorem zs_len (n : Nat) : (zs n).length = n := by simp [zs]
def rcB (hd : Int) (d : List Int) (N : Nat) : List Int := leB hd 8 ++ (d ++ zs (N - 8 - d.length))
theorem rcB_len {hd : Int} {d : List Int} {N : Nat} (h : 8 + d.length ≤ N) : (rcB hd d N).length = N := by
 unfold rcB
 simp [leB_length, zs_len]
 omega
theorem zs_drop (n k : Nat) : (zs n).drop k = zs (n - k) := by simp [zs]
theorem zs_take (n k : Nat) : (zs n).take k = zs (min k n) := by simp [zs]
theorem zs_app (n k : Nat) : zs n ++ zs k = zs (n + k) := by simp [zs, List.replicate_append_replicate]
theorem spl_head (hd : Int) {N : Nat} (h : 8 ≤ N) : spl (zs N) 0 (leB hd 8) = rcB hd [] N := by
 unfold spl rcB
 simp [leB_length, zs_drop]
theorem spl_body (hd : Int) (d : List Int) (N k : Nat) (h : 8 + d.length ≤ N) (hk : k ≤ d.length) : spl (rcB hd (d.take k) N) (8 + k) ((d.drop k).take 8) = rcB hd (d.take (k + 8)) N := by
 have l8 := leB_length hd 8
 have lk : (d.take k).length = k := by simp; omega
 have lc : ((d.drop k).take 8).length = min 8 (d.length - k) := by simp
 have lk8 : (d.take (k + 8)).length = min (k + 8) d.length := by simp
 have e1 : (rcB hd (d.take k) N).take (8 + k) = leB hd 8 ++ d.take k := by
  unfold rcB
  rw [List.take_append, l8, List.take_of_length_le (by omega), List.take_append, lk]
  rw [show 8 + k - 8 = k by omega, List.take_of_length_le (show (d.take k).length ≤ k by omega), show k - k = 0 by omega]
  simp
 have e2 : (rcB hd (d.take k) N).drop (8 + k + ((d.drop k).take 8).length) = zs (N - 8 - (d.take (k + 8)).length) := by
  unfold rcB
  rw [List.drop_append, l8, List.drop_eq_nil_of_le (by omega), List.nil_append, List.drop_append, lk]
  rw [List.drop_eq_nil_of_le (by omega), List.nil_append, zs_drop]
  congr 1
  omega
 have e3 : d.take (k + 8) = d.take k ++ (d.drop k).take 8 := by rw [List.take_add]
 unfold spl
 rw [e1, e2]
 unfold rcB
 have e4 : N - 8 - (d.take (k + 8)).length = N - 8 - (d.take k ++ (d.drop k).take 8).length := by rw [← e3]
 rw [e4, e3]
 simp only [List.append_assoc]
theorem leB_lo (a b n : Int) (t : Int) : leB (recS b t) 4 ++ (leB (recS a t) 8).drop 4 = leB (recS b t) 8 := by
 have h1 : (leB (recS b t) 8).take 4 = leB (recS b t) 4 := leB_take _ _ _ (by omega)
 have h2 : (leB (recS a t) 8).drop 4 = (leB (recS b t) 8).drop 4 := by
  rw [leB_drop, leB_drop]
  congr 1
  unfold recS
  have e : (256 : Int) ^ 4 = 4294967296 := by decide
  rw [e]
  omega
 rw [h2, ← h1, List.take_append_drop]
theorem leB_recS4 (n t : Int) (h0 : 0 ≤ n) (h1 : n < 4294967296) : leB (recS n t) 4 = leB n 4 := by
 have e : ∀ v : Int, leB v 4 = [v % 256, v / 256 % 256, v / 65536 % 256, v / 16777216 % 256] := by
  intro v
  rw [leB_snoc, leB_snoc, leB_snoc, leB_snoc]
  have e0 : leB v 0 = [] := List.eq_nil_of_length_eq_zero (leB_length v 0)
  rw [e0]
  simp
 rw [e, e]
 unfold recS
 have a1 : (t % 4294967296 * 4294967296 + n % 4294967296) % 256 = n % 256 := by omega
 have a2 : (t % 4294967296 * 4294967296 + n % 4294967296) / 256 % 256 = n / 256 % 256 := by omega
 have a3 : (t % 4294967296 * 4294967296 + n % 4294967296) / 65536 % 256 = n / 65536 % 256 := by omega
 have a4 : (t % 4294967296 * 4294967296 + n % 4294967296) / 16777216 % 256 = n / 16777216 % 256 := by omega
 rw [a1, a2, a3, a4]
theorem spl_whole (a n t : Int) (d : List Int) (N : Nat) (h : 8 + d.length ≤ N) (h0 : 0 ≤ n) (h1 : n < 4294967296) : spl (rcB (recS a t) d N) 0 (leB n 4) = rcB (recS n t) d N := by
 have l4 := leB_length n 4
 have l8 := leB_length (recS a t) 8
 unfold spl rcB
 rw [List.take_zero, List.nil_append, l4, List.drop_append, l8, show 0 + 4 - 8 = 0 by omega, List.drop_zero, ← List.append_assoc, ← leB_recS4 n t h0 h1]
 rw [show 0 + 4 = 4 by omega, leB_lo a n n t]
theorem rcB_head (hd : Int) (d : List Int) (N : Nat) (h0 : 0 ≤ hd) (h1 : hd ≤ 18446744073709551615) : leN ((rcB hd d N).take 8) = hd := by
 unfold rcB
 rw [List.take_append, leB_length, List.take_of_length_le (by rw [leB_length]; omega), show 8 - 8 = 0 by omega, List.take_zero, List.append_nil, leN_leB]
 have e : (256 : Int) ^ 8 = 18446744073709551616 := by decide
 rw [e]
 omega
theorem recS_lo (n t : Int) (h0 : -2147483648 ≤ n) (h1 : n ≤ 2147483647) : loS (recS n t) = n := by
 unfold loS recS wrap32
 omega
theorem recS_hi (n t : Int) (h0 : -2147483648 ≤ t) (h1 : t ≤ 2147483647) : hiS (recS n t) = t := by
 unfold hiS recS wrap32
 omega
theorem mod_add_lt {a x s : Nat} (h : a % s + x < s) : (a + x) % s = a % s + x := by
 rw [Nat.add_mod, ]
 have h1 : x % s = x := Nat.mod_eq_of_lt (by omega)
 rw [h1]
 exact Nat.mod_eq_of_lt h
theorem plc_mod {H s o : Nat} (hs : 0 < s) (ho : o < s) : plc s (H % s) o = (H + o) % s := by
 have h1 : H % s < s := Nat.mod_lt _ hs
 have h2 : (H + o) % s = (H % s + o) % s := by
  have := Nat.add_mod H o s
  rw [this, Nat.mod_eq_of_lt ho]
 rw [h2]
 rcases plc_cases s (H % s) o with ⟨a, e⟩ | ⟨a, e⟩
 ·rw [e, Nat.mod_eq_of_lt a]
 ·have h3 : (H % s + o) % s = (H % s + o - s) % s := Nat.mod_eq_sub_mod a
  rw [e, h3]
  exact (Nat.mod_eq_of_lt (by omega)).symm
theorem rdN_far {bs ms : List Int} {a a' n : Nat} (h : a + ms.length ≤ bs.length) (hd : a' + n ≤ a ∨ a + ms.length ≤ a') : rdN (spl bs a ms) a' n = rdN bs a' n := by
 unfold rdN
 congr 1
 have hl := spl_len bs a ms h
 apply gB_ext
 ·simp [hl]
 ·intro i hi
  simp at hi
  rw [gB_takeR _ _ _ (by omega), gB_takeR _ _ _ (by omega), gB_drop, gB_drop]
  rcases hd with hd | hd
  ·exact spl_lt _ _ _ h _ (by omega)
  ·exact spl_ge _ _ _ h _ (by omega)
theorem rdN_at {bs ms : List Int} {a : Nat} (h : a + ms.length ≤ bs.length) : rdN (spl bs a ms) a ms.length = leN ms := by
 unfold rdN
 congr 1
 have hl := spl_len bs a ms h
 apply gB_ext
 ·simp [hl]
  omega
 ·intro i hi
  simp at hi
  rw [gB_takeR _ _ _ (by omega), gB_drop, spl_in _ _ _ h _ (by omega) (by omega)]
  congr 1
  omega
theorem rdN_num {a : Nat} {v : Int} (h : a + 8 ≤ bs.length) (h0 : 0 ≤ v) (h1 : v ≤ 18446744073709551615) : rdN (spl bs a (leB v 8)) a 8 = v := by
 have h9 := rdN_at (bs := bs) (ms := leB v 8) (a := a) (by rw [leB_length]; exact h)
 rw [leB_length] at h9
 rw [h9, leN_leB]
 have e : (256 : Int) ^ 8 = 18446744073709551616 := by decide
 rw [e]
 omega
def tot (L : List (List Int)) : Nat := L.flatten.length
theorem tot_app (L M : List (List Int)) : tot (L ++ M) = tot L + tot M := by simp [tot]
theorem tot_one (c : List Int) : tot [c] = c.length := by simp [tot]
theorem tot_cons (c : List Int) (L : List (List Int)) : tot (c :: L) = c.length + tot L := by simp [tot]
theorem tot_nil : tot [] = 0 := rfl
theorem tot_take (L : List (List Int)) (k : Nat) (hk : k < L.length) : tot (L.take k) + (L[k]).length + tot (L.drop (k + 1)) = tot L := by
 have h : L = L.take k ++ L[k] :: L.drop (k + 1) := by
  rw [← List.drop_eq_getElem_cons hk, List.take_append_drop]
 conv => rhs; rw [h]
 rw [tot_app, tot_cons]
 omega
structure Rg (bs : List Int) (b s H : Nat) (L : List (List Int)) : Prop where
 s0 : 0 < s
 len : b + s + 24 ≤ bs.length
 is : IsB bs
 fl : un bs b s (H % s) = L.flatten ++ zs (s - tot L)
 fit : tot L ≤ s
 cross : ∀ k (hk : k < L.length), (H + tot (L.take k)) % s + (L[k]).length ≤ s
 pos : ∀ k (hk : k < L.length), 8 ≤ (L[k]).length
 tail : rdN bs (b + s) 8 = (H : Int) + tot L
 head : rdN bs (b + s + 16) 8 = (H : Int)
theorem spl_mid (A c B ms : List Int) (x : Nat) (h : x + ms.length ≤ c.length) : spl (A ++ (c ++ B)) (A.length + x) ms = A ++ (spl c x ms ++ B) := by
 unfold spl
 rw [List.take_append, List.take_of_length_le (by omega), show A.length + x - A.length = x by omega, List.take_append_of_le_length (by omega)]
 rw [show A.length + x + ms.length = A.length + (x + ms.length) by omega, List.drop_append, List.drop_eq_nil_of_le (by omega), show A.length + (x + ms.length) - A.length = x + ms.length by omega, List.drop_append_of_le_length (by omega)]
 simp only [List.append_assoc, List.nil_append]
theorem flatten_at (L : List (List Int)) (k : Nat) (hk : k < L.length) : L.flatten = (L.take k).flatten ++ (L[k] ++ (L.drop (k + 1)).flatten) := by
 have h : L = L.take k ++ L[k] :: L.drop (k + 1) := by
  rw [← List.drop_eq_getElem_cons hk, List.take_append_drop]
 have h2 : L.flatten = (L.take k ++ L[k] :: L.drop (k + 1)).flatten := congrArg List.flatten h
 rw [h2, List.flatten_append, List.flatten_cons]
theorem flatten_set (L : List (List Int)) (k : Nat) (hk : k < L.length) (c : List Int) : (L.set k c).flatten = (L.take k).flatten ++ (c ++ (L.drop (k + 1)).flatten) := by
 rw [List.set_eq_take_append_cons_drop, if_pos hk]
 simp
variable {b s H : Nat} {L : List (List Int)}
theorem Rg.write (h : Rg bs b s H L) (k : Nat) (hk : k < L.length) (x : Nat) (ms : List Int) (hx : x + ms.length ≤ (L[k]).length) (hx0 : x < (L[k]).length) (hms : IsB ms) :
  Rg (spl bs (b + ((H + tot (L.take k)) % s + x)) ms) b s H (L.set k (spl (L[k]) x ms)) := by
 obtain ⟨h0, h1, h2, h3, h4, h5, h6, h7, h8⟩ := h
 have hc := h5 k hk
 have ht := tot_take L k hk
 have hm : H % s < s := Nat.mod_lt _ h0
 have ho : tot (L.take k) + x < s := by omega
 have hp : plc s (H % s) (tot (L.take k) + x) = (H + tot (L.take k)) % s + x := by
  rw [plc_mod h0 ho, ← Nat.add_assoc]
  exact mod_add_lt (by omega)
 have hsl := spl_len bs (b + ((H + tot (L.take k)) % s + x)) ms (by omega)
 have hsc := spl_len (L[k]) x ms hx
 have htot : tot (L.set k (spl (L[k]) x ms)) = tot L := by
  unfold tot
  rw [flatten_set L k hk, flatten_at L k hk]
  simp only [List.length_append, hsc]
 have hlen : ∀ j (hj : j < (L.set k (spl (L[k]) x ms)).length) (hj' : j < L.length), ((L.set k (spl (L[k]) x ms))[j]).length = (L[j]).length := by
  intro j hj hj'
  by_cases e : k = j
  ·subst e
   rw [List.getElem_set_self]
   exact hsc
  ·rw [List.getElem_set_ne e]
 have htk : ∀ j, tot ((L.set k (spl (L[k]) x ms)).take j) = tot (L.take j) := by
  intro j
  rw [List.take_set]
  by_cases e : k < (L.take j).length
  ·unfold tot
   have e2 : (L.take j)[k] = L[k] := List.getElem_take
   rw [flatten_set _ k e, flatten_at (L.take j) k e, e2]
   simp only [List.length_append, hsc]
  ·rw [List.set_eq_of_length_le (by omega)]
 refine ⟨h0, by rw [hsl]; exact h1, spl_is h2 hms, ?_, by rw [htot]; exact h4, ?_, ?_, ?_, ?_⟩
 ·rw [← hp, un_spl (by omega) hm (by omega) (by omega), h3, htot, flatten_set L k hk, flatten_at L k hk]
  rw [List.append_assoc, List.append_assoc]
  rw [show tot (L.take k) + x = (L.take k).flatten.length + x from rfl, spl_mid _ _ _ _ _ hx]
  simp only [List.append_assoc]
 ·intro j hj
  have hj' : j < L.length := by simpa using hj
  rw [htk, hlen j hj hj']
  exact h5 j hj'
 ·intro j hj
  have hj' : j < L.length := by simpa using hj
  rw [hlen j hj hj']
  exact h6 j hj'
 ·rw [rdN_far (by omega) (.inr (by omega)), htot]
  exact h7
 ·rw [rdN_far (by omega) (.inr (by omega))]
  exact h8
theorem Rg.grow (h : Rg bs b s H L) (M : List (List Int)) (hM : M.flatten = zs (tot M)) (hfit : tot L + tot M ≤ s)
  (hcross : ∀ k (hk : k < M.length), (H + tot L + tot (M.take k)) % s + (M[k]).length ≤ s) (hpos : ∀ k (hk : k < M.length), 8 ≤ (M[k]).length) (hb : H + tot L + tot M < 18446744073709551616) :
  Rg (spl bs (b + s) (leB ((H : Int) + tot L + tot M) 8)) b s H (L ++ M) := by
 obtain ⟨h0, h1, h2, h3, h4, h5, h6, h7, h8⟩ := h
 have hm : H % s < s := Nat.mod_lt _ h0
 have l8 := leB_length ((H : Int) + tot L + tot M) 8
 have hsl := spl_len bs (b + s) (leB ((H : Int) + tot L + tot M) 8) (by omega)
 refine ⟨h0, by rw [hsl]; exact h1, spl_is h2 (leB_is _ _), ?_, by rw [tot_app]; omega, ?_, ?_, ?_, ?_⟩
 ·rw [un_out (by omega) (Nat.le_of_lt hm) (by omega) (.inl (by omega)), h3, List.flatten_append, hM, tot_app, List.append_assoc, zs_app]
  congr 2
  omega
 ·intro k hk
  by_cases e : k < L.length
  ·rw [List.getElem_append_left e, List.take_append_of_le_length (by omega)]
   exact h5 k e
  ·have hk' : k - L.length < M.length := by simp at hk; omega
   rw [List.getElem_append_right (by omega), List.take_append, List.take_of_length_le (by omega), tot_app, ← Nat.add_assoc]
   exact hcross _ hk'
 ·intro k hk
  by_cases e : k < L.length
  ·rw [List.getElem_append_left e]
   exact h6 k e
  ·have hk' : k - L.length < M.length := by simp at hk; omega
   rw [List.getElem_append_right (by omega)]
   exact hpos _ hk'
 ·rw [rdN_num (by omega) (by omega) (by omega), tot_app]
  omega
 ·rw [rdN_far (by omega) (.inr (by omega))]
  exact h8
theorem Rg.copy (h : Rg bs b s H L) (v : Int) : Rg (spl bs (b + s + 8) (leB v 8)) b s H L := by
 obtain ⟨h0, h1, h2, h3, h4, h5, h6, h7, h8⟩ := h
 have hm : H % s < s := Nat.mod_lt _ h0
 have l8 := leB_length v 8
 have hsl := spl_len bs (b + s + 8) (leB v 8) (by omega)
 refine ⟨h0, by rw [hsl]; exact h1, spl_is h2 (leB_is _ _), ?_, h4, h5, h6, ?_, ?_⟩
 ·rw [un_out (by omega) (Nat.le_of_lt hm) (by omega) (.inl (by omega))]
  exact h3
 ·rw [rdN_far (by omega) (.inl (by omega))]
  exact h7
 ·rw [rdN_far (by omega) (.inr (by omega))]
  exact h8
theorem Rg.read (h : Rg bs b s H L) (k : Nat) (hk : k < L.length) (x n : Nat) (hx : x + n ≤ (L[k]).length) (hx0 : x < (L[k]).length) :
  (bs.drop (b + ((H + tot (L.take k)) % s + x))).take n = ((L[k]).drop x).take n := by
 obtain ⟨h0, h1, h2, h3, h4, h5, h6, h7, h8⟩ := h
 have hc := h5 k hk
 have ht := tot_take L k hk
 have hm : H % s < s := Nat.mod_lt _ h0
 have ho : tot (L.take k) + x < s := by omega
 have hp : plc s (H % s) (tot (L.take k) + x) = (H + tot (L.take k)) % s + x := by
  rw [plc_mod h0 ho, ← Nat.add_assoc]
  exact mod_add_lt (by omega)
 rw [← hp, ← un_take (by omega) hm (by omega) (by omega), h3, flatten_at L k hk]
 rw [List.append_assoc, List.append_assoc, List.drop_append, List.drop_eq_nil_of_le (show (L.take k).flatten.length ≤ _ by unfold tot; omega), List.nil_append]
 rw [show tot (L.take k) + x - (L.take k).flatten.length = x by unfold tot; omega, List.drop_append_of_le_length (by omega), List.take_append_of_le_length (by simp; omega)]
theorem Rg.rest (h : Rg bs b s H L) (x n : Nat) (hx : tot L + x + n ≤ s) (hx0 : tot L + x < s) (hc : (H + tot L) % s + x + n ≤ s) (hc0 : (H + tot L) % s + x < s) :
  (bs.drop (b + ((H + tot L) % s + x))).take n = zs n := by
 obtain ⟨h0, h1, h2, h3, h4, h5, h6, h7, h8⟩ := h
 have hm : H % s < s := Nat.mod_lt _ h0
 have hp : plc s (H % s) (tot L + x) = (H + tot L) % s + x := by
  rw [plc_mod h0 hx0, ← Nat.add_assoc]
  exact mod_add_lt hc0
 rw [← hp, ← un_take (by omega) hm (by omega) (by omega), h3]
 rw [List.drop_append, List.drop_eq_nil_of_le (show L.flatten.length ≤ _ by unfold tot; omega), List.nil_append]
 rw [show tot L + x - L.flatten.length = x by unfold tot; omega, zs_drop, zs_take]
 congr 1
 omega
theorem tot_drop (L : List (List Int)) (j : Nat) : tot (L.take j) + tot (L.drop j) = tot L := by
 rw [← tot_app, List.take_append_drop]
theorem Rg.move (h : Rg bs b s H L) (j : Nat) (hj : j ≤ L.length) (hz : (L.take j).flatten = zs (tot (L.take j))) (hb : H + tot L < 18446744073709551616) :
  Rg (spl bs (b + s + 16) (leB ((H : Int) + tot (L.take j)) 8)) b s (H + tot (L.take j)) (L.drop j) := by
 obtain ⟨h0, h1, h2, h3, h4, h5, h6, h7, h8⟩ := h
 have hm : H % s < s := Nat.mod_lt _ h0
 have hd := tot_drop L j
 have l8 := leB_length ((H : Int) + tot (L.take j)) 8
 have hsl := spl_len bs (b + s + 16) (leB ((H : Int) + tot (L.take j)) 8) (by omega)
 refine ⟨h0, by rw [hsl]; exact h1, spl_is h2 (leB_is _ _), ?_, by omega, ?_, ?_, ?_, ?_⟩
 ·have hm2 : (H + tot (L.take j)) % s < s := Nat.mod_lt _ h0
  rw [un_out (by omega) (Nat.le_of_lt hm2) (by omega) (.inl (by omega))]
  have e1 : (H + tot (L.take j)) % s = (H % s + tot (L.take j)) % s := by rw [Nat.mod_add_mod]
  rw [e1, un_turn (by omega) hm (by omega), h3]
  have e2 : L.flatten = zs (tot (L.take j)) ++ (L.drop j).flatten := by
   rw [← hz, ← List.flatten_append, List.take_append_drop]
  have lz := zs_len (tot (L.take j))
  rw [e2, List.append_assoc, List.drop_append, List.drop_eq_nil_of_le (by omega), List.nil_append, List.take_append, List.take_of_length_le (show (zs (tot (L.take j))).length ≤ tot (L.take j) by omega)]
  rw [show tot (L.take j) - (zs (tot (L.take j))).length = 0 by omega, List.drop_zero, List.take_zero, List.append_nil, List.append_assoc, zs_app]
  congr 2
  omega
 ·intro k hk
  have hk' : j + k < L.length := by simp at hk; omega
  have e1 : (L.drop j)[k] = L[j + k] := List.getElem_drop
  have e2 : tot (L.take j) + tot ((L.drop j).take k) = tot (L.take (j + k)) := by
   rw [← tot_app, List.take_add]
  rw [e1, Nat.add_assoc, e2]
  exact h5 _ hk'
 ·intro k hk
  have hk' : j + k < L.length := by simp at hk; omega
  have e1 : (L.drop j)[k] = L[j + k] := List.getElem_drop
  rw [e1]
  exact h6 _ hk'
 ·rw [rdN_far (by omega) (.inl (by omega)), h7]
  omega
 ·rw [rdN_num (by omega) (by omega) (by omega)]
  omega
theorem acE_at {size k a n l : Int} (hk : (k = 1 ∨ k = 2 ∨ k = 4) ∧ (n = 4 ∨ n = 8) ∨ k = 5 ∧ 0 ≤ n ∧ n ≤ 8 ∨ k = 6 ∧ n = l ∧ n ≤ 8) (h0 : 0 ≤ a) (h1 : a + n ≤ size) (hn0 : 0 ≤ n) (hal : k < 5 → a % n = 0) : acE size k a n l = 0 := by
 have hs : acSized k n l = true := by
  unfold acSized
  rcases hk with ⟨hk, hn⟩ | ⟨rfl, hn, hn'⟩ | ⟨rfl, rfl, hn'⟩
  ·rw [if_pos hk]
   rcases hn with rfl | rfl <;> decide
  ·simp [hn, hn']
  ·simp [hn']
 unfold acE
 rw [if_neg (by rw [hs]; nofun), if_neg (by omega), if_neg (by intro ⟨h, h'⟩; exact h' (hal h))]
structure Own (bs : List Int) (c : PutC) (b s H : Nat) (L : List (List Int)) (k : Nat) (a : Int) (ct : List Int) : Prop where
 rg : Rg bs b s H L
 hk : k < L.length
 con : L[k] = ct
 cl : (ct.length : Int) = c.nd
 at_ : a = b + ((H + tot (L.take k)) % s : Nat)
 cp : rdN bs (b + s + 8) 8 = 0
end Go.Proofs.YtggjhleomocojaaGreat
end
