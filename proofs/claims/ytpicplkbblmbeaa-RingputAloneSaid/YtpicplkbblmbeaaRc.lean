/- A ring as a row of slots from its head on. No program in sight. Conditions: none. -/
import Derived.Test.YtpicplkbblmbeaaRb
namespace Go.Proofs.Ytpicplkbblmbeaa
open Go.RowKit
set_option linter.unusedVariables false
theorem mod_add_lt {a x s : Nat} (h : a % s + x < s) : (a + x) % s = a % s + x := by
  rw [Nat.add_mod, ]
  have h1 : x % s = x := Nat.mod_eq_of_lt (by omega)
  rw [h1]
  exact Nat.mod_eq_of_lt h
theorem plc_mod {H s o : Nat} (hs : 0 < s) (ho : o < s) : plc s (H % s) o = (H + o) % s := by
  have h1 : H % s < s := Nat.mod_lt _ hs
  have h2 : (H + o) % s = (H % s + o) % s := by
    have := Nat.add_mod H o s
    rw [this, Nat.mod_eq_of_lt ho]
  rw [h2]
  rcases plc_cases s (H % s) o with ⟨a, e⟩ | ⟨a, e⟩
  · rw [e, Nat.mod_eq_of_lt a]
  · have h3 : (H % s + o) % s = (H % s + o - s) % s := Nat.mod_eq_sub_mod a
    rw [e, h3]
    exact (Nat.mod_eq_of_lt (by omega)).symm
theorem rdN_far {bs ms : List Int} {a a' n : Nat} (h : a + ms.length ≤ bs.length) (hd : a' + n ≤ a ∨ a + ms.length ≤ a') : rdN (spl bs a ms) a' n = rdN bs a' n := by
  unfold rdN
  congr 1
  have hl := spl_len bs a ms h
  apply gB_ext
  · simp [hl]
  · intro i hi
    simp at hi
    rw [gB_takeR _ _ _ (by omega), gB_takeR _ _ _ (by omega), gB_drop, gB_drop]
    rcases hd with hd | hd
    · exact spl_lt _ _ _ h _ (by omega)
    · exact spl_ge _ _ _ h _ (by omega)
theorem rdN_at {bs ms : List Int} {a : Nat} (h : a + ms.length ≤ bs.length) : rdN (spl bs a ms) a ms.length = leN ms := by
  unfold rdN
  congr 1
  have hl := spl_len bs a ms h
  apply gB_ext
  · simp [hl]
    omega
  · intro i hi
    simp at hi
    rw [gB_takeR _ _ _ (by omega), gB_drop, spl_in _ _ _ h _ (by omega) (by omega)]
    congr 1
    omega
theorem rdN_num {bs : List Int} {a : Nat} {v : Int} (h : a + 8 ≤ bs.length) (h0 : 0 ≤ v) (h1 : v ≤ 18446744073709551615) : rdN (spl bs a (leB v 8)) a 8 = v := by
  have h9 := rdN_at (bs := bs) (ms := leB v 8) (a := a) (by rw [leB_length]; exact h)
  rw [leB_length] at h9
  rw [h9, leN_leB]
  have e : (256 : Int) ^ 8 = 18446744073709551616 := by decide
  rw [e]
  omega
/-- How many bytes slots take. -/
def tot (L : List (List Int)) : Nat := L.flatten.length
theorem tot_app (L M : List (List Int)) : tot (L ++ M) = tot L + tot M := by simp [tot]
theorem tot_one (c : List Int) : tot [c] = c.length := by simp [tot]
theorem tot_cons (c : List Int) (L : List (List Int)) : tot (c :: L) = c.length + tot L := by simp [tot]
theorem tot_nil : tot [] = 0 := rfl
theorem tot_take (L : List (List Int)) (k : Nat) (hk : k < L.length) : tot (L.take k) + (L[k]).length + tot (L.drop (k + 1)) = tot L := by
  have h : L = L.take k ++ L[k] :: L.drop (k + 1) := by
    rw [← List.drop_eq_getElem_cons hk, List.take_append_drop]
  conv => rhs; rw [h]
  rw [tot_app, tot_cons]
  omega
/-- A ring whose head stands at H and that holds the slots L. -/
structure Rg (bs : List Int) (b s H : Nat) (L : List (List Int)) : Prop where
  s0 : 0 < s
  len : b + s + 24 ≤ bs.length
  is : IsB bs
  fl : un bs b s (H % s) = L.flatten ++ zs (s - tot L)
  fit : tot L ≤ s
  cross : ∀ k (hk : k < L.length), (H + tot (L.take k)) % s + (L[k]).length ≤ s
  pos : ∀ k (hk : k < L.length), 8 ≤ (L[k]).length
  tail : rdN bs (b + s) 8 = (H : Int) + tot L
  head : rdN bs (b + s + 16) 8 = (H : Int)
theorem spl_mid (A c B ms : List Int) (x : Nat) (h : x + ms.length ≤ c.length) : spl (A ++ (c ++ B)) (A.length + x) ms = A ++ (spl c x ms ++ B) := by
  unfold spl
  rw [List.take_append, List.take_of_length_le (by omega), show A.length + x - A.length = x by omega, List.take_append_of_le_length (by omega)]
  rw [show A.length + x + ms.length = A.length + (x + ms.length) by omega, List.drop_append, List.drop_eq_nil_of_le (by omega), show A.length + (x + ms.length) - A.length = x + ms.length by omega, List.drop_append_of_le_length (by omega)]
  simp only [List.append_assoc, List.nil_append]
theorem flatten_at (L : List (List Int)) (k : Nat) (hk : k < L.length) : L.flatten = (L.take k).flatten ++ (L[k] ++ (L.drop (k + 1)).flatten) := by
  have h : L = L.take k ++ L[k] :: L.drop (k + 1) := by
    rw [← List.drop_eq_getElem_cons hk, List.take_append_drop]
  have h2 : L.flatten = (L.take k ++ L[k] :: L.drop (k + 1)).flatten := congrArg List.flatten h
  rw [h2, List.flatten_append, List.flatten_cons]
theorem flatten_set (L : List (List Int)) (k : Nat) (hk : k < L.length) (c : List Int) : (L.set k c).flatten = (L.take k).flatten ++ (c ++ (L.drop (k + 1)).flatten) := by
  rw [List.set_eq_take_append_cons_drop, if_pos hk]
  simp
/-- A row is written into a slot. -/
theorem Rg.write {bs : List Int} {b s H : Nat} {L : List (List Int)} (h : Rg bs b s H L) (k : Nat) (hk : k < L.length) (x : Nat) (ms : List Int) (hx : x + ms.length ≤ (L[k]).length) (hx0 : x < (L[k]).length) (hms : IsB ms) :
    Rg (spl bs (b + ((H + tot (L.take k)) % s + x)) ms) b s H (L.set k (spl (L[k]) x ms)) := by
  obtain ⟨h0, h1, h2, h3, h4, h5, h6, h7, h8⟩ := h
  have hc := h5 k hk
  have ht := tot_take L k hk
  have hm : H % s < s := Nat.mod_lt _ h0
  have ho : tot (L.take k) + x < s := by omega
  have hp : plc s (H % s) (tot (L.take k) + x) = (H + tot (L.take k)) % s + x := by
    rw [plc_mod h0 ho, ← Nat.add_assoc]
    exact mod_add_lt (by omega)
  have hsl := spl_len bs (b + ((H + tot (L.take k)) % s + x)) ms (by omega)
  have hsc := spl_len (L[k]) x ms hx
  have htot : tot (L.set k (spl (L[k]) x ms)) = tot L := by
    unfold tot
    rw [flatten_set L k hk, flatten_at L k hk]
    simp only [List.length_append, hsc]
  have hlen : ∀ j (hj : j < (L.set k (spl (L[k]) x ms)).length) (hj' : j < L.length), ((L.set k (spl (L[k]) x ms))[j]).length = (L[j]).length := by
    intro j hj hj'
    by_cases e : k = j
    · subst e
      rw [List.getElem_set_self]
      exact hsc
    · rw [List.getElem_set_ne e]
  have htk : ∀ j, tot ((L.set k (spl (L[k]) x ms)).take j) = tot (L.take j) := by
    intro j
    rw [List.take_set]
    by_cases e : k < (L.take j).length
    · unfold tot
      have e2 : (L.take j)[k] = L[k] := List.getElem_take
      rw [flatten_set _ k e, flatten_at (L.take j) k e, e2]
      simp only [List.length_append, hsc]
    · rw [List.set_eq_of_length_le (by omega)]
  refine ⟨h0, by rw [hsl]; exact h1, spl_is h2 hms, ?_, by rw [htot]; exact h4, ?_, ?_, ?_, ?_⟩
  · rw [← hp, un_spl (by omega) hm (by omega) (by omega), h3, htot, flatten_set L k hk, flatten_at L k hk]
    rw [List.append_assoc, List.append_assoc]
    rw [show tot (L.take k) + x = (L.take k).flatten.length + x from rfl, spl_mid _ _ _ _ _ hx]
    simp only [List.append_assoc]
  · intro j hj
    have hj' : j < L.length := by simpa using hj
    rw [htk, hlen j hj hj']
    exact h5 j hj'
  · intro j hj
    have hj' : j < L.length := by simpa using hj
    rw [hlen j hj hj']
    exact h6 j hj'
  · rw [rdN_far (by omega) (.inr (by omega)), htot]
    exact h7
  · rw [rdN_far (by omega) (.inr (by omega))]
    exact h8
/-- Slots of zeros are claimed behind the others. -/
theorem Rg.grow {bs : List Int} {b s H : Nat} {L : List (List Int)} (h : Rg bs b s H L) (M : List (List Int)) (hM : M.flatten = zs (tot M)) (hfit : tot L + tot M ≤ s)
    (hcross : ∀ k (hk : k < M.length), (H + tot L + tot (M.take k)) % s + (M[k]).length ≤ s) (hpos : ∀ k (hk : k < M.length), 8 ≤ (M[k]).length) (hb : H + tot L + tot M < 18446744073709551616) :
    Rg (spl bs (b + s) (leB ((H : Int) + tot L + tot M) 8)) b s H (L ++ M) := by
  obtain ⟨h0, h1, h2, h3, h4, h5, h6, h7, h8⟩ := h
  have hm : H % s < s := Nat.mod_lt _ h0
  have l8 := leB_length ((H : Int) + tot L + tot M) 8
  have hsl := spl_len bs (b + s) (leB ((H : Int) + tot L + tot M) 8) (by omega)
  refine ⟨h0, by rw [hsl]; exact h1, spl_is h2 (leB_is _ _), ?_, by rw [tot_app]; omega, ?_, ?_, ?_, ?_⟩
  · rw [un_out (by omega) (Nat.le_of_lt hm) (by omega) (.inl (by omega)), h3, List.flatten_append, hM, tot_app, List.append_assoc, zs_app]
    congr 2
    omega
  · intro k hk
    by_cases e : k < L.length
    · rw [List.getElem_append_left e, List.take_append_of_le_length (by omega)]
      exact h5 k e
    · have hk' : k - L.length < M.length := by simp at hk; omega
      rw [List.getElem_append_right (by omega), List.take_append, List.take_of_length_le (by omega), tot_app, ← Nat.add_assoc]
      exact hcross _ hk'
  · intro k hk
    by_cases e : k < L.length
    · rw [List.getElem_append_left e]
      exact h6 k e
    · have hk' : k - L.length < M.length := by simp at hk; omega
      rw [List.getElem_append_right (by omega)]
      exact hpos _ hk'
  · rw [rdN_num (by omega) (by omega) (by omega), tot_app]
    omega
  · rw [rdN_far (by omega) (.inr (by omega))]
    exact h8
/-- The head's copy is written. -/
theorem Rg.copy {bs : List Int} {b s H : Nat} {L : List (List Int)} (h : Rg bs b s H L) (v : Int) : Rg (spl bs (b + s + 8) (leB v 8)) b s H L := by
  obtain ⟨h0, h1, h2, h3, h4, h5, h6, h7, h8⟩ := h
  have hm : H % s < s := Nat.mod_lt _ h0
  have l8 := leB_length v 8
  have hsl := spl_len bs (b + s + 8) (leB v 8) (by omega)
  refine ⟨h0, by rw [hsl]; exact h1, spl_is h2 (leB_is _ _), ?_, h4, h5, h6, ?_, ?_⟩
  · rw [un_out (by omega) (Nat.le_of_lt hm) (by omega) (.inl (by omega))]
    exact h3
  · rw [rdN_far (by omega) (.inl (by omega))]
    exact h7
  · rw [rdN_far (by omega) (.inr (by omega))]
    exact h8
/-- What lies in a slot. -/
theorem Rg.read {bs : List Int} {b s H : Nat} {L : List (List Int)} (h : Rg bs b s H L) (k : Nat) (hk : k < L.length) (x n : Nat) (hx : x + n ≤ (L[k]).length) (hx0 : x < (L[k]).length) :
    (bs.drop (b + ((H + tot (L.take k)) % s + x))).take n = ((L[k]).drop x).take n := by
  obtain ⟨h0, h1, h2, h3, h4, h5, h6, h7, h8⟩ := h
  have hc := h5 k hk
  have ht := tot_take L k hk
  have hm : H % s < s := Nat.mod_lt _ h0
  have ho : tot (L.take k) + x < s := by omega
  have hp : plc s (H % s) (tot (L.take k) + x) = (H + tot (L.take k)) % s + x := by
    rw [plc_mod h0 ho, ← Nat.add_assoc]
    exact mod_add_lt (by omega)
  rw [← hp, ← un_take (by omega) hm (by omega) (by omega), h3, flatten_at L k hk]
  rw [List.append_assoc, List.append_assoc, List.drop_append, List.drop_eq_nil_of_le (show (L.take k).flatten.length ≤ _ by unfold tot; omega), List.nil_append]
  rw [show tot (L.take k) + x - (L.take k).flatten.length = x by unfold tot; omega, List.drop_append_of_le_length (by omega), List.take_append_of_le_length (by simp; omega)]
/-- Behind the slots all is 0. -/
theorem Rg.rest {bs : List Int} {b s H : Nat} {L : List (List Int)} (h : Rg bs b s H L) (x n : Nat) (hx : tot L + x + n ≤ s) (hx0 : tot L + x < s) (hc : (H + tot L) % s + x + n ≤ s) (hc0 : (H + tot L) % s + x < s) :
    (bs.drop (b + ((H + tot L) % s + x))).take n = zs n := by
  obtain ⟨h0, h1, h2, h3, h4, h5, h6, h7, h8⟩ := h
  have hm : H % s < s := Nat.mod_lt _ h0
  have hp : plc s (H % s) (tot L + x) = (H + tot L) % s + x := by
    rw [plc_mod h0 hx0, ← Nat.add_assoc]
    exact mod_add_lt hc0
  rw [← hp, ← un_take (by omega) hm (by omega) (by omega), h3]
  rw [List.drop_append, List.drop_eq_nil_of_le (show L.flatten.length ≤ _ by unfold tot; omega), List.nil_append]
  rw [show tot L + x - L.flatten.length = x by unfold tot; omega, zs_drop, zs_take]
  congr 1
  omega
theorem tot_drop (L : List (List Int)) (j : Nat) : tot (L.take j) + tot (L.drop j) = tot L := by
  rw [← tot_app, List.take_append_drop]
/-- The head moves on over slots of zeros. -/
theorem Rg.move {bs : List Int} {b s H : Nat} {L : List (List Int)} (h : Rg bs b s H L) (j : Nat) (hj : j ≤ L.length) (hz : (L.take j).flatten = zs (tot (L.take j))) (hb : H + tot L < 18446744073709551616) :
    Rg (spl bs (b + s + 16) (leB ((H : Int) + tot (L.take j)) 8)) b s (H + tot (L.take j)) (L.drop j) := by
  obtain ⟨h0, h1, h2, h3, h4, h5, h6, h7, h8⟩ := h
  have hm : H % s < s := Nat.mod_lt _ h0
  have hd := tot_drop L j
  have l8 := leB_length ((H : Int) + tot (L.take j)) 8
  have hsl := spl_len bs (b + s + 16) (leB ((H : Int) + tot (L.take j)) 8) (by omega)
  refine ⟨h0, by rw [hsl]; exact h1, spl_is h2 (leB_is _ _), ?_, by omega, ?_, ?_, ?_, ?_⟩
  · have hm2 : (H + tot (L.take j)) % s < s := Nat.mod_lt _ h0
    rw [un_out (by omega) (Nat.le_of_lt hm2) (by omega) (.inl (by omega))]
    have e1 : (H + tot (L.take j)) % s = (H % s + tot (L.take j)) % s := by rw [Nat.mod_add_mod]
    rw [e1, un_turn (by omega) hm (by omega), h3]
    have e2 : L.flatten = zs (tot (L.take j)) ++ (L.drop j).flatten := by
      rw [← hz, ← List.flatten_append, List.take_append_drop]
    have lz := zs_len (tot (L.take j))
    rw [e2, List.append_assoc, List.drop_append, List.drop_eq_nil_of_le (by omega), List.nil_append, List.take_append, List.take_of_length_le (show (zs (tot (L.take j))).length ≤ tot (L.take j) by omega)]
    rw [show tot (L.take j) - (zs (tot (L.take j))).length = 0 by omega, List.drop_zero, List.take_zero, List.append_nil, List.append_assoc, zs_app]
    congr 2
    omega
  · intro k hk
    have hk' : j + k < L.length := by simp at hk; omega
    have e1 : (L.drop j)[k] = L[j + k] := List.getElem_drop
    have e2 : tot (L.take j) + tot ((L.drop j).take k) = tot (L.take (j + k)) := by
      rw [← tot_app, List.take_add]
    rw [e1, Nat.add_assoc, e2]
    exact h5 _ hk'
  · intro k hk
    have hk' : j + k < L.length := by simp at hk; omega
    have e1 : (L.drop j)[k] = L[j + k] := List.getElem_drop
    rw [e1]
    exact h6 _ hk'
  · rw [rdN_far (by omega) (.inl (by omega)), h7]
    omega
  · rw [rdN_num (by omega) (by omega) (by omega)]
    omega
end Go.Proofs.Ytpicplkbblmbeaa
