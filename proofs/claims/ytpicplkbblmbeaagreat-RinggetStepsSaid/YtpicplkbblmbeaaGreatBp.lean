/- Plain laws: what is read of a row of words, and written into it, in bytes. Conditions: the field lies in one word. -/
import Derived.Test.YtpicplkbblmbeaaGreatBb
import Derived.Laws.BitsAllLaws
namespace Go.Proofs.YtpicplkbblmbeaaGreat
open Go.RowKit
set_option linter.unusedSimpArgs false
theorem nat_put (X V j k : Nat) (hX : X < 2 ^ 64) (hjk : j + k ≤ 64) :
    (X &&& (2 ^ 64 - 1 - (2 ^ k - 1) * 2 ^ j)) ||| ((V &&& (2 ^ k - 1)) * 2 ^ j) = 2 ^ (j + k) * (X / 2 ^ (j + k)) + (2 ^ j * (V % 2 ^ k) + X % 2 ^ j) := by
  have hp : 0 < 2 ^ j := Nat.pow_pos (by decide)
  have hk : 0 < 2 ^ k := Nat.pow_pos (by decide)
  have hM : (2 ^ k - 1) * 2 ^ j < 2 ^ 64 := by
    have h1 : (2 ^ k - 1) * 2 ^ j < 2 ^ k * 2 ^ j := by
      apply Nat.mul_lt_mul_of_pos_right _ hp
      omega
    have h2 : 2 ^ k * 2 ^ j ≤ 2 ^ 64 := by
      rw [← Nat.pow_add]
      exact Nat.pow_le_pow_right (by decide) (by omega)
    omega
  have hlo : 2 ^ j * (V % 2 ^ k) + X % 2 ^ j < 2 ^ (j + k) := by
    have h1 := Nat.mod_lt V hk
    have h2 := Nat.mod_lt X hp
    rw [Nat.pow_add]
    have h3 : 2 ^ j * (V % 2 ^ k + 1) ≤ 2 ^ j * 2 ^ k := Nat.mul_le_mul_left _ h1
    rw [Nat.mul_add] at h3
    omega
  have hlo2 : X % 2 ^ j < 2 ^ j := Nat.mod_lt X hp
  apply Nat.eq_of_testBit_eq
  intro i
  rw [Nat.testBit_or, Nat.testBit_and, show 2 ^ 64 - 1 - (2 ^ k - 1) * 2 ^ j = 2 ^ 64 - ((2 ^ k - 1) * 2 ^ j + 1) by omega, Nat.testBit_two_pow_sub_succ hM, Nat.testBit_mul_two_pow, Nat.testBit_two_pow_sub_one, Nat.testBit_mul_two_pow, Nat.testBit_and, Nat.testBit_two_pow_sub_one,
    Nat.testBit_two_pow_mul_add _ hlo, Nat.testBit_two_pow_mul_add _ hlo2, Nat.testBit_div_two_pow, Nat.testBit_mod_two_pow, Nat.testBit_mod_two_pow]
  have hbig : 64 ≤ i → X.testBit i = false := fun h => Nat.testBit_lt_two_pow (Nat.lt_of_lt_of_le hX (Nat.pow_le_pow_right (by decide) h))
  by_cases h1 : i < j
  · simp [h1, show i < j + k by omega, show ¬ j ≤ i by omega]
    intro _
    omega
  · by_cases h2 : i < j + k
    · simp [h1, h2, show j ≤ i by omega, show i - j < k by omega]
    · by_cases h3 : i < 64
      · simp [h2, h3, show j ≤ i by omega, show ¬ i - j < k by omega, show i - (j + k) + (j + k) = i by omega]
      · simp [h2, hbig (by omega), show j ≤ i by omega, show ¬ i - j < k by omega, show i - (j + k) + (j + k) = i by omega]
theorem pow_cast (k : Nat) : ((2 ^ k : Nat) : Int) = 2 ^ k := by simp
theorem and_mod (V : Nat) (k : Nat) (hV : V < 18446744073709551616) (hk : k ≤ 64) : bits .and .u64 (V : Int) (2 ^ k - 1) = ((V % 2 ^ k : Nat) : Int) := by
  have hp : 0 < 2 ^ k := Nat.pow_pos (by decide)
  have h64 : 2 ^ k ≤ 2 ^ 64 := Nat.pow_le_pow_right (by decide) hk
  have e : ((2 : Int) ^ k - 1) = ((2 ^ k - 1 : Nat) : Int) := by have := pow_cast k; omega
  rw [e, u64_and_nat V (2 ^ k - 1) hV (by omega), Nat.and_two_pow_sub_one_eq_mod]
theorem swV_nat (X V o n : Nat) (hX : X < 18446744073709551616) (hV : V < 18446744073709551616) (hon : o + n ≤ 8) :
    swV (X : Int) (256 ^ n - 1) (V : Int) o = ((2 ^ (8 * o + 8 * n) * (X / 2 ^ (8 * o + 8 * n)) + (2 ^ (8 * o) * (V % 2 ^ (8 * n)) + X % 2 ^ (8 * o)) : Nat) : Int) := by
  have e8 : ((256 : Int) ^ n) = 2 ^ (8 * n) := by rw [Int.pow_mul]; rfl
  have hp : 0 < 2 ^ (8 * o) := Nat.pow_pos (by decide)
  have hk : 0 < 2 ^ (8 * n) := Nat.pow_pos (by decide)
  have hM : (2 ^ (8 * n) - 1) * 2 ^ (8 * o) < 2 ^ 64 := by
    have h1 : (2 ^ (8 * n) - 1) * 2 ^ (8 * o) < 2 ^ (8 * n) * 2 ^ (8 * o) := Nat.mul_lt_mul_of_pos_right (by omega) hp
    have h2 : 2 ^ (8 * n) * 2 ^ (8 * o) ≤ 2 ^ 64 := by
      rw [← Nat.pow_add]
      exact Nat.pow_le_pow_right (by decide) (by omega)
    omega
  have hVm : V % 2 ^ (8 * n) * 2 ^ (8 * o) < 2 ^ 64 := by
    have h1 := Nat.mod_lt V hk
    have h2 : V % 2 ^ (8 * n) * 2 ^ (8 * o) ≤ (2 ^ (8 * n) - 1) * 2 ^ (8 * o) := Nat.mul_le_mul_right _ (by omega)
    omega
  have e1 : IntKind.u64.wrap ((256 ^ n - 1) * 2 ^ (8 * o)) = (((2 ^ (8 * n) - 1) * 2 ^ (8 * o) : Nat) : Int) := by
    rw [IntKind.wrap_u64, e8]
    have c1 := pow_cast (8 * n)
    have c2 := pow_cast (8 * o)
    have : ((2 : Int) ^ (8 * n) - 1) * 2 ^ (8 * o) = (((2 ^ (8 * n) - 1) * 2 ^ (8 * o) : Nat) : Int) := by
      rw [Int.natCast_mul, c2, show ((2 ^ (8 * n) - 1 : Nat) : Int) = 2 ^ (8 * n) - 1 by omega]
    rw [this]
    omega
  have e2 : IntKind.u64.wrap (bits .and .u64 (V : Int) (256 ^ n - 1) * 2 ^ (8 * o)) = ((V % 2 ^ (8 * n) * 2 ^ (8 * o) : Nat) : Int) := by
    rw [e8, and_mod V (8 * n) hV (by omega), IntKind.wrap_u64]
    have c2 := pow_cast (8 * o)
    have : ((V % 2 ^ (8 * n) : Nat) : Int) * 2 ^ (8 * o) = ((V % 2 ^ (8 * n) * 2 ^ (8 * o) : Nat) : Int) := by rw [Int.natCast_mul, c2]
    rw [this]
    omega
  unfold swV
  rw [e1, e2, u64_andNot_nat X _ hX (by omega)]
  rw [u64_or_nat _ _ (Nat.lt_of_le_of_lt Nat.and_le_left hX) (by omega)]
  rw [← nat_put X V (8 * o) (8 * n) (by omega) (by omega), Nat.and_two_pow_sub_one_eq_mod]
theorem leN_split {l : List Int} (h : IsB l) (k : Nat) (hk : k ≤ l.length) : leN (l.take k) = leN l % 256 ^ k ∧ leN (l.drop k) = leN l / 256 ^ k := by
  have e := leN_append (l.take k) (l.drop k)
  rw [List.take_append_drop, List.length_take, Nat.min_eq_left hk] at e
  have b := leN_lt k (l.take k) (by simp; omega) (h.take k)
  have hp : (0 : Int) < 256 ^ k := Int.pow_pos (by decide)
  generalize leN (l.take k) = t at *
  generalize leN (l.drop k) = d at *
  rw [e]
  generalize (256 : Int) ^ k = p at *
  constructor
  · rw [Int.add_mul_emod_self_left, Int.emod_eq_of_lt b.1 b.2]
  · rw [Int.add_mul_ediv_left _ _ (by omega), Int.ediv_eq_zero_of_lt b.1 b.2]
    omega
/-- Bytes with other ones in their midst. -/
def spl (bs : List Int) (a : Nat) (ms : List Int) : List Int := bs.take a ++ (ms ++ bs.drop (a + ms.length))
theorem spl_len (bs : List Int) (a : Nat) (ms : List Int) (h : a + ms.length ≤ bs.length) : (spl bs a ms).length = bs.length := by
  simp [spl]
  omega
theorem spl_is {bs ms : List Int} {a : Nat} (h : IsB bs) (h' : IsB ms) : IsB (spl bs a ms) := (h.take a).append (h'.append (h.drop _))
theorem spl_lt (bs : List Int) (a : Nat) (ms : List Int) (h : a + ms.length ≤ bs.length) (i : Nat) (hi : i < a) : gB (spl bs a ms) i = gB bs i := by
  simp [gB, spl, List.getD, List.getElem?_append, hi, show i < bs.length by omega, show i < min a bs.length by omega]
theorem spl_in (bs : List Int) (a : Nat) (ms : List Int) (h : a + ms.length ≤ bs.length) (i : Nat) (hi : a ≤ i) (hi' : i < a + ms.length) : gB (spl bs a ms) i = gB ms (i - a) := by
  simp [gB, spl, List.getD, List.getElem?_append, show ¬ i < a by omega, show min a bs.length = a by omega, show i - a < ms.length by omega]
theorem spl_ge (bs : List Int) (a : Nat) (ms : List Int) (h : a + ms.length ≤ bs.length) (i : Nat) (hi : a + ms.length ≤ i) : gB (spl bs a ms) i = gB bs i := by
  simp [gB, spl, List.getD, List.getElem?_append, show ¬ i < a by omega, show min a bs.length = a by omega, show ¬ i - a < ms.length by omega]
  rw [show a + ms.length + (i - a - ms.length) = i by omega]
/-- The words of bytes. -/
def wds (bs : List Int) (k : Nat) : List Int := (List.range k).map fun i => leN ((bs.drop (8 * i)).take 8)
theorem wds_len (bs : List Int) (k : Nat) : (wds bs k).length = k := by simp [wds]
theorem wds_at (bs : List Int) (k i : Nat) (h : i < k) : gB (wds bs k) i = leN ((bs.drop (8 * i)).take 8) := by
  simp [gB, wds, List.getD, h]
theorem word_bd {bs : List Int} (h : IsB bs) (i : Nat) : 0 ≤ leN ((bs.drop (8 * i)).take 8) ∧ leN ((bs.drop (8 * i)).take 8) ≤ 18446744073709551615 := by
  have := leN_lt 8 _ (by simp; omega) ((h.drop (8 * i)).take 8)
  have e : (256 : Int) ^ 8 = 18446744073709551616 := by decide
  omega
theorem wds_bd {bs : List Int} (h : IsB bs) (k i : Nat) (hi : i < k) : 0 ≤ gB (wds bs k) i ∧ gB (wds bs k) i ≤ 18446744073709551615 := by
  rw [wds_at _ _ _ hi]
  exact word_bd h i
/-- What n bytes at a place are as a number. -/
def rdN (bs : List Int) (a n : Nat) : Int := leN ((bs.drop a).take n)
theorem pow256 (k : Nat) : (2 : Int) ^ (8 * k) = 256 ^ k := by rw [Int.pow_mul]; rfl
theorem gtV_word {B : List Int} (h : IsB B) (hl : B.length = 8) (o n : Nat) (hon : o + n ≤ 8) : gtV (leN B) (256 ^ n - 1) o = leN ((B.drop o).take n) := by
  have b := leN_lt 8 B (by omega) h
  have e : (256 : Int) ^ 8 = 18446744073709551616 := by decide
  have h1 := (leN_split h o (by omega)).2
  have h2 := (leN_split (h.drop o) n (by simp; omega)).1
  have b2 := leN_lt 8 (B.drop o) (by simp; omega) (h.drop o)
  unfold gtV
  rw [pow256, ← h1]
  have e8 : ((256 : Int) ^ n) = 2 ^ (8 * n) := by rw [Int.pow_mul]; rfl
  obtain ⟨X, hX⟩ := Int.eq_ofNat_of_zero_le b2.1
  rw [h2, hX, e8, and_mod X (8 * n) (by omega) (by omega), Int.natCast_emod, pow_cast]
theorem swV_word {B : List Int} (h : IsB B) (hl : B.length = 8) (o n : Nat) (v : Int) (h0 : 0 ≤ v) (h1 : v ≤ 18446744073709551615) (hon : o + n ≤ 8) :
    swV (leN B) (256 ^ n - 1) v o = leN (B.take o ++ (leB v n ++ B.drop (o + n))) := by
  have b := leN_lt 8 B (by omega) h
  have e : (256 : Int) ^ 8 = 18446744073709551616 := by decide
  have s1 := (leN_split h o (by omega)).1
  have s2 := (leN_split h (o + n) (by omega)).2
  rw [leN_append, leN_append, leN_leB, leB_length, List.length_take, Nat.min_eq_left (by omega : o ≤ B.length), s1, s2]
  obtain ⟨X, hX⟩ := Int.eq_ofNat_of_zero_le b.1
  obtain ⟨V, hV⟩ := Int.eq_ofNat_of_zero_le h0
  rw [hX, hV, swV_nat X V o n (by omega) (by omega) hon]
  rw [← Nat.mul_add]
  simp only [Int.natCast_add, Int.natCast_mul, Int.natCast_ediv, Int.natCast_emod, pow_cast, pow256]
  rw [Int.mul_add, ← Int.mul_assoc, ← Int.pow_add]
  omega
theorem block8 {bs : List Int} {k : Nat} (hl : bs.length = 8 * k) (i : Nat) (hi : i < k) : ((bs.drop (8 * i)).take 8).length = 8 := by simp; omega
theorem gt_bytes {bs : List Int} {k : Nat} (h : IsB bs) (hl : bs.length = 8 * k) (a n : Nat) (hn : a % 8 + n ≤ 8) (ha : a / 8 < k) : gtV (gB (wds bs k) (a / 8)) (256 ^ n - 1) (a % 8) = rdN bs a n := by
  rw [wds_at _ _ _ ha, gtV_word ((h.drop _).take 8) (block8 hl _ ha) _ _ hn]
  unfold rdN
  congr 1
  rw [List.drop_take, List.take_take, List.drop_drop, Nat.min_eq_left (by omega), show 8 * (a / 8) + a % 8 = a by omega]
theorem sw_bytes {bs : List Int} {k : Nat} (h : IsB bs) (hl : bs.length = 8 * k) (a n : Nat) (v : Int) (h0 : 0 ≤ v) (h1 : v ≤ 18446744073709551615) (hn : a % 8 + n ≤ 8) (ha : a / 8 < k) :
    (wds bs k).set (a / 8) (swV (gB (wds bs k) (a / 8)) (256 ^ n - 1) v (a % 8)) = wds (spl bs a (leB v n)) k := by
  have hak : a + n ≤ bs.length := by omega
  rw [wds_at _ _ _ ha, swV_word ((h.drop _).take 8) (block8 hl _ ha) _ _ v h0 h1 hn]
  apply List.ext_getElem
  · simp [wds]
  intro i hi1 hi2
  have hik : i < k := by simpa [wds] using hi2
  have L := leB_length v n
  simp only [List.getElem_set, wds, List.getElem_map, List.getElem_range]
  have key : ∀ j, j < 8 → gB ((List.drop (8 * i) (spl bs a (leB v n))).take 8) j = gB (spl bs a (leB v n)) (8 * i + j) := by
    intro j hj
    simp [gB, List.getD, hj]
  have hlen : ((List.drop (8 * i) (spl bs a (leB v n))).take 8).length = 8 := by
    have := spl_len bs a (leB v n) (by omega)
    simp
    omega
  have eqOf : ∀ (A C : List Int), A.length = 8 → C.length = 8 → (∀ j, j < 8 → gB A j = gB C j) → A = C := by
    intro A C hA hC hj
    apply List.ext_getElem (by omega)
    intro j h1 h2
    have := hj j (by omega)
    simpa [gB, List.getD, h1, h2] using this
  by_cases he : a / 8 = i
  · rw [if_pos he]
    congr 1
    apply eqOf
    · simp [L]; omega
    · exact hlen
    intro j hj
    rw [key j hj, ← he]
    by_cases c1 : j < a % 8
    · rw [spl_lt _ _ _ (by omega) _ (by omega)]
      simp [gB, List.getD, List.getElem?_append, c1, show 8 * (a / 8) + j < bs.length by omega, hj, show j < min (a % 8) (min 8 (bs.length - 8 * (a / 8))) by omega]
    · by_cases c2 : j < a % 8 + n
      · rw [spl_in _ _ _ (by omega) _ (by omega) (by omega)]
        simp [gB, List.getD, List.getElem?_append, c1, show min (a % 8) (min 8 (bs.length - 8 * (a / 8))) = a % 8 by omega, L, show j - a % 8 < n by omega, show 8 * (a / 8) + j - a = j - a % 8 by omega]
      · rw [spl_ge _ _ _ (by omega) _ (by omega)]
        simp [gB, List.getD, List.getElem?_append, c1, show min (a % 8) (min 8 (bs.length - 8 * (a / 8))) = a % 8 by omega, L, show ¬ j - a % 8 < n by omega, show a % 8 + n + (j - a % 8 - n) = j by omega, hj]
  · rw [if_neg he]
    congr 1
    apply eqOf
    · exact block8 hl i hik
    · exact hlen
    intro j hj
    rw [key j hj]
    have g : gB ((bs.drop (8 * i)).take 8) j = gB bs (8 * i + j) := by simp [gB, List.getD, hj]
    rw [g]
    by_cases c1 : i < a / 8
    · rw [spl_lt _ _ _ (by omega) _ (by omega)]
    · rw [spl_ge _ _ _ (by omega) _ (by omega)]
end Go.Proofs.YtpicplkbblmbeaaGreat
