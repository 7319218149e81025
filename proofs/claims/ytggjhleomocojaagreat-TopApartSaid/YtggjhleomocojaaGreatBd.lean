/- Plain laws: what is read of a row of words, and written into it, in bytes. Conditions: the field lies in one word. -/
import Derived.Test.YtggjhleomocojaaGreatBb
import Derived.Laws.BitsAllLaws
section
namespace Go.Proofs.YtggjhleomocojaaGreat
open Go.RowKit
set_option linter.unusedSimpArgs false
theorem nat_put (X V j k : Nat) (hX : X < 2 ^ 64) (hjk : j + k ≤ 64) :
  (X &&& (2 ^ 64 - 1 - (2 ^ k - 1) * 2 ^ j)) ||| ((V &&& (2 ^ k - 1)) * 2 ^ j) = 2 ^ (j + k) * (X / 2 ^ (j + k)) + (2 ^ j * (V % 2 ^ k) + X % 2 ^ j) := by
 have hp : 0 < 2 ^ j := Nat.pow_pos (by decide)
 have hk : 0 < 2 ^ k := Nat.pow_pos (by decide)
 have hM : (2 ^ k - 1) * 2 ^ j < 2 ^ 64 := by
  have h1 : (2 ^ k - 1) * 2 ^ j < 2 ^ k * 2 ^ j := by
   apply Nat.mul_lt_mul_of_pos_right _ hp
   omega
  have h2 : 2 ^ k * 2 ^ j ≤ 2 ^ 64 := by
   rw [← Nat.pow_add]
   exact Nat.pow_le_pow_right (by decide) (by omega)
  omega
 have hlo : 2 ^ j * (V % 2 ^ k) + X % 2 ^ j < 2 ^ (j + k) := by
  have h1 := Nat.mod_lt V hk
  have h2 := Nat.mod_lt X hp
  rw [Nat.pow_add]
  have h3 : 2 ^ j * (V % 2 ^ k + 1) ≤ 2 ^ j * 2 ^ k := Nat.mul_le_mul_left _ h1
  rw [Nat.mul_add] at h3
  omega
 have hlo2 : X % 2 ^ j < 2 ^ j := Nat.mod_lt X hp
 apply Nat.eq_of_testBit_eq
 intro i
 rw [Nat.testBit_or, Nat.testBit_and, show 2 ^ 64 - 1 - (2 ^ k - 1) * 2 ^ j = 2 ^ 64 - ((2 ^ k - 1) * 2 ^ j + 1) by omega, Nat.testBit_two_pow_sub_succ hM, Nat.testBit_mul_two_pow, Nat.testBit_two_pow_sub_one, Nat.testBit_mul_two_pow, Nat.testBit_and, Nat.testBit_two_pow_sub_one,
  Nat.testBit_two_pow_mul_add _ hlo, Nat.testBit_two_pow_mul_add _ hlo2, Nat.testBit_div_two_pow, Nat.testBit_mod_two_pow, Nat.testBit_mod_two_pow]
 have hbig : 64 ≤ i → X.testBit i = false := fun h => Nat.testBit_lt_two_pow (Nat.lt_of_lt_of_le hX (Nat.pow_le_pow_right (by decide) h))
 by_cases h1 : i < j
 ·simp [h1, show i < j + k by omega, show ¬ j ≤ i by omega]
  intro _
  omega
 ·by_cases h2 : i < j + k
  ·simp [h1, h2, show j ≤ i by omega, show i - j < k by omega]
  ·by_cases h3 : i < 64
   ·simp [h2, h3, show j ≤ i by omega, show ¬ i - j < k by omega, show i - (j + k) + (j + k) = i by omega]
   ·simp [h2, hbig (by omega), show j ≤ i by omega, show ¬ i - j < k by omega, show i - (j + k) + (j + k) = i by omega]
theorem pow_cast (k : Nat) : ((2 ^ k : Nat) : Int) = 2 ^ k := by simp
theorem and_mod (V : Nat) (k : Nat) (hV : V < 18446744073709551616) (hk : k ≤ 64) : bits .and .u64 (V : Int) (2 ^ k - 1) = ((V % 2 ^ k : Nat) : Int) := by
 have hp : 0 < 2 ^ k := Nat.pow_pos (by decide)
 have h64 : 2 ^ k ≤ 2 ^ 64 := Nat.pow_le_pow_right (by decide) hk
 have e : ((2 : Int) ^ k - 1) = ((2 ^ k - 1 : Nat) : Int) := by have := pow_cast k; omega
 rw [e, u64_and_nat V (2 ^ k - 1) hV (by omega), Nat.and_two_pow_sub_one_eq_mod]
theorem swV_nat (X V o n : Nat) (hX : X < 18446744073709551616) (hV : V < 18446744073709551616) (hon : o + n ≤ 8) :
  swV (X : Int) (256 ^ n - 1) (V : Int) o = ((2 ^ (8 * o + 8 * n) * (X / 2 ^ (8 * o + 8 * n)) + (2 ^ (8 * o) * (V % 2 ^ (8 * n)) + X % 2 ^ (8 * o)) : Nat) : Int) := by
 have e8 : ((256 : Int) ^ n) = 2 ^ (8 * n) := by rw [Int.pow_mul]; rfl
 have hp : 0 < 2 ^ (8 * o) := Nat.pow_pos (by decide)
 have hk : 0 < 2 ^ (8 * n) := Nat.pow_pos (by decide)
 have hM : (2 ^ (8 * n) - 1) * 2 ^ (8 * o) < 2 ^ 64 := by
  have h1 : (2 ^ (8 * n) - 1) * 2 ^ (8 * o) < 2 ^ (8 * n) * 2 ^ (8 * o) := Nat.mul_lt_mul_of_pos_right (by omega) hp
  have h2 : 2 ^ (8 * n) * 2 ^ (8 * o) ≤ 2 ^ 64 := by
   rw [← Nat.pow_add]
   exact Nat.pow_le_pow_right (by decide) (by omega)
  omega
 have hVm : V % 2 ^ (8 * n) * 2 ^ (8 * o) < 2 ^ 64 := by
  have h1 := Nat.mod_lt V hk
  have h2 : V % 2 ^ (8 * n) * 2 ^ (8 * o) ≤ (2 ^ (8 * n) - 1) * 2 ^ (8 * o) := Nat.mul_le_mul_right _ (by omega)
  omega
 have e1 : IntKind.u64.wrap ((256 ^ n - 1) * 2 ^ (8 * o)) = (((2 ^ (8 * n) - 1) * 2 ^ (8 * o) : Nat) : Int) := by
  rw [IntKind.wrap_u64, e8]
  have c1 := pow_cast (8 * n)
  have c2 := pow_cast (8 * o)
  have : ((2 : Int) ^ (8 * n) - 1) * 2 ^ (8 * o) = (((2 ^ (8 * n) - 1) * 2 ^ (8 * o) : Nat) : Int) := by
   rw [Int.natCast_mul, c2, show ((2 ^ (8 * n) - 1 : Nat) : Int) = 2 ^ (8 * n) - 1 by omega]
  rw [this]
  omega
 have e2 : IntKind.u64.wrap (bits .and .u64 (V : Int) (256 ^ n - 1) * 2 ^ (8 * o)) = ((V % 2 ^ (8 * n) * 2 ^ (8 * o) : Nat) : Int) := by
  rw [e8, and_mod V (8 * n) hV (by omega), IntKind.wrap_u64]
  have c2 := pow_cast (8 * o)
  have : ((V % 2 ^ (8 * n) : Nat) : Int) * 2 ^ (8 * o) = ((V % 2 ^ (8 * n) * 2 ^ (8 * o) : Nat) : Int) := by rw [Int.natCast_mul, c2]
  rw [this]
  omega
 unfold swV
 rw [e1, e2, u64_andNot_nat X _ hX (by omega)]
 rw [u64_or_nat _ _ (Nat.lt_of_le_of_lt Nat.and_le_left hX) (by omega)]
 rw [← nat_put X V (8 * o) (8 * n) (by omega) (by omega), Nat.and_two_pow_sub_one_eq_mod]
theorem leN_split {l : List Int} (h : IsB l) (k : Nat) (hk : k ≤ l.length) : leN (l.take k) = leN l % 256 ^ k ∧ leN (l.drop k) = leN l / 256 ^ k := by
 have e := leN_append (l.take k) (l.drop k)
 rw [List.take_append_drop, List.length_take, Nat.min_eq_left hk] at e
 have b := leN_lt k (l.take k) (by simp; omega) (h.take k)
 have hp : (0 : Int) < 256 ^ k := Int.pow_pos (by decide)
 generalize leN (l.take k) = t at *
 generalize leN (l.drop k) = d at *
 rw [e]
 generalize (256 : Int) ^ k = p at *
 constructor
 ·rw [Int.add_mul_emod_self_left, Int.emod_eq_of_lt b.1 b.2]
 ·rw [Int.add_mul_ediv_left _ _ (by omega), Int.ediv_eq_zero_of_lt b.1 b.2]
  omega
def spl (bs : List Int) (a : Nat) (ms : List Int) : List Int := bs.take a ++ (ms ++ bs.drop (a + ms.length))
theorem spl_len (bs : List Int) (a : Nat) (ms : List Int) (h : a + ms.length ≤ bs.length) : (spl bs a ms).length = bs.length := by
 simp [spl]
 omega
theorem spl_is {bs ms : List Int} {a : Nat} (h : IsB bs) (h' : IsB ms) : IsB (spl bs a ms) := (h.take a).append (h'.append (h.drop _))
theorem spl_lt (bs : List Int) (a : Nat) (ms : List Int) (h : a + ms.length ≤ bs.length) (i : Nat) (hi : i < a) : gB (spl bs a ms) i = gB bs i := by
 simp [gB, spl, List.getD, List.getElem?_append, hi, show i < bs.length by omega, show i < min a bs.length by omega]
theorem spl_in (bs : List Int) (a : Nat) (ms : List Int) (h : a + ms.length ≤ bs.length) (i : Nat) (hi : a ≤ i) (hi' : i < a + ms.length) : gB (spl bs a ms) i = gB ms (i - a) := by
 simp [gB, spl, List.getD, List.getElem?_append, show ¬ i < a by omega, show min a bs.length = a by omega, show i - a < ms.length by omega]
theorem spl_ge (bs : List Int) (a : Nat) (ms : List Int) (h : a + ms.length ≤ bs.length) (i : Nat) (hi : a + ms.length ≤ i) : gB (spl bs a ms) i = gB bs i := by
 simp [gB, spl, List.getD, List.getElem?_append, show ¬ i < a by omega, show min a bs.length = a by omega, show ¬ i - a < ms.length by omega]
 rw [show a + ms.length + (i - a - ms.length) = i by omega]
def wds (bs : List Int) (k : Nat) : List Int := (List.range k).map fun i => leN ((bs.drop (8 * i)).take 8)
theorem wds_len (bs : List Int) (k : Nat) : (wds bs k).length = k := by simp [wds]
theorem wds_at (bs : List Int) (k i : Nat) (h : i < k) : gB (wds bs k) i = leN ((bs.drop (8 * i)).take 8) := by
 simp [gB, wds, List.getD, h]
variable {bs : List Int}
theorem word_bd (h : IsB bs) (i : Nat) : 0 ≤ leN ((bs.drop (8 * i)).take 8) ∧ leN ((bs.drop (8 * i)).take 8) ≤ 18446744073709551615 := by
 have := leN_lt 8 _ (by simp; omega) ((h.drop (8 * i)).take 8)
 have e : (256 : Int) ^ 8 = 18446744073709551616 := by decide
 omega
theorem wds_bd (h : IsB bs) (k i : Nat) (hi : i < k) : 0 ≤ gB (wds bs k) i ∧ gB (wds bs k) i ≤ 18446744073709551615 := by
 rw [wds_at _ _ _ hi]
 exact word_bd h i
def rdN (bs : List Int) (a n : Nat) : Int := leN ((bs.drop a).take n)
theorem pow256 (k : Nat) : (2 : Int) ^ (8 * k) = 256 ^ k := by rw [Int.pow_mul]; rfl
theorem gtV_word {B : List Int} (h : IsB B) (hl : B.length = 8) (o n : Nat) (hon : o + n ≤ 8) : gtV (leN B) (256 ^ n - 1) o = leN ((B.drop o).take n) := by
 have b := leN_lt 8 B (by omega) h
 have e : (256 : Int) ^ 8 = 18446744073709551616 := by decide
 have h1 := (leN_split h o (by omega)).2
 have h2 := (leN_split (h.drop o) n (by simp; omega)).1
 have b2 := leN_lt 8 (B.drop o) (by simp; omega) (h.drop o)
 unfold gtV
 rw [pow256, ← h1]
 have e8 : ((256 : Int) ^ n) = 2 ^ (8 * n) := by rw [Int.pow_mul]; rfl
 obtain ⟨X, hX⟩ := Int.eq_ofNat_of_zero_le b2.1
 rw [h2, hX, e8, and_mod X (8 * n) (by omega) (by omega), Int.natCast_emod, pow_cast]
theorem swV_word {B : List Int} (h : IsB B) (hl : B.length = 8) (o n : Nat) (v : Int) (h0 : 0 ≤ v) (h1 : v ≤ 18446744073709551615) (hon : o + n ≤ 8) :
  swV (leN B) (256 ^ n - 1) v o = leN (B.take o ++ (leB v n ++ B.drop (o + n))) := by
 have b := leN_lt 8 B (by omega) h
 have e : (256 : Int) ^ 8 = 18446744073709551616 := by decide
 have s1 := (leN_split h o (by omega)).1
 have s2 := (leN_split h (o + n) (by omega)).2
 rw [leN_append, leN_append, leN_leB, leB_length, List.length_take, Nat.min_eq_left (by omega : o ≤ B.length), s1, s2]
 obtain ⟨X, hX⟩ := Int.eq_ofNat_of_zero_le b.1
 obtain ⟨V, hV⟩ := Int.eq_ofNat_of_zero_le h0
 rw [hX, hV, swV_nat X V o n (by omega) (by omega) hon]
 rw [← Nat.mul_add]
 simp only [Int.natCast_add, Int.natCast_mul, Int.natCast_ediv, Int.natCast_emod, pow_cast, pow256]
 rw [Int.mul_add, ← Int.mul_assoc, ← Int.pow_add]
 omega
variable {k : Nat}
theorem block8 (hl : bs.length = 8 * k) (i : Nat) (hi : i < k) : ((bs.drop (8 * i)).take 8).length = 8 := by simp; omega
theorem gt_bytes (h : IsB bs) (hl : bs.length = 8 * k) (a n : Nat) (hn : a % 8 + n ≤ 8) (ha : a / 8 < k) : gtV (gB (wds bs k) (a / 8)) (256 ^ n - 1) (a % 8) = rdN bs a n := by
 rw [wds_at _ _ _ ha, gtV_word ((h.drop _).take 8) (block8 hl _ ha) _ _ hn]
 unfold rdN
 congr 1
 rw [List.drop_take, List.take_take, List.drop_drop, Nat.min_eq_left (by omega), show 8 * (a / 8) + a % 8 = a by omega]
theorem sw_bytes (h : IsB bs) (hl : bs.length = 8 * k) (a n : Nat) (v : Int) (h0 : 0 ≤ v) (h1 : v ≤ 18446744073709551615) (hn : a % 8 + n ≤ 8) (ha : a / 8 < k) :
  (wds bs k).set (a / 8) (swV (gB (wds bs k) (a / 8)) (256 ^ n - 1) v (a % 8)) = wds (spl bs a (leB v n)) k := by
 have hak : a + n ≤ bs.length := by omega
 rw [wds_at _ _ _ ha, swV_word ((h.drop _).take 8) (block8 hl _ ha) _ _ v h0 h1 hn]
 apply List.ext_getElem
 ·simp [wds]
 intro i hi1 hi2
 have hik : i < k := by simpa [wds] using hi2
 have L := leB_length v n
 simp only [List.getElem_set, wds, List.getElem_map, List.getElem_range]
 have key : ∀ j, j < 8 → gB ((List.drop (8 * i) (spl bs a (leB v n))).take 8) j = gB (spl bs a (leB v n)) (8 * i + j) := by
  intro j hj
  simp [gB, List.getD, hj]
 have hlen : ((List.drop (8 * i) (spl bs a (leB v n))).take 8).length = 8 := by
  have := spl_len bs a (leB v n) (by omega)
  simp
  omega
 have eqOf : ∀ (A C : List Int), A.length = 8 → C.length = 8 → (∀ j, j < 8 → gB A j = gB C j) → A = C := by
  intro A C hA hC hj
  apply List.ext_getElem (by omega)
  intro j h1 h2
  have := hj j (by omega)
  simpa [gB, List.getD, h1, h2] using this
 by_cases he : a / 8 = i
 ·rw [if_pos he]
  congr 1
  apply eqOf
  ·simp [L]; omega
  ·exact hlen
  intro j hj
  rw [key j hj, ← he]
  by_cases c1 : j < a % 8
  ·rw [spl_lt _ _ _ (by omega) _ (by omega)]
   simp [gB, List.getD, List.getElem?_append, c1, show 8 * (a / 8) + j < bs.length by omega, hj, show j < min (a % 8) (min 8 (bs.length - 8 * (a / 8))) by omega]
  ·by_cases c2 : j < a % 8 + n
   ·rw [spl_in _ _ _ (by omega) _ (by omega) (by omega)]
    simp [gB, List.getD, List.getElem?_append, c1, show min (a % 8) (min 8 (bs.length - 8 * (a / 8))) = a % 8 by omega, L, show j - a % 8 < n by omega, show 8 * (a / 8) + j - a = j - a % 8 by omega]
   ·rw [spl_ge _ _ _ (by omega) _ (by omega)]
    simp [gB, List.getD, List.getElem?_append, c1, show min (a % 8) (min 8 (bs.length - 8 * (a / 8))) = a % 8 by omega, L, show ¬ j - a % 8 < n by omega, show a % 8 + n + (j - a % 8 - n) = j by omega, hj]
 ·rw [if_neg he]
  congr 1
  apply eqOf
  ·exact block8 hl i hik
  ·exact hlen
  intro j hj
  rw [key j hj]
  have g : gB ((bs.drop (8 * i)).take 8) j = gB bs (8 * i + j) := by simp [gB, List.getD, hj]
  rw [g]
  by_cases c1 : i < a / 8
  ·rw [spl_lt _ _ _ (by omega) _ (by omega)]
  ·rw [spl_ge _ _ _ (by omega) _ (by omega)]
set_option maxRecDepth 100000
set_option linter.unusedVariables false
theorem cells_newb {w w1 : World} {c : Array Value} {t : TypeId} (h : Below (w.alloc (.cells c t)).heap.size (w.alloc (.cells c t)) w1) (i : Nat) : w1.cell? ⟨w.heap.size, i, none⟩ = c[i]? := by
 rw [h.cell (p := ⟨w.heap.size, i, none⟩) (by simp), World.cell?, (MapKept.heap_alloc w _).1]
 rfl
theorem cells6b {w w1 : World} {a b c d e f : Value} {t : TypeId} (h : Below (w.alloc (.cells #[a, b, c, d, e, f] t)).heap.size (w.alloc (.cells #[a, b, c, d, e, f] t)) w1) :
  w1.cell? ⟨w.heap.size, 0, none⟩ = some a ∧ w1.cell? ⟨w.heap.size, 1, none⟩ = some b ∧ w1.cell? ⟨w.heap.size, 2, none⟩ = some c ∧ w1.cell? ⟨w.heap.size, 3, none⟩ = some d ∧ w1.cell? ⟨w.heap.size, 4, none⟩ = some e ∧ w1.cell? ⟨w.heap.size, 5, none⟩ = some f :=
 ⟨cells_newb h 0, cells_newb h 1, cells_newb h 2, cells_newb h 3, cells_newb h 4, cells_newb h 5⟩
def acSized (k n l : Int) : Bool :=
 if k = 1 ∨ k = 2 ∨ k = 4 then n == 4 || n == 8 else if k = 3 then n == 8 else if k = 5 then decide (0 ≤ n) && decide (n ≤ 8) else if k = 6 then n == l && decide (n ≤ 8) else false
def acE (size k a n l : Int) : Int := if acSized k n l = false then 1 else if a < 0 ∨ size < a ∨ size - a < n then 2 else if k < 5 ∧ a % n ≠ 0 then 3 else 0
set_option maxHeartbeats 2000000 in
theorem sized_any (k a n v x : Int) (s0 : Option Addr) (sl sc : Nat) (w : World) :
  Calls Tryz.prog 163 #[.agg #[.int .i64 k, .int .i64 a, .int .i64 n, .int .u64 v, .int .u64 x, .slice s0 sl sc]] w fun e w' => e = .returned (.bool (acSized k n sl)) ∧ Below w.heap.size w w' := by
 by_cases k1 : k = 1
 ·subst k1
  have HV := Lib.hid (show acSized 1 n sl = (n == 4 || n == 8) by simp [acSized])
  go_enter Tryz.func163, Tryz.ntmps163
  go_wp2
  all_goals
   go_ret
   exact ⟨congrArg Ending.returned (congrArg Value.bool (by rw [HV.out] <;> first | (simp [*]; done) | (simp; omega))), by go_grown⟩
 by_cases k2 : k = 2
 ·subst k2
  have HV := Lib.hid (show acSized 2 n sl = (n == 4 || n == 8) by simp [acSized])
  clear k1
  go_enter Tryz.func163, Tryz.ntmps163
  go_wp2
  all_goals
   go_ret
   exact ⟨congrArg Ending.returned (congrArg Value.bool (by rw [HV.out] <;> first | (simp [*]; done) | (simp; omega))), by go_grown⟩
 by_cases k4 : k = 4
 ·subst k4
  have HV := Lib.hid (show acSized 4 n sl = (n == 4 || n == 8) by simp [acSized])
  clear k1 k2
  go_enter Tryz.func163, Tryz.ntmps163
  go_wp2
  all_goals
   go_ret
   exact ⟨congrArg Ending.returned (congrArg Value.bool (by rw [HV.out] <;> first | (simp [*]; done) | (simp; omega))), by go_grown⟩
 by_cases k3 : k = 3
 ·subst k3
  have HV := Lib.hid (show acSized 3 n sl = (n == 8) by simp [acSized])
  clear k1 k2 k4
  go_enter Tryz.func163, Tryz.ntmps163
  go_wp2
  all_goals
   go_ret
   exact ⟨congrArg Ending.returned (congrArg Value.bool (by rw [HV.out])), by go_grown⟩
 by_cases k5 : k = 5
 ·subst k5
  have HV := Lib.hid (show acSized 5 n sl = (decide (0 ≤ n) && decide (n ≤ 8)) by simp [acSized])
  clear k1 k2 k4 k3
  go_enter Tryz.func163, Tryz.ntmps163
  go_wp2
  all_goals
   go_ret
   exact ⟨congrArg Ending.returned (congrArg Value.bool (by rw [HV.out] <;> first | (simp [*]; done) | (simp; omega))), by go_grown⟩
 by_cases k6 : k = 6
 ·subst k6
  have HV := Lib.hid (show acSized 6 n sl = (n == (sl : Int) && decide (n ≤ 8)) by simp [acSized])
  clear k1 k2 k4 k3 k5
  go_enter Tryz.func163, Tryz.ntmps163
  go_wp2
  all_goals
   go_ret
   exact ⟨congrArg Ending.returned (congrArg Value.bool (by rw [HV.out] <;> first | (simp [*]; done) | (simp; omega))), by go_grown⟩
 have HV := Lib.hid (show acSized k n sl = false by simp [acSized, k1, k2, k3, k4, k5, k6])
 have d1 : (k == 1) = false := by simpa using k1
 have d2 : (k == 2) = false := by simpa using k2
 have d3 : (k == 3) = false := by simpa using k3
 have d4 : (k == 4) = false := by simpa using k4
 have d5 : (k == 5) = false := by simpa using k5
 have d6 : (k == 6) = false := by simpa using k6
 clear k1 k2 k3 k4 k5 k6
 go_enter Tryz.func163, Tryz.ntmps163
 go_wp2
 all_goals
  go_ret
  exact ⟨congrArg Ending.returned (congrArg Value.bool (by rw [HV.out])), by go_grown⟩
theorem acSized_n {k n l : Int} (h : acSized k n l = true) (hk : k < 5) : n = 4 ∨ n = 8 := by
 unfold acSized at h
 split at h
 ·simpa using h
 split at h
 ·simp at h; omega
 split at h
 ·omega
 split at h
 ·omega
 ·cases h
theorem acSized_bd {k n l : Int} (h : acSized k n l = true) (hl : 0 ≤ l) : 0 ≤ n ∧ n ≤ 8 := by
 unfold acSized at h
 split at h
 ·simp at h; omega
 split at h
 ·simp at h; omega
 split at h
 ·simp at h; omega
 split at h
 ·simp at h; omega
 ·cases h
set_option maxHeartbeats 2000000 in
theorem mCheck_any (size k a n v x : Int) (s0 : Option Addr) (sl sc : Nat) (w : World) (hs : 0 ≤ size) (hs' : size ≤ 131072) :
  Calls Tryz.prog 145 #[.int .i64 size, .agg #[.int .i64 k, .int .i64 a, .int .i64 n, .int .u64 v, .int .u64 x, .slice s0 sl sc]] w fun e w' => e = .returned (.int .i64 (acE size k a n sl)) ∧ Below w.heap.size w w' := by
 rcases hz : acSized k n sl with _ | _
 ·have HV := Lib.hid (show acE size k a n sl = 1 by unfold acE; rw [if_pos hz])
  have HZ := Lib.hid hz
  clear hz
  go_enter Tryz.func145, Tryz.ntmps145
  go_wp2_with fail
  refine (sized_any k a n v x s0 sl sc _).mono ?_
  rintro e w1 ⟨rfl, b1⟩
  rw [HZ.out]
  go_wp2
  go_ret
  exact ⟨ret_int (by rw [HV.out]), Below.trans (by go_grown) (b1.mono (by simp))⟩
 have HZ := Lib.hid hz
 have hn := acSized_bd hz (by omega)
 by_cases ha : a < 0
 ·have HV := Lib.hid (show acE size k a n sl = 2 by unfold acE; rw [if_neg (by rw [hz]; decide), if_pos (.inl ha)])
  clear hz
  go_enter Tryz.func145, Tryz.ntmps145
  go_wp2_with fail
  refine (sized_any k a n v x s0 sl sc _).mono ?_
  rintro e w1 ⟨rfl, b1⟩
  rw [HZ.out]
  obtain ⟨f0, f1, f2, f3, f4, f5⟩ := cells6b b1
  go_wp2
  go_ret
  exact ⟨ret_int (by rw [HV.out]), Below.trans (by go_grown) (b1.mono (by simp))⟩
 by_cases ha2 : size < a
 ·have HV := Lib.hid (show acE size k a n sl = 2 by unfold acE; rw [if_neg (by rw [hz]; decide), if_pos (.inr (.inl ha2))])
  clear hz
  go_enter Tryz.func145, Tryz.ntmps145
  go_wp2_with fail
  refine (sized_any k a n v x s0 sl sc _).mono ?_
  rintro e w1 ⟨rfl, b1⟩
  rw [HZ.out]
  obtain ⟨f0, f1, f2, f3, f4, f5⟩ := cells6b b1
  go_wp2
  go_ret
  exact ⟨ret_int (by rw [HV.out]), Below.trans (by go_grown) (b1.mono (by simp))⟩
 by_cases ha3 : size - a < n
 ·have HV := Lib.hid (show acE size k a n sl = 2 by unfold acE; rw [if_neg (by rw [hz]; decide), if_pos (.inr (.inr ha3))])
  clear hz
  go_enter Tryz.func145, Tryz.ntmps145
  go_wp2_with fail
  refine (sized_any k a n v x s0 sl sc _).mono ?_
  rintro e w1 ⟨rfl, b1⟩
  rw [HZ.out]
  obtain ⟨f0, f1, f2, f3, f4, f5⟩ := cells6b b1
  go_wp2
  go_ret
  exact ⟨ret_int (by rw [HV.out]), Below.trans (by go_grown) (b1.mono (by simp))⟩
 by_cases hk : k < 5
 ·have h48 := acSized_n hz hk
  have hnz : ¬ n = 0 := by omega
  by_cases hm : a % n = 0
  ·have HV := Lib.hid (show acE size k a n sl = 0 by unfold acE; rw [if_neg (by rw [hz]; decide), if_neg (by omega), if_neg (by omega)])
   have dm : (a % n != 0) = false := by simp [hm]
   clear hz hm h48
   go_enter Tryz.func145, Tryz.ntmps145
   go_wp2_with fail
   refine (sized_any k a n v x s0 sl sc _).mono ?_
   rintro e w1 ⟨rfl, b1⟩
   rw [HZ.out]
   obtain ⟨f0, f1, f2, f3, f4, f5⟩ := cells6b b1
   go_wp2
   go_ret
   exact ⟨ret_int (by rw [HV.out]), Below.trans (by go_grown) (b1.mono (by simp))⟩
  ·have HV := Lib.hid (show acE size k a n sl = 3 by unfold acE; rw [if_neg (by rw [hz]; decide), if_neg (by omega), if_pos ⟨hk, hm⟩])
   have dm : (a % n != 0) = true := by simpa using hm
   clear hz hm h48
   go_enter Tryz.func145, Tryz.ntmps145
   go_wp2_with fail
   refine (sized_any k a n v x s0 sl sc _).mono ?_
   rintro e w1 ⟨rfl, b1⟩
   rw [HZ.out]
   obtain ⟨f0, f1, f2, f3, f4, f5⟩ := cells6b b1
   go_wp2
   go_ret
   exact ⟨ret_int (by rw [HV.out]), Below.trans (by go_grown) (b1.mono (by simp))⟩
 ·have HV := Lib.hid (show acE size k a n sl = 0 by unfold acE; rw [if_neg (by rw [hz]; decide), if_neg (by omega), if_neg (by omega)])
  clear hz
  go_enter Tryz.func145, Tryz.ntmps145
  go_wp2_with fail
  refine (sized_any k a n v x s0 sl sc _).mono ?_
  rintro e w1 ⟨rfl, b1⟩
  rw [HZ.out]
  obtain ⟨f0, f1, f2, f3, f4, f5⟩ := cells6b b1
  go_wp2
  go_ret
  exact ⟨ret_int (by rw [HV.out]), Below.trans (by go_grown) (b1.mono (by simp))⟩
structure Buf (w : World) (p c : Nat) (cnt : Int) (bs : List Int) : Prop where
 hd : Blk w p [.slice (some ⟨c, 0, none⟩) (bs.length / 8) (bs.length / 8), .int .i64 cnt]
 wd : WB w c (wds bs (bs.length / 8))
 len : bs.length = 8 * (bs.length / 8)
 is : IsB bs
 ne : p ≠ c
 le : bs.length ≤ 131072
variable {w w' : World} {p c : Nat} {cnt : Int}
theorem Buf.keep {M : Nat → Prop} (h : Buf w p c cnt bs) (k : Keep M w w') (hp : ¬ M p) (hc : ¬ M c) : Buf w' p c cnt bs :=
 ⟨h.hd.keep k hp, h.wd.keep k hc, h.len, h.is, h.ne, h.le⟩
theorem Buf.below {B : Nat} (h : Buf w p c cnt bs) (k : Below B w w') (hp : p < B) (hc : c < B) : Buf w' p c cnt bs :=
 ⟨h.hd.below k hp, h.wd.below k hc, h.len, h.is, h.ne, h.le⟩
theorem Buf.belows (h : Buf w p c cnt bs) (k : Below w.heap.size w w') : Buf w' p c cnt bs := h.below k h.hd.lt h.wd.lt
set_option maxHeartbeats 400000 in
theorem mSize_any (p c : Nat) (cnt : Int) (bs : List Int) (w : World) (h : Buf w p c cnt bs) :
  Calls Tryz.prog 146 #[.pointer (some ⟨p, 0, none⟩)] w fun e w' => e = .returned (.int .i64 bs.length) ∧ w = w' := by
 have hc0 := h.hd.cell 0
 simp only [List.getElem?_cons_zero] at hc0
 have hle := h.le
 have hlen := Lib.hid h.len
 have h8 : bs.length / 8 ≤ 16384 := by omega
 obtain ⟨k, hk⟩ : ∃ k, k = bs.length / 8 := ⟨_, rfl⟩
 rw [← hk] at hc0 h8
 have HK := Lib.hid hk
 clear h hk hle
 go_enter Tryz.func146, Tryz.ntmps146
 go_wp2
 go_ret
 exact ⟨ret_int (by have := HK.out; have := hlen.out; omega), rfl⟩
theorem u138info : (Tryz.prog.info? 131).map (fun i => (i.zero, i.size, i.bytes)) = some (some (.agg #[.int .u64 0]), 1, 8) := by kernel_rfl
theorem own_blk {w : World} {B E g n : Nat} {xs : List Value} (h : w.ownsRow B E 1 (.slice (some ⟨g, 0, none⟩) n n) n xs) : Blk w g xs ∧ B ≤ g := by
 rcases h.2 with ⟨h, _⟩ | ⟨g', cap, cur, e, hb, hg, hn, hc, hs, ht⟩
 ·cases h
 ·cases e
  refine ⟨⟨E, ?_⟩, hb⟩
  rw [hg, ← ht, List.take_of_length_le (by simp; omega)]
theorem leN_zeros (m : Nat) : leN (List.replicate m 0) = 0 := by
 induction m with
 | zero => rfl
 | succ m ih => simp [List.replicate_succ, leN, ih]
theorem wds_zeros (k : Nat) : wds (List.replicate (8 * k) 0) k = List.replicate k 0 := by
 apply List.ext_getElem
 ·simp [wds]
 intro i h1 h2
 simp [wds, leN_zeros]
theorem made_zeros (k : Nat) : ((List.replicate k (0 : Int)).map (Value.int .u64)) = (madeCells #[Value.int .u64 0] (k * 1)).toList := by
 simp only [madeCells, List.map_replicate, Nat.mul_one]
 apply List.ext_getElem
 ·simp
 ·intro i h1 h2
  simp [Nat.mod_one]
theorem zeros_is (m : Nat) : IsB (List.replicate m 0) := by
 intro x hx
 obtain ⟨_, rfl⟩ := List.mem_replicate.1 hx
 omega
set_option maxHeartbeats 1000000 in
theorem mNew_any (k : Nat) (w : World) (h1 : 1 ≤ k) (h2 : k ≤ 16384) :
  Calls Tryz.prog 9 #[.int .i64 (8 * (k : Int))] w fun e w' => ∃ p c, e = .returned (.tuple #[.pointer (some ⟨p, 0, none⟩), .int .i64 0]) ∧ Buf w' p c 0 (List.replicate (8 * k) 0) ∧ w.heap.size ≤ p ∧ w.heap.size ≤ c ∧ Below w.heap.size w w' := by
 obtain ⟨i0, hi, hz0, hz1, hz2⟩ := info_parts u138info
 have hm : (8 * (k : Int) % 8 != 0) = false := by simp
 have q1 : ¬ (8 * (k : Int)) < 8 := by omega
 have q2 : ¬ 131072 < (8 * (k : Int)) := by omega
 go_enter Tryz.func9, Tryz.ntmps9
 go_wp2_with (refine wpList_make_full _ rfl _ _ 99 rfl w.heap.size 131 i0 (.agg #[.int .u64 0]) 1 Tryz.underlying99 hi hz0 hz1 _ _ _ _ k rfl rfl rfl rfl (by rw [hz2]; omega) (by unfold maxLen; omega) (Nat.le_refl _) ?_)
 intro w1 own1 hg1
 obtain ⟨hblk, _⟩ := own_blk own1
 have hb1 : Below w.heap.size w w1 := (Below.refl _ _).grown hg1 (Nat.le_refl _) (fun k hk => by cases hk)
 have hz1' := hblk.lt
 have HB := Lib.hid hblk
 clear own1 hg1 hblk
 go_wp2
 go_ret2
 refine ⟨w1.heap.size, w.heap.size, rfl, ⟨?_, ?_, ?_, zeros_is _, by omega, by simp; omega⟩, by omega, Nat.le_refl _, hb1.alloc (by omega) _⟩
 ·have e := Blk.made w1 #[.slice (some ⟨w.heap.size, 0, none⟩) k k, .int .i64 0] 106
  simp only [List.length_replicate, Nat.mul_div_cancel_left k (show 0 < 8 by omega)]
  exact e
 ·simp only [List.length_replicate, Nat.mul_div_cancel_left k (show 0 < 8 by omega)]
  unfold WB
  rw [wds_zeros, made_zeros, Nat.mul_one]
  exact HB.out.alloc _
 ·simp
theorem at_of {p c cap k : Nat} {cnt : Value} (m n : Nat) (A N : Int) (w : World) (hb : Blk w p [.slice (some ⟨c, 0, none⟩) k cap, cnt]) (hA : A = m) (hN : N = n) (ha : m < 8 * k) (hk : k ≤ 1000000) (hn : n ≤ 8) :
  Calls Tryz.prog 149 #[.pointer (some ⟨p, 0, none⟩), .int .i64 A, .int .i64 N] w fun e w' => e = .returned (.agg #[.pointer (some ⟨c, m / 8, none⟩), .int .u64 (8 * ((m % 8 : Nat) : Int)), .int .u64 (256 ^ n - 1)]) ∧ Below w.heap.size w w' := by
 subst hA hN
 exact at_any p c m n cap cnt k w hb ha hk hn
theorem get_bytes (m n : Nat) (w : World) (h : Buf w p c cnt bs) (hm : m % 8 + n ≤ 8) (hl : m < bs.length) :
  Calls Tryz.prog 151 #[.agg #[.pointer (some ⟨c, m / 8, none⟩), .int .u64 (8 * ((m % 8 : Nat) : Int)), .int .u64 (256 ^ n - 1)]] w fun e w' => e = .returned (.int .u64 (rdN bs m n)) ∧ Below w.heap.size w w' := by
 have hk : m / 8 < bs.length / 8 := by have := h.len; omega
 have b := wds_bd h.is (bs.length / 8) (m / 8) hk
 have := get_any c (m / 8) (m % 8) (gB (wds bs (bs.length / 8)) (m / 8)) (256 ^ n - 1) w (by omega) b.1 b.2 (h.wd.cell _ (by rw [wds_len]; exact hk))
 rw [gt_bytes h.is h.len m n hm hk] at this
 exact this
theorem put_bytes (m n : Nat) (v : Int) (w : World) (h : Buf w p c cnt bs) (hm : m % 8 + n ≤ 8) (hl : m < bs.length) (h0 : 0 ≤ v) (h1 : v ≤ 18446744073709551615) :
  Calls Tryz.prog 150 #[.agg #[.pointer (some ⟨c, m / 8, none⟩), .int .u64 (8 * ((m % 8 : Nat) : Int)), .int .u64 (256 ^ n - 1)], .int .u64 v] w fun e w' => e = .returned (.tuple #[]) ∧ Buf w' p c cnt (spl bs m (leB v n)) ∧ Keep (· = c) w w' := by
 have hk : m / 8 < bs.length / 8 := by have := h.len; omega
 have b := wds_bd h.is (bs.length / 8) (m / 8) hk
 have hsl : (spl bs m (leB v n)).length = bs.length := spl_len _ _ _ (by have := h.len; rw [leB_length]; omega)
 refine (put_any c (m / 8) (m % 8) (wds bs (bs.length / 8)) (256 ^ n - 1) v w (by omega) b.1 b.2 h.wd (by rw [wds_len]; exact hk)).mono ?_
 rintro e w' ⟨rfl, hw, hkp⟩
 rw [sw_bytes h.is h.len m n v h0 h1 hm hk] at hw
 refine ⟨rfl, ⟨?_, ?_, ?_, spl_is h.is (leB_is _ _), h.ne, ?_⟩, hkp⟩
 ·rw [hsl]
  exact h.hd.keep hkp h.ne
 ·rw [hsl]
  exact hw
 ·rw [hsl]
  exact h.len
 ·rw [hsl]
  exact h.le
theorem rdN_one (bs : List Int) (m : Nat) (h : m < bs.length) : rdN bs m 1 = gB bs m := by
 unfold rdN
 have e := List.drop_eq_getElem_cons h
 rw [e, List.take_succ_cons, List.take_zero]
 simp [leN, gB, h]
theorem own_below {B E n : Nat} {v : Value} {xs : List Value} (h : w.ownsRow B E 1 v n xs) (hb : Below w.heap.size w w') : w'.ownsRow B E 1 v n xs := by
 obtain ⟨h1, h2⟩ := h
 refine ⟨h1, h2.imp id ?_⟩
 rintro ⟨g, cap, cur, e1, e2, e3, e4⟩
 exact ⟨g, cap, cur, e1, e2, by rw [hb.block g (by have := Array.getElem?_eq_some_iff.1 e3; exact this.1)]; exact e3, e4⟩
def rbS (bs : List Int) (a n k : Nat) : List Int := (bs.drop a).take k ++ List.replicate (n - k) 0
theorem rbS_start (bs : List Int) (a n : Nat) : (rbS bs a n 0).map (Value.int .u8) = (madeCells #[Value.int .u8 0] n).toList := by
 simp only [rbS, madeCells, Nat.sub_zero, List.take_zero, List.nil_append, List.map_replicate]
 apply List.ext_getElem
 ·simp
 ·intro i h1 h2
  simp [Nat.mod_one]
theorem rbS_end (bs : List Int) (a n : Nat) (h : a + n ≤ bs.length) : rbS bs a n n = (bs.drop a).take n := by simp [rbS]
theorem rbS_set (bs : List Int) (a n k : Nat) (h : k < n) (ha : a + n ≤ bs.length) : ((rbS bs a n k).map (Value.int .u8)).set k (.int .u8 (gB bs (a + k))) = (rbS bs a n (k + 1)).map (Value.int .u8) := by
 obtain ⟨m, hm⟩ : ∃ m, n - k = m + 1 := ⟨n - k - 1, by omega⟩
 unfold rbS
 rw [hm, show n - (k + 1) = m from by omega, List.take_succ_eq_append_getElem (by simp; omega)]
 have e : gB bs (a + k) = bs[a + k]'(by omega) := by simp [gB, List.getD, show a + k < bs.length by omega]
 rw [e]
 simp [List.replicate_succ, show min k (bs.length - a) = k by omega]
theorem rbS_cell (bs : List Int) (a n k : Nat) (h : k < n) (ha : a + n ≤ bs.length) : ((rbS bs a n k).map (Value.int .u8))[k]? = some (.int .u8 0) := by
 have e : ((bs.drop a).take k).length = k := by simp; omega
 unfold rbS
 rw [List.getElem?_map, List.getElem?_append_right (by omega), e, Nat.sub_self]
 simp [List.getElem?_replicate, Nat.sub_pos_of_lt h]
set_option maxHeartbeats 1000000 in
theorem mbytes_any (p c : Nat) (cnt : Int) (bs : List Int) (a n : Nat) (w : World) (h : Buf w p c cnt bs) (hn : n ≤ 8) (ha : a + n ≤ bs.length) :
  Calls Tryz.prog 148 #[.pointer (some ⟨p, 0, none⟩), .int .i64 a, .int .i64 n] w fun e w' => ∃ v, e = .returned v ∧ OwB 5 w.heap.size w' v ((bs.drop a).take n) ∧ Below w.heap.size w w' := by
 obtain ⟨i0, hi, hz0, hz1, hz2⟩ := info_parts u8info
 have hle := h.le
 have H := Lib.hid h
 have hpl := h.hd.lt
 have hcl := h.wd.lt
 clear h
 go_enter Tryz.func148, Tryz.ntmps148
 go_wp2_with (refine wpList_make_full _ rfl _ _ 32 rfl w.heap.size 5 i0 (.int .u8 0) 1 Tryz.underlying32 hi hz0 hz1 _ _ _ _ n rfl rfl rfl rfl (by rw [hz2]; omega) (by unfold maxLen; omega) (Nat.le_refl _) ?_)
 intro w1 own1 hg1
 have own0 : w1.ownsRow w.heap.size 5 1 (.slice (some ⟨w.heap.size, 0, none⟩) n n) n ((rbS bs a n 0).map (Value.int .u8)) := by
  rw [rbS_start]
  exact own1
 have hb1 : Below w.heap.size w w1 := (Below.refl _ _).grown hg1 (Nat.le_refl _) (fun k hk => by cases hk)
 clear own1 hg1
 go_wp2_with fail
 go_loopw [8, 13] (fun j i wr => ∃ k : Nat, k ≤ n ∧ i = .int .i64 k ∧ wr.ownsRow w.heap.size 5 1 (.slice (some ⟨w.heap.size, 0, none⟩) n n) n ((rbS bs a n k).map (Value.int .u8)) ∧ Below w.heap.size w wr) (fun _ i _ => n - (intOf i).toNat)
 case atStart => exact ⟨0, by omega, rfl, own0, hb1⟩
 case round =>
  obtain ⟨k, hk, rfl, hown, hbel⟩ := hrel
  by_cases hlt : k < n
  ·have hzl := hbel.size
   have hcl2 := (World.ownsRow.lt hown _ rfl).2
   have HO := Lib.hid hown
   have hcell := hown.cellAt k (by omega)
   have hfroz := hown.frozenAt k
   rw [rbS_cell bs a n k hlt ha] at hcell
   have hgb := H.out.is.getD (a + k)
   clear hown
   go_wp2_with fail
   refine (at_of (a + k) 1 _ _ _ (H.out.belows hbel).hd (by omega) rfl (by have := H.out.len; omega) (by omega) (by omega)).mono ?_
   rintro e w2 ⟨rfl, b2⟩
   have z2 := b2.size
   go_wp2_with fail
   refine (get_bytes (a + k) 1 _ ((H.out.belows hbel).belows b2) (by omega) (by omega)).mono ?_
   rintro e w3 ⟨rfl, b3⟩
   have z3 := b3.size
   rw [rdN_one _ _ (by omega)]
   have B3 := b2.trans (b3.mono z2)
   have hc3 := B3.cell (p := ⟨w.heap.size, k, none⟩) hcl2
   have hf3 := B3.frozen (p := ⟨w.heap.size, k, none⟩) hcl2
   rw [hfroz] at hf3
   clear hfroz
   rw [hcell] at hc3
   clear hcell
   go_wp2
   have hst := (own_below HO.out B3).stored k (.int .u8 (gB bs (a + k)))
   refine ⟨⟨k + 1, by omega, by go_num, ?_, (hbel.trans (B3.mono hzl)).setCell (Nat.le_refl _) _⟩, by simp [intOf]; omega⟩
   have e := hst.1
   rw [rbS_set bs a n k hlt ha] at e
   exact e
  ·go_wp2
   go_ret
   obtain rfl : k = n := by omega
   rw [rbS_end _ _ _ ha] at hown
   refine ⟨_, rfl, ?_, hbel⟩
   unfold OwB
   rw [show ((bs.drop a).take k).length = k by simp; omega]
   exact hown
end Go.Proofs.YtggjhleomocojaaGreat
end
