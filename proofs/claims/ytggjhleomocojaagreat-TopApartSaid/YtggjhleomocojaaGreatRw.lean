/- Plain lemmas on lists of bytes, numbers and worlds; no program in sight. Conditions: none. -/
import Derived.WalkKit
import Derived.WalkSpells
import Derived.Lib.Hide
import Derived.Deep.QuietTactic
import Derived.Test.YtggjhleomocojaaGreatProg
import Derived.ProofKit
import Derived.OpenShut
import Derived.Handy
import Derived.Outline
import Derived.BigQuiet
import Derived.Deep.RegionWith
namespace Go.Proofs.YtggjhleomocojaaGreat
open Go.RowKit
def leB (v : Int) : Nat → List Int
 | 0 => []
 | n + 1 => v % 256 :: leB (v / 256) n
def leN : List Int → Int
 | [] => 0
 | b :: r => b + 256 * leN r
def IsB (l : List Int) : Prop := ∀ x ∈ l, 0 ≤ x ∧ x < 256
def gB (l : List Int) (k : Nat) : Int := l.getD k 0
variable {l : List Int}
theorem IsB.getD (h : IsB l) (k : Nat) : 0 ≤ gB l k ∧ gB l k < 256 := by
 unfold gB
 by_cases hk : k < l.length
 ·have := h l[k] (by simp); simpa [hk] using this
 ·simp at hk; simp [hk]
theorem IsB.take (h : IsB l) (k : Nat) : IsB (l.take k) := fun x hx => h x (List.mem_of_mem_take hx)
theorem IsB.drop (h : IsB l) (k : Nat) : IsB (l.drop k) := fun x hx => h x (List.mem_of_mem_drop hx)
theorem IsB.append {l r : List Int} (h : IsB l) (h' : IsB r) : IsB (l ++ r) := by
 intro x hx
 rcases List.mem_append.1 hx with hx | hx
 ·exact h x hx
 ·exact h' x hx
theorem IsB.nil : IsB [] := fun x hx => by cases hx
theorem leN_lt : ∀ (n : Nat) (l : List Int), l.length ≤ n → IsB l → 0 ≤ leN l ∧ leN l < 256 ^ n
 | n, [], _, _ => ⟨by simp [leN], by have : (0 : Int) < 256 ^ n := Int.pow_pos (by decide); simpa [leN] using this⟩
 | 0, b :: r, hn, _ => by simp at hn
 | n + 1, b :: r, hn, h => by
  have h1 := h b (by simp)
  have h2 := leN_lt n r (by simpa using hn) (fun x hx => h x (by simp [hx]))
  simp only [leN, Int.pow_succ]
  generalize leN r = a at *
  generalize (256 : Int) ^ n = p at *
  omega
theorem gB_take (l : List Int) (m k : Nat) (hk : k < m) : gB (l.take m) k = gB l k := by simp [gB, hk]
theorem leB_length (v : Int) (n : Nat) : (leB v n).length = n := by
 induction n generalizing v with
 | zero => rfl
 | succ n ih => simp [leB, ih]
theorem leB_is (v : Int) (n : Nat) : IsB (leB v n) := by
 induction n generalizing v with
 | zero => exact IsB.nil
 | succ n ih =>
  intro x hx
  simp only [leB, List.mem_cons] at hx
  rcases hx with rfl | hx
  ·omega
  ·exact ih _ x hx
theorem div_pow_succ (v : Int) (n : Nat) : v / 256 ^ (n + 1) = v / 256 / 256 ^ n := by
 rw [Int.pow_succ, Int.mul_comm, Int.ediv_ediv_of_nonneg (by decide)]
theorem leB_snoc (v : Int) (n : Nat) : leB v (n + 1) = leB v n ++ [v / 256 ^ n % 256] := by
 induction n generalizing v with
 | zero => simp [leB]
 | succ n ih =>
  rw [leB, ih (v / 256), leB]
  simp only [List.cons_append, div_pow_succ]
theorem leN_leB (v : Int) (n : Nat) : leN (leB v n) = v % 256 ^ n := by
 induction n generalizing v with
 | zero => simp [leB, leN, Int.emod_one]
 | succ n ih =>
  simp only [leB, leN, ih]
  rw [Int.pow_succ, Int.mul_comm (256 ^ n) 256]
  have hp : (0 : Int) < 256 ^ n := Int.pow_pos (by decide)
  generalize (256 : Int) ^ n = p at *
  have h1 := Int.emod_add_mul_ediv v 256
  have h2 := Int.emod_add_mul_ediv (v / 256) p
  have h3 : v = 256 * p * (v / 256 / p) + (v % 256 + 256 * (v / 256 % p)) := by
   have : 256 * p * (v / 256 / p) = 256 * (p * (v / 256 / p)) := by rw [Int.mul_assoc]
   omega
  have h4 := Int.emod_nonneg (v / 256) (Int.ne_of_gt hp)
  have h5 := Int.emod_lt_of_pos (v / 256) hp
  conv => rhs; rw [h3]
  rw [Int.add_comm (256 * p * (v / 256 / p)), Int.add_mul_emod_self_left]
  exact (Int.emod_eq_of_lt (by omega) (by omega)).symm
theorem leN_append (l r : List Int) : leN (l ++ r) = leN l + 256 ^ l.length * leN r := by
 induction l with
 | nil => simp [leN]
 | cons b l ih =>
  simp only [List.cons_append, leN, ih, List.length_cons, Int.pow_succ]
  rw [Int.mul_add, Int.add_assoc, ← Int.mul_assoc, Int.mul_comm 256 (256 ^ l.length)]
theorem ret_int {k : IntKind} {a b : Int} (h : a = b) : Ending.returned (.int k a) = .returned (.int k b) := by rw [h]
theorem int_eq {k : IntKind} {a b : Int} (h : a = b) : Value.int k a = .int k b := by rw [h]
def RdB (w : World) (v : Value) (l : List Int) : Prop :=
 (v = .slice none 0 0 ∧ l = []) ∨ (∃ a cap, v = .slice (some a) 0 cap ∧ l = [] ∧ cap ≤ maxLen) ∨
 ∃ b off cap, v = .slice (some ⟨b, off, none⟩) l.length cap ∧ l.length ≤ cap ∧ cap ≤ maxLen ∧ ∀ i, i < l.length → w.cell? ⟨b, off + i, none⟩ = some (.int .u8 (gB l i))
def OwB (E B : Nat) (w : World) (v : Value) (l : List Int) : Prop := w.ownsRow B E 1 v l.length (l.map (Value.int .u8))
theorem OwB.nil (E B : Nat) (w : World) : OwB E B w (.slice none 0 0) [] := World.ownsRow_nil w B E 1
variable {w : World} {v : Value}
theorem OwB.mono {E B B' : Nat} (h : OwB E B w v l) (hB : B' ≤ B) : OwB E B' w v l := by
 obtain ⟨h1, h2⟩ := h
 refine ⟨h1, h2.imp id ?_⟩
 rintro ⟨g, cap, cur, e1, e2, e3⟩
 exact ⟨g, cap, cur, e1, by omega, e3⟩
variable {E B : Nat}
theorem OwB.rd (h : OwB E B w v l) : RdB w v l := by
 have hc := fun g => World.ownsRow.cells (g := g) h
 obtain ⟨h1, h2⟩ := h
 rcases h2 with ⟨rfl, h2⟩ | ⟨g, cap, cur, rfl, hb, hg, hn, hcap, hsz, ht⟩
 ·exact .inl ⟨rfl, List.length_eq_zero_iff.1 h2⟩
 ·refine .inr (.inr ⟨g, 0, cap, rfl, hn, hcap, fun i hi => ?_⟩)
  have := hc g rfl i (.int .u8 (gB l i)) (by simp [gB, hi])
  have e : (⟨g, 0, none⟩ : Addr).add i = ⟨g, 0 + i, none⟩ := by unfold Addr.add; split <;> simp_all
  rwa [e] at this
theorem OwB.below {w w' : World} (h : OwB E B w v l) (hb : Below w.heap.size w w') : OwB E B w' v l := by
 obtain ⟨h1, h2⟩ := h
 refine ⟨h1, h2.imp id ?_⟩
 rintro ⟨g, cap, cur, e1, e2, e3, e4⟩
 exact ⟨g, cap, cur, e1, e2, by rw [hb.block g (by have := Array.getElem?_eq_some_iff.1 e3; exact this.1)]; exact e3, e4⟩
theorem RdB.below {w w' : World} (h : RdB w v l) (hb : Below w.heap.size w w') : RdB w' v l := by
 rcases h with h | h | ⟨b, off, cap, e1, e2, e3, e4⟩
 ·exact .inl h
 ·exact .inr (.inl h)
 ·exact .inr <| .inr ⟨b, off, cap, e1, e2, e3, fun i hi => by rw [hb.cell (p := ⟨b, off + i, none⟩) (World.block_lt_of_cell? w _ (e4 i hi))]; exact e4 i hi⟩
theorem ones_u8 (l : List Int) : ∀ u ∈ l.map (Value.int .u8), u.oneCell' = true := by
 intro u hu
 obtain ⟨x, _, rfl⟩ := List.mem_map.1 hu
 rfl
theorem quietR {P : Program} {f : FuncId} {args : Array Value} {n : Nat} 
  (h : Calls P f args (w.drewN n) fun e w' => e = .returned v ∧ w.drewN n = w') : Calls P f args (w.drewN n) fun e w'' => e = .returned v ∧ ∃ m, w'' = w.drewN m :=
 h.mono fun _ _ ⟨he, hm⟩ => ⟨he, n, hm.symm⟩
theorem RdB.drewN (n : Nat) (h : RdB w v l) : RdB (w.drewN n) v l := h
theorem bel_drewN {B : Nat} {w w' : World} (n : Nat) (h : Below B w w') : Below B w (w'.drewN n) := ⟨h.os, h.tape, h.output, h.size, h.block⟩
def OwI (E B : Nat) (w : World) (v : Value) (l : List Int) : Prop := w.ownsRow B E 1 v l.length (l.map (Value.int .i64))
theorem OwI.nil (E B : Nat) (w : World) : OwI E B w (.slice none 0 0) [] := World.ownsRow_nil w B E 1
def RdI (w : World) (v : Value) (l : List Int) : Prop :=
 (v = .slice none 0 0 ∧ l = []) ∨ ∃ b off cap, v = .slice (some ⟨b, off, none⟩) l.length cap ∧ l.length ≤ cap ∧ cap ≤ maxLen ∧ ∀ i, i < l.length → w.cell? ⟨b, off + i, none⟩ = some (.int .i64 (gB l i))
theorem OwI.rd (h : OwI E B w v l) : RdI w v l := by
 have hc := fun g => World.ownsRow.cells (g := g) h
 obtain ⟨h1, h2⟩ := h
 rcases h2 with ⟨rfl, h2⟩ | ⟨g, cap, cur, rfl, hb, hg, hn, hcap, hsz, ht⟩
 ·exact .inl ⟨rfl, List.length_eq_zero_iff.1 h2⟩
 ·refine .inr ⟨g, 0, cap, rfl, hn, hcap, fun i hi => ?_⟩
  have := hc g rfl i (.int .i64 (gB l i)) (by simp [gB, hi])
  have e : (⟨g, 0, none⟩ : Addr).add i = ⟨g, 0 + i, none⟩ := by unfold Addr.add; split <;> simp_all
  rwa [e] at this
theorem OwI.push {w wr w1 : World} {v v' : Value} {o : Obj} {n : Nat} (x : Int) (hn : l.length = n) (hown : wr.ownsRow B E 1 v n (l.map (Value.int .i64)))
  (hown' : w1.ownsRow B E 1 v' (n + 1) (l.map (Value.int .i64) ++ [.int .i64 x])) (hg : (wr.alloc o).grownBy w1 v.ownBlock) (hb : Below B w wr) (hB : B ≤ wr.heap.size) :
  OwI E B w1 v' (l ++ [x]) ∧ Below B w w1 := by
 subst hn
 refine ⟨?_, (hb.alloc hB o).grown hg (by simp; omega) fun i hi => (hown.lt i hi).1⟩
 unfold OwI
 simpa using hown'
theorem OwI.slice (h : OwI E B w v l) (hl : 0 < l.length) :
  ∃ g cap, v = .slice (some ⟨g, 0, none⟩) l.length cap ∧ B ≤ g ∧ g < w.heap.size ∧ l.length ≤ cap ∧ cap ≤ maxLen ∧ ∀ i, i < l.length → w.cell? ⟨g, i, none⟩ = some (.int .i64 (gB l i)) := by
 have hr := h.rd
 have hlt := World.ownsRow.lt h
 obtain ⟨h1, h2⟩ := h
 rcases h2 with ⟨rfl, h2⟩ | ⟨g, cap, cur, rfl, hb, hg, hn, hcap, hsz, ht⟩
 ·omega
 ·refine ⟨g, cap, rfl, hb, (hlt g rfl).2, hn, hcap, fun i hi => ?_⟩
  rcases hr with ⟨h, _⟩ | ⟨b, off, cap', e, _, _, hc⟩
  ·cases h
  ·cases e
   simpa using hc i hi
def recS (l t : Int) : Int := t % 4294967296 * 4294967296 + l % 4294967296
def loS (v : Int) : Int := wrap32 (v % 4294967296)
def hiS (v : Int) : Int := wrap32 (v / 4294967296)
end Go.Proofs.YtggjhleomocojaaGreat
namespace Go.Proofs.YtggjhleomocojaaGreat
set_option maxRecDepth 100000
open Go.ChangeShapes Go.WideShapes Go.ChangeAt Go.RowKit
theorem u8_bd {a : Int} (h : (Lit.int .u8 a).wf = true) : 0 ≤ a ∧ a < 256 := by
 have : 0 ≤ a ∧ a ≤ 255 := by simpa [Lit.wf, IntKind.min, IntKind.max, IntKind.signed, IntKind.bits] using h
 omega
theorem int_of {H : Type} {enc : TypeId × Value → H} {P : Program} {W : World} {sp : Nat → Bool} {held : Bool} {fuel : Nat} {t : TypeId} {k : IntKind} {c : Value} {y : DataW H × List MemPlace} (ht : P.underlying t = some (.int k))
  (h : DataW.trod enc P W 0 sp held fuel t [c] = some y) : ∃ n, c = .int k n ∧ (Lit.int k n).wf = true := by
 obtain ⟨n, hc, -, hw⟩ := DataW.trod_int ht h
 simp at hc
 exact ⟨n, hc, hw⟩
theorem cellsB : Tryz.prog.cellsOf 5 = 1 := by kernel_rfl
theorem open_bytes {H : Type} {enc : TypeId × Value → H} {W : World} {base : Nat} {v : Value} {d : DataW H} {p : List MemPlace}
    (hval : Value.okWide Tryz.prog W .any base 32 v) (h : DataW.Trod enc Tryz.prog W 0 (fun _ => true) true 32 v d p) :
    ∃ l, RdB W v l ∧ IsB l := by
  obtain ⟨a0, len, cap, rfl⟩ := okWide_slice Tryz.underlying32 hval
  obtain ⟨fuel, hf⟩ := h
  rcases open_ints Tryz.underlying32 Tryz.underlying5 cellsB hf with ⟨hcs, hx⟩ | ⟨a, len', cap', zs, hcs, _, hl, hm, hz, hx, hcell, hwz⟩
  · simp [Value.cells] at hcs
    obtain ⟨rfl, rfl, rfl⟩ := hcs
    exact ⟨[], .inl ⟨rfl, rfl⟩, IsB.nil⟩
  · simp [Value.cells] at hcs
    obtain ⟨rfl, rfl, rfl⟩ := hcs
    simp only [if_true] at hz
    by_cases h0 : len = 0
    · subst h0
      exact ⟨[], .inr (.inl ⟨a, cap, rfl, rfl, hm⟩), IsB.nil⟩
    · obtain ⟨b, off, rfl, hc⟩ := ints_at hcell (by omega)
      refine ⟨zs.take len, .inr (.inr ⟨b, off, cap, ?_, ?_, hm, fun i hi => ?_⟩), fun x hx => u8_bd (hwz x (List.mem_of_mem_take hx))⟩
      · simp [hz, hl]
      · simp; omega
      · simp at hi
        rw [hc i (by omega), gB_take _ _ _ (by omega)]
        rfl
end Go.Proofs.YtggjhleomocojaaGreat
namespace Go.Proofs.YtggjhleomocojaaGreat
set_option maxRecDepth 100000
open Go.RowKit
set_option linter.unusedVariables false
theorem u8info : (Tryz.prog.info? 5).map (fun i => (i.zero, i.size, i.bytes)) = some (some (.int .u8 0), 1, 1) := by kernel_rfl
theorem conv_rd {w : World} {v : Value} {l : List Int} (src dst : TypeId) (hs : Tryz.prog.underlying src = some (.slice 5)) (hd : Tryz.prog.underlying dst = some .string) (h : RdB w v l) :
  (convert src dst v).run Tryz.prog w = .ok (.string (strOfNums l)) w := by
 rcases h with ⟨rfl, rfl⟩ | ⟨a, cap, rfl, rfl, hm⟩ | ⟨b, off, cap, rfl, hc, hm, hcell⟩
 ·exact run_convert_bytes_nil w src _ hs Tryz.underlying5 0 0 dst hd
 ·rw [run_convert_bytes_string w src dst _ _ 0 cap hs Tryz.underlying5 hd]
  have hl : (loadCells a 0).run Tryz.prog w = .ok #[] w := by
   have := run_loadCells_list (P := Tryz.prog) w a [] (fun j v hj => by simp at hj)
   simpa using this
  simp [Conv.bytesToString, hl, Result.andThen]
  rfl
 ·exact run_convert_bytes_arg w src _ hs Tryz.underlying5 b off l.length cap l rfl (fun i hi => hcell i hi) dst hd
end Go.Proofs.YtggjhleomocojaaGreat
