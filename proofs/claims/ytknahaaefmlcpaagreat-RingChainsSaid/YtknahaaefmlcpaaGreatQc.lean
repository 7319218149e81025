/- The reference's tape: Load, Store, Cas; what a machine makes of answers. Conditions: as each says. Contract of the reference's Put. Conditions: as it says. -/
import Derived.Test.YtknahaaefmlcpaaGreatTc
import Derived.Test.YtknahaaefmlcpaaGreatGa
import Derived.Test.YtknahaaefmlcpaaGreatPi
import Derived.Test.YtknahaaefmlcpaaGreatQb
section
namespace Go.Proofs.YtknahaaefmlcpaaGreat
set_option maxRecDepth 100000
open Go.RowKit
set_option linter.unusedVariables false
set_option linter.unusedSimpArgs false
def AnsV.an (x : AnsV) : AN := ⟨x.v, x.d, x.b⟩
def Mac.eat (M : Mac) : M.σ → List AN → M.σ × List AN
 | s, [] => (s, [])
 | s, x :: r => if M.live s = true then Mac.eat M (M.step s x) r else (s, x :: r)
def ans (T : List AnsV) (k : Nat) : List AN := (T.drop k).map AnsV.an
theorem ans_cons {T : List AnsV} {k : Nat} (hk : k < T.length) : ans T k = (gA T k).an :: ans T (k + 1) := by
 unfold ans
 rw [List.drop_eq_getElem_cons hk, List.map_cons]
 congr 1
 simp [gA, hk]
theorem ans_nil {T : List AnsV} {k : Nat} (hk : T.length ≤ k) : ans T k = [] := by
 unfold ans
 rw [List.drop_eq_nil_of_le hk]
 rfl
theorem ans_len (T : List AnsV) (k : Nat) : (ans T k).length = T.length - k := by simp [ans]
theorem eat_told {M : Mac} {s : M.σ} {T : List AnsV} {k : Nat} (hl : M.live s = true) (hk : k < T.length) : M.eat s (ans T k) = M.eat (M.step s (gA T k).an) (ans T (k + 1)) := by
 rw [ans_cons hk]
 conv => lhs; unfold Mac.eat
 rw [if_pos hl]
theorem eat_end {M : Mac} {s : M.σ} {T : List AnsV} {k : Nat} (hk : T.length ≤ k) : M.eat s (ans T k) = (s, []) := by
 rw [ans_nil hk]
 rfl
theorem eat_done {M : Mac} {s : M.σ} (hl : M.live s = false) (L : List AN) : M.eat s L = (s, L) := by
 cases L with
 | nil => rfl
 | cons x r =>
  unfold Mac.eat
  rw [if_neg (by rw [hl]; nofun)]
def TpAt (M : Mac) (w : World) (tb : Nat) (tv : Value) (T : List AnsV) (E : M.σ × List AN) : Prop :=
 (M.live E.1 = true ∧ E.2 = [] ∧ ∃ s0 sl sc, Tp w tb tv T.length ⟨(M.want E.1).k, (M.want E.1).a, (M.want E.1).n, (M.want E.1).v, (M.want E.1).x, .slice s0 sl sc⟩ true ∧ RdB w (.slice s0 sl sc) (M.want E.1).b) ∨
 (M.live E.1 = false ∧ Tp w tb tv (T.length - E.2.length) accZ false)
set_option maxHeartbeats 1000000 in
theorem tLoad_any (tb k : Nat) (tv : Value) (T : List AnsV) (w : World) (h : Tp w tb tv k accZ false) (hT : TOk w tb tv T) (hk : k ≤ T.length) (a n : Int) :
  Calls Tryz.prog 128 #[.pointer (some ⟨tb, 0, none⟩), .int .i64 a, .int .i64 n] w fun e w' => Keep (· = tb) w w' ∧ ((k < T.length ∧ e = .returned (.tuple #[.int .u64 (gA T k).v, .bool true]) ∧ Tp w' tb tv (k + 1) accZ false) ∨ (k = T.length ∧ e = .returned (.tuple #[.int .u64 0, .bool false]) ∧ Tp w' tb tv T.length ⟨1, a, n, 0, 0, .slice none 0 0⟩ true)) := by
 have hlt := h.lt
 have H := Lib.hid h
 have HT := Lib.hid hT
 by_cases hkt : k < T.length
 ·obtain ⟨sa, sn, scc, hsv⟩ := hT.sl k hkt
  clear h hT
  go_enter Tryz.func128, Tryz.ntmps128
  go_wp2_with fail
  refine (tDo_told tb k tv T accZ _ H.out HT.out.rd hkt HT.out.len (HT.out.apart (by omega)) (HT.out.sl k hkt) 1 a n 0 0 none 0 0).mono ?_
  rintro e w1 ⟨rfl, t1, k1⟩
  unfold AnsV.V
  rw [hsv]
  have T1 := Lib.hid t1
  have K1 := Lib.hid k1
  have z1 := t1.lt
  clear t1 k1
  go_wp2
  go_ret2
  refine ⟨K1.out.alloc _, .inl ⟨hkt, rfl, Blk.alloc T1.out _⟩⟩
 ·obtain rfl : k = T.length := by omega
  clear h hT
  go_enter Tryz.func128, Tryz.ntmps128
  go_wp2_with fail
  refine (tDo_end tb tv T accZ _ H.out HT.out.rd 1 a n 0 0 none 0 0).mono ?_
  rintro e w1 ⟨rfl, t1, k1⟩
  unfold ansZ AnsV.V
  dsimp only
  have T1 := Lib.hid t1
  have K1 := Lib.hid k1
  have z1 := t1.lt
  clear t1 k1
  go_wp2
  go_ret2
  refine ⟨K1.out.alloc _, .inr ⟨by first | rfl | trivial, rfl, Blk.alloc T1.out _⟩⟩
set_option maxHeartbeats 1000000 in
theorem tStore_any (tb k : Nat) (tv : Value) (T : List AnsV) (w : World) (h : Tp w tb tv k accZ false) (hT : TOk w tb tv T) (hk : k ≤ T.length) (a n v : Int) :
  Calls Tryz.prog 130 #[.pointer (some ⟨tb, 0, none⟩), .int .i64 a, .int .i64 n, .int .u64 v] w fun e w' => Keep (· = tb) w w' ∧ ((k < T.length ∧ e = .returned (.bool true) ∧ Tp w' tb tv (k + 1) accZ false) ∨ (k = T.length ∧ e = .returned (.bool false) ∧ Tp w' tb tv T.length ⟨2, a, n, v, 0, .slice none 0 0⟩ true)) := by
 have hlt := h.lt
 have H := Lib.hid h
 have HT := Lib.hid hT
 by_cases hkt : k < T.length
 ·obtain ⟨sa, sn, scc, hsv⟩ := hT.sl k hkt
  clear h hT
  go_enter Tryz.func130, Tryz.ntmps130
  go_wp2_with fail
  refine (tDo_told tb k tv T accZ _ H.out HT.out.rd hkt HT.out.len (HT.out.apart (by omega)) (HT.out.sl k hkt) 2 a n v 0 none 0 0).mono ?_
  rintro e w1 ⟨rfl, t1, k1⟩
  unfold AnsV.V
  rw [hsv]
  have T1 := Lib.hid t1
  have K1 := Lib.hid k1
  have z1 := t1.lt
  clear t1 k1
  go_wp2
  go_ret
  refine ⟨K1.out.alloc _, .inl ⟨hkt, rfl, Blk.alloc T1.out _⟩⟩
 ·obtain rfl : k = T.length := by omega
  clear h hT
  go_enter Tryz.func130, Tryz.ntmps130
  go_wp2_with fail
  refine (tDo_end tb tv T accZ _ H.out HT.out.rd 2 a n v 0 none 0 0).mono ?_
  rintro e w1 ⟨rfl, t1, k1⟩
  unfold ansZ AnsV.V
  dsimp only
  have T1 := Lib.hid t1
  have K1 := Lib.hid k1
  have z1 := t1.lt
  clear t1 k1
  go_wp2
  go_ret
  refine ⟨K1.out.alloc _, .inr ⟨by first | rfl | trivial, rfl, Blk.alloc T1.out _⟩⟩
set_option maxHeartbeats 1000000 in
theorem tCas_any (tb k : Nat) (tv : Value) (T : List AnsV) (w : World) (h : Tp w tb tv k accZ false) (hT : TOk w tb tv T) (hk : k ≤ T.length) (a n v x : Int) :
  Calls Tryz.prog 132 #[.pointer (some ⟨tb, 0, none⟩), .int .i64 a, .int .i64 n, .int .u64 v, .int .u64 x] w fun e w' => Keep (· = tb) w w' ∧ ((k < T.length ∧ e = .returned (.tuple #[.bool (gA T k).d, .bool true]) ∧ Tp w' tb tv (k + 1) accZ false) ∨ (k = T.length ∧ e = .returned (.tuple #[.bool false, .bool false]) ∧ Tp w' tb tv T.length ⟨4, a, n, v, x, .slice none 0 0⟩ true)) := by
 have hlt := h.lt
 have H := Lib.hid h
 have HT := Lib.hid hT
 by_cases hkt : k < T.length
 ·obtain ⟨sa, sn, scc, hsv⟩ := hT.sl k hkt
  clear h hT
  go_enter Tryz.func132, Tryz.ntmps132
  go_wp2_with fail
  refine (tDo_told tb k tv T accZ _ H.out HT.out.rd hkt HT.out.len (HT.out.apart (by omega)) (HT.out.sl k hkt) 4 a n v x none 0 0).mono ?_
  rintro e w1 ⟨rfl, t1, k1⟩
  unfold AnsV.V
  rw [hsv]
  have T1 := Lib.hid t1
  have K1 := Lib.hid k1
  have z1 := t1.lt
  clear t1 k1
  go_wp2
  go_ret2
  refine ⟨K1.out.alloc _, .inl ⟨hkt, rfl, Blk.alloc T1.out _⟩⟩
 ·obtain rfl : k = T.length := by omega
  clear h hT
  go_enter Tryz.func132, Tryz.ntmps132
  go_wp2_with fail
  refine (tDo_end tb tv T accZ _ H.out HT.out.rd 4 a n v x none 0 0).mono ?_
  rintro e w1 ⟨rfl, t1, k1⟩
  unfold ansZ AnsV.V
  dsimp only
  have T1 := Lib.hid t1
  have K1 := Lib.hid k1
  have z1 := t1.lt
  clear t1 k1
  go_wp2
  go_ret2
  refine ⟨K1.out.alloc _, .inr ⟨by first | rfl | trivial, rfl, Blk.alloc T1.out _⟩⟩
def tpK (w : World) (tb : Nat) : Nat := match w.cell? ⟨tb, 1, none⟩ with
 | some (.int _ k) => k.toNat
 | _ => 0
theorem Tp.tpk {w : World} {tb k : Nat} {tv : Value} {c : Acc} {e : Bool} (h : Tp w tb tv k c e) : tpK w tb = k := by
 unfold tpK
 rw [h.cells.2.1]
 simp
def boN : Value → Nat
 | .bool true => 1
 | _ => 0
structure PutM.base (m : PutM) (C : PutC) (P : Int) (cl : Bool) : Prop where
 c : m.c = C
 pos : m.pos = P
 cl : m.cl = cl
 e : m.e = 10
def PEnd (w : World) (tb : Nat) (tv : Value) (T : List AnsV) (m : PutM) : Prop := m.live = true ∧ ∃ s0 sl sc, Tp w tb tv T.length ⟨m.want.k, m.want.a, m.want.n, m.want.v, m.want.x, .slice s0 sl sc⟩ true ∧ RdB w (.slice s0 sl sc) m.want.b
theorem PEnd.to {w : World} {tb : Nat} {tv : Value} {T : List AnsV} {m : PutM} (h : PEnd w tb tv T m) : TpAt putMac w tb tv T (m, []) :=
 .inl ⟨h.1, rfl, h.2⟩
def PutM.eat (m : PutM) (L : List AN) : PutM × List AN := Mac.eat putMac m L
theorem PutM.eat_told {m : PutM} {T : List AnsV} {k : Nat} (hl : m.live = true) (hk : k < T.length) : m.eat (ans T k) = (m.step (gA T k).an).eat (ans T (k + 1)) := Go.Proofs.YtknahaaefmlcpaaGreat.eat_told (M := putMac) hl hk
theorem PutM.eat_end {m : PutM} {T : List AnsV} {k : Nat} (hk : T.length ≤ k) : m.eat (ans T k) = (m, []) := Go.Proofs.YtknahaaefmlcpaaGreat.eat_end (M := putMac) hk
theorem PutM.eat_done {m : PutM} (hl : m.live = false) (L : List AN) : m.eat L = (m, L) := Go.Proofs.YtknahaaefmlcpaaGreat.eat_done (M := putMac) hl L
def RGo (C : PutC) (P : Int) (cl : Bool) (E : PutM × List AN) (w : World) (tb : Nat) (tv : Value) (T : List AnsV) (k : Nat) (m : PutM) (ok : Value) : Prop :=
 (ok = .bool true ∧ Tp w tb tv k accZ false ∧ m.eat (ans T k) = E) ∨ (ok = .bool false ∧ k = T.length ∧ ∃ m' : PutM, m'.base C P cl ∧ E = (m', []) ∧ PEnd w tb tv T m')
theorem RGo.below {C : PutC} {P : Int} {cl : Bool} {E : PutM × List AN} {w w' : World} {tb : Nat} {tv : Value} {T : List AnsV} {k : Nat} {m : PutM} {ok : Value} (h : RGo C P cl E w tb tv T k m ok) (b : Below w.heap.size w w') : RGo C P cl E w' tb tv T k m ok := by
 rcases h with ⟨h1, h2, h3⟩ | ⟨h1, h2, m', h3, h4, h5, s0, sl, sc, h6, h7⟩
 ·exact .inl ⟨h1, Blk.below h2 b h2.lt, h3⟩
 ·exact .inr ⟨h1, h2, m', h3, h4, h5, s0, sl, sc, Blk.below h6 b h6.lt, h7.below b⟩
theorem RGo.done {C : PutC} {P : Int} {cl : Bool} {E : PutM × List AN} {w : World} {tb : Nat} {tv : Value} {T : List AnsV} {m m0 : PutM} (hm : m0.eat (ans T T.length) = E) (hb : m0.base C P cl) (hl : m0.live = true) (hw : m0.want.b = []) (ht : Tp w tb tv T.length m0.want.acc true) : RGo C P cl E w tb tv T T.length m (.bool false) :=
 .inr ⟨rfl, rfl, m0, hb, by rw [← hm]; exact PutM.eat_end (Nat.le_refl _), hl, none, 0, 0, ht, by rw [hw]; exact .inl ⟨rfl, rfl⟩⟩
theorem eat_wb (C : PutC) (A HD P : Int) (T : List AnsV) : ∀ (n : Nat) (l : List Int) (p : Int) (k : Nat), l.length ≤ n → l.length ≠ 0 → k ≤ T.length →
  (k + (l.length + 7) / 8 ≤ T.length → (PutM.mk C (.wb A p l) HD P true 10).eat (ans T k) = (PutM.mk C (.fi A) HD P true 10).eat (ans T (k + (l.length + 7) / 8))) ∧
  (T.length < k + (l.length + 7) / 8 → (PutM.mk C (.wb A p l) HD P true 10).eat (ans T k) = (PutM.mk C (.wb A (p + 8 * ((T.length - k : Nat) : Int)) (l.drop (8 * (T.length - k)))) HD P true 10, [])) := by
 intro n
 induction n with
 | zero => intro l p k h1 h2; omega
 | succ n ih =>
  intro l p k h1 h2 hk
  by_cases hkt : k < T.length
  ·rw [PutM.eat_told rfl hkt]
   have hst : PutM.step (PutM.mk C (.wb A p l) HD P true 10) (gA T k).an = if l.length ≤ 8 then PutM.mk C (.fi A) HD P true 10 else PutM.mk C (.wb A (p + 8) (l.drop 8)) HD P true 10 := rfl
   rw [hst]
   by_cases h8 : l.length ≤ 8
   ·rw [if_pos h8]
    have e1 : (l.length + 7) / 8 = 1 := by omega
    rw [e1]
    exact ⟨fun _ => rfl, fun h => by omega⟩
   ·rw [if_neg h8]
    have hd : (l.drop 8).length = l.length - 8 := by simp
    obtain ⟨i1, i2⟩ := ih (l.drop 8) (p + 8) (k + 1) (by omega) (by omega) hkt
    rw [hd] at i1 i2
    refine ⟨fun h => ?_, fun h => ?_⟩
    ·rw [i1 (by omega)]
     rw [show k + 1 + (l.length - 8 + 7) / 8 = k + (l.length + 7) / 8 by omega]
    ·rw [i2 (by omega), List.drop_drop]
     rw [show p + 8 + 8 * ((T.length - (k + 1) : Nat) : Int) = p + 8 * ((T.length - k : Nat) : Int) by omega, show 8 + 8 * (T.length - (k + 1)) = 8 * (T.length - k) by omega]
  ·have e0 : T.length - k = 0 := by omega
   refine ⟨fun h => by omega, fun h => ?_⟩
   rw [PutM.eat_end (by omega), e0]
   simp
theorem s64_u64 (x : Int) : s64 (Go.Proofs.YtknahaaefmlcpaaGreat.u64 x) = s64 x := by unfold s64 Go.Proofs.YtknahaaefmlcpaaGreat.u64; omega
theorem s64_s64 (a b : Int) : s64 (s64 a + b) = s64 (a + b) := by unfold s64; omega
def PutSaid (w : World) (tb : Nat) (tv : Value) (T : List AnsV) (E : PutM × List AN) (e : Ending) (w' : World) : Prop :=
 Keep (· = tb) w w' ∧ e = .returned (.tuple #[.int .i64 E.1.pos, .bool E.1.cl, .int .i64 E.1.e]) ∧ TpAt putMac w' tb tv T E
set_option maxHeartbeats 4000000 in
theorem refPut_ok (tb k0 : Nat) (tv : Value) (T : List AnsV) (b s typ : Int) (s0 : Option Addr) (sl sc : Nat) (l : List Int) (w : World) (h : Tp w tb tv k0 accZ false) (hT : TOk w tb tv T) (hk : k0 ≤ T.length) (hu : ∀ i, i < T.length → inU (gA T i).v)
  (hr : RdB w (.slice s0 sl sc) l) (hb : l.length ≠ 0 → (Value.slice s0 sl sc).ownBlock ≠ some tb) (hok : (PutC.mk b s typ l).ok = true) (hb0 : -9223372036854775808 ≤ b) (hb1 : b ≤ 9223372036854775807) (hs0 : -9223372036854775808 ≤ s) (hs1 : s ≤ 9223372036854775807) (htyp : typ ≤ 2147483647) :
  Calls Tryz.prog 72 #[.pointer (some ⟨tb, 0, none⟩), .agg #[.int .i64 b, .int .i64 s], .int .i32 typ, .slice s0 sl sc] w (PutSaid w tb tv T ((PutC.init ⟨b, s, typ, l⟩).eat (ans T k0))) := by
 obtain ⟨C, hC⟩ : ∃ C, C = PutC.mk b s typ l := ⟨_, rfl⟩
 have hinit : PutC.init C = ⟨C, .hd0, 0, 0, false, 10⟩ := by
  obtain ⟨o1, o2, o3⟩ := PutC.ok_bd hok
  rw [hC]
  unfold PutC.init PutC.e0
  rw [hok]
  simp only [] at o1 o2 o3
  simp [o1, o2, o3]
 have HI := Lib.hid hinit
 obtain ⟨q1, q2, q3, q4, q5, q6, q7⟩ := PutC.bd hok
 obtain ⟨o1, o2, o3⟩ := PutC.ok_bd hok
 dsimp only at q1 q2 q3 q4 q5 q6 q7 o1 o2 o3
 have hsl := rd_len hr
 have hnd : szV (sl : Int) 8 8 = C.nd := by
  rw [hC]
  unfold PutC.nd
  rw [hok, if_pos rfl, hsl]
  exact alV8 (by omega) (by omega)
 obtain ⟨E, hE⟩ : ∃ E, E = (PutC.init ⟨b, s, typ, l⟩).eat (ans T k0) := ⟨_, rfl⟩
 rw [← hC] at hE q5 q6
 obtain ⟨ND, hND⟩ : ∃ N, N = C.nd := ⟨_, rfl⟩
 rw [← hND] at q5 q6 hnd
 have Hnd := Lib.hid hnd
 have HND := Lib.hid hND
 have HE := Lib.hid hE
 have HCb := Lib.hid (show C.b = b ∧ C.s = s ∧ C.typ = typ ∧ C.d = l from by rw [hC]; exact ⟨rfl, rfl, rfl, rfl⟩)
 have HR := Lib.hid hr
 have HT := Lib.hid hT
 have HU := Lib.hid hu
 have HB := Lib.hid hb
 have H := Lib.hid h
 have HO := Lib.hid hok
 have HSL := Lib.hid hsl
 have hlt := h.lt
 have RG := Lib.hid o1
 have hs8 : s.tdiv 8 = s / 8 := Int.tdiv_eq_ediv_of_nonneg (by omega)
 have W8' : IntKind.i64.wrap (s.tdiv 8) = s.tdiv 8 := IntWalk.i64_in _ ⟨by omega, by omega⟩
 have hlen' : ¬ s.tdiv 8 < (sl : Int) := by omega
 have Wbs : IntKind.i64.wrap (b + s) = b + s := IntWalk.i64_in _ ⟨by omega, by omega⟩
 have Wb8 : IntKind.i64.wrap (b + s + 8) = b + s + 8 := IntWalk.i64_in _ ⟨by omega, by omega⟩
 have Wb16 : IntKind.i64.wrap (b + s + 16) = b + s + 16 := IntWalk.i64_in _ ⟨by omega, by omega⟩
 rw [← hC, ← hE]
 clear hinit hnd hND hE hC hr hT hu hb h hok hsl o1
 go_enter Tryz.func72, Tryz.ntmps72
 go_wp2_with fail
 refine (rRight_any b s _ hb0 hb1 hs0 hs1).mono ?_
 rintro e w1 ⟨rfl, b1⟩
 rw [RG.out]
 have z1 := b1.size
 simp at z1
 have X1 := Lib.hid (Blk.below (Blk.made w #[.int .i64 b, .int .i64 s] 26) b1 (by simp))
 have B1 := Lib.hid (((Below.refl w.heap.size w).alloc (Nat.le_refl _) (.cells #[.int .i64 b, .int .i64 s] 26)).trans (b1.mono (by simp)))
 have H1 := Lib.hid (show Tp w1 tb tv k0 accZ false from Blk.below H.out B1.out hlt)
 have HT1 := Lib.hid (HT.out.below B1.out)
 have x0 := X1.out.cell 0
 have x1 := X1.out.cell 1
 simp only [List.getElem?_toArray, List.getElem?_cons_zero, List.getElem?_cons_succ] at x0 x1
 have hx : w.heap.size < w1.heap.size := by omega
 clear b1
 go_wp2_with fail
 refine (refRecordSize_any (sl : Int) _).mono ?_
 rintro e w2 ⟨rfl, rfl⟩
 rw [Hnd.out]
 go_upto_region 7 with fail
 go_cut [14, 15] from 47 to 53 (fun hd ok wx => ∃ HD k, hd = .int .u64 HD ∧ inU HD ∧ k ≤ T.length ∧ Keep (· = tb) w1 wx ∧ RGo C 0 false E wx tb tv T k ⟨C, .tl, HD, 0, false, 10⟩ ok)
 case first =>
  as_aux_lemma =>
  go_wp2_with fail
  refine (tLoad_any tb k0 tv T _ H1.out HT1.out hk (b + s + 8) 8).mono ?_
  rintro e w2 ⟨k2, hcase⟩
  rcases hcase with ⟨hkt, rfl, t2⟩ | ⟨hkt, rfl, t2⟩
  ·go_wp2_with fail
   go_meet
   refine ⟨_, k0 + 1, rfl, HU.out k0 hkt, hkt, k2, .inl ⟨rfl, t2, ?_⟩⟩
   rw [HE.out, HI.out, PutM.eat_told rfl hkt]
   rfl
  ·go_wp2_with fail
   go_meet
   refine ⟨0, T.length, rfl, ⟨Int.le_refl 0, by decide⟩, Nat.le_refl _, k2, RGo.done (m0 := ⟨C, .hd0, 0, 0, false, 10⟩) ?_ ⟨rfl, rfl, rfl, rfl⟩ rfl rfl ?_⟩
   ·rw [HE.out, HI.out, hkt]
   ·have he : (PutM.mk C .hd0 0 0 false 10).want.acc = ⟨1, b + s + 8, 8, 0, 0, .slice none 0 0⟩ := by
     unfold PutM.want PutM.end AA.acc
     rw [HCb.out.1, HCb.out.2.1]
    rw [he]
    exact t2
 case rest =>
  as_aux_lemma =>
  obtain ⟨HD, k, rfl, hHD, hk1, k2, hrt⟩ := hcut
  have KC := Lib.hid k2
  have RT := Lib.hid hrt
  have XC := Lib.hid (X1.out.keep k2 (by show ¬ w.heap.size = tb; omega))
  have TC := Lib.hid (HT1.out.keep k2)
  have zc := k2.size
  clear k2 hrt x0 x1
  go_wp2_with fail
  go_loopw [14, 15, 16, 17, 18, 19] (fun hd ok tl gp pd dn wr => ∃ k HD TL GP PD, k ≤ T.length ∧ hd = .int .u64 HD ∧ inU HD ∧ tl = .int .u64 TL ∧ gp = .int .i64 GP ∧ pd = .int .i64 PD ∧ Keep (· = tb) w1 wr ∧
   ((dn = .bool false ∧ RGo C 0 false E wr tb tv T k ⟨C, .tl, HD, 0, false, 10⟩ ok) ∨ (dn = .bool true ∧ ok = .bool true ∧ inU TL ∧ (PD = 0 ∨ PD = s - TL % s) ∧ Tp wr tb tv k accZ false ∧ (PutM.claimed ⟨C, .cs TL PD, HD, 0, false, 10⟩ TL PD).eat (ans T k) = E))) (fun hd ok tl gp pd dn wr => T.length - tpK wr tb + boN ok + (1 - boN dn))
  case atStart => exact ⟨k, HD, 0, 0, 0, hk1, rfl, hHD, rfl, rfl, rfl, KC.out, .inl ⟨rfl, RT.out⟩⟩
  case round =>
   clear HD k hHD hk1 KC RT XC TC zc
   obtain ⟨k, HD, TL0, GP, PD, hk1, rfl, hHD, rfl, rfl, rfl, hkp, hrel⟩ := hrel
   have KC := Lib.hid hkp
   have XC := Lib.hid (X1.out.keep hkp (by show ¬ w.heap.size = tb; omega))
   have TC := Lib.hid (HT1.out.keep hkp)
   have zc := hkp.size
   have x0 := XC.out.cell 0
   have x1 := XC.out.cell 1
   have lx := XC.out.lt
   simp only [List.getElem?_cons_zero, List.getElem?_cons_succ] at x0 x1
   clear hkp
   rcases hrel with ⟨rfl, hrt⟩ | ⟨rfl, rfl, hTL, hPD, htp, hE⟩
   ·rcases hrt with ⟨rfl, htp, hE⟩ | ⟨rfl, hkT, m', hb', hE, hend⟩
    ·have HTP := Lib.hid htp
     have HEE := Lib.hid hE
     have HTK := Lib.hid htp.tpk
     clear htp hE
     go_upto_region 11 with fail
     go_cut [15, 16] from 54 to 156 (fun ok tl wx => ∃ TL k', tl = .int .u64 TL ∧ inU TL ∧ k' ≤ T.length ∧ (k < k' ∨ ok = .bool false) ∧ k ≤ k' ∧ Keep (· = tb) wr wx ∧ RGo C 0 false E wx tb tv T k' (PutM.tailed ⟨C, .tl, HD, 0, false, 10⟩ TL) ok)
     case first =>
      as_aux_lemma =>
      go_wp2_with fail
      refine (tLoad_any tb k tv T _ HTP.out TC.out hk1 (b + s) 8).mono ?_
      rintro e w2 ⟨k2, hcase⟩
      rcases hcase with ⟨hkt, rfl, t2⟩ | ⟨hkt, rfl, t2⟩
      ·go_wp2_with fail
       go_meet
       refine ⟨_, k + 1, rfl, HU.out k hkt, hkt, .inl (Nat.lt_succ_self _), Nat.le_succ _, k2, .inl ⟨rfl, t2, ?_⟩⟩
       have h9 := HEE.out
       rw [PutM.eat_told rfl hkt] at h9
       exact h9
      ·subst hkt
       go_wp2_with fail
       go_meet
       refine ⟨0, T.length, rfl, ⟨Int.le_refl 0, by decide⟩, Nat.le_refl _, .inr (by first | rfl | trivial), Nat.le_refl _, k2, RGo.done (m0 := ⟨C, .tl, HD, 0, false, 10⟩) HEE.out ⟨rfl, rfl, rfl, rfl⟩ rfl rfl ?_⟩
       have he : (PutM.mk C .tl HD 0 false 10).want.acc = ⟨1, b + s, 8, 0, 0, .slice none 0 0⟩ := by
        unfold PutM.want PutM.end AA.acc
        dsimp only
        simp only [HCb.out.1, HCb.out.2.1, ← HND.out]
       rw [he]
       exact t2
     case rest =>
      as_aux_lemma =>
      clear HTP HEE x0 x1
      obtain ⟨TL, k2, rfl, hTL, hk2, hkk, hkk2, kp2, hrt⟩ := hcut
      have RT := Lib.hid hrt
      have HKK := Lib.hid hkk
      have z2 := kp2.size
      have XC := Lib.hid (XC.out.keep kp2 (by show ¬ w.heap.size = tb; omega))
      have TC := Lib.hid (TC.out.keep kp2)
      have KC := Lib.hid (KC.out.trans kp2)
      have x0 := XC.out.cell 0
      have x1 := XC.out.cell 1
      have lx := XC.out.lt
      simp only [List.getElem?_cons_zero, List.getElem?_cons_succ] at x0 x1
      clear hrt kp2 hkk
      go_upto_region 12 with fail
      go_cut [73] from 54 to 156 (fun c wx => ∃ cb : Bool, c = .bool cb ∧ Below wc.heap.size wc wx ∧ (u15 = .bool false → cb = false) ∧ (u15 = .bool true → cb = !(PutM.fit ⟨C, .tl, HD, 0, false, 10⟩ TL)))
      case first =>
       as_aux_lemma =>
       rcases RT.out with ⟨rfl, htp, hE⟩ | ⟨rfl, hkT, m', hb', hE, hend⟩
       ·clear htp hE
        obtain ⟨RM, hRM⟩ : ∃ RM, RM = s64 (Go.Proofs.YtknahaaefmlcpaaGreat.u64 (s - Go.Proofs.YtknahaaefmlcpaaGreat.u64 (TL - HD))) := ⟨_, rfl⟩
        have hfit : PutM.fit ⟨C, .tl, HD, 0, false, 10⟩ TL = decide (ND ≤ RM) := by
         unfold PutM.fit
         dsimp only
         rw [← HND.out, HCb.out.2.1, hRM]
        have HFIT := Lib.hid hfit
        have HRM := Lib.hid hRM
        clear hfit hRM
        go_wp2_with fail
        refine (rRoom_any b s TL HD _ q1 q2).mono ?_
        rintro e w3 ⟨rfl, b3⟩
        rw [← HRM.out]
        by_cases hf : ND ≤ RM
        ·go_wp2_with fail
         go_meet
         exact ⟨false, by first | rfl | exact congrArg Value.bool (decide_eq_false (by omega)), b3, nofun, fun _ => by rw [HFIT.out, decide_eq_true (by omega)]; rfl⟩
        ·go_wp2_with fail
         go_meet
         exact ⟨true, by first | rfl | exact congrArg Value.bool (decide_eq_true (by omega)), b3, nofun, fun _ => by rw [HFIT.out, decide_eq_false (by omega)]; rfl⟩
       ·go_wp2_with fail
        go_meet
        exact ⟨false, rfl, Below.refl _ _, fun _ => rfl, nofun⟩
      case rest =>
       as_aux_lemma =>
       obtain ⟨cb, rfl, b3, hc1, hc2⟩ := hcut
       have C1 := Lib.hid hc1
       have C2 := Lib.hid hc2
       have z3 := b3.size
       have RT := Lib.hid (RT.out.below b3)
       have XC := Lib.hid (XC.out.below b3 lx)
       have TC := Lib.hid (TC.out.below b3)
       have KC := Lib.hid (KC.out.trans (Below.keeps b3))
       have x0 := XC.out.cell 0
       have x1 := XC.out.cell 1
       have lx := XC.out.lt
       simp only [List.getElem?_cons_zero, List.getElem?_cons_succ] at x0 x1
       clear b3 hc1 hc2
       go_upto_if 73 with fail
       go_cut [14, 15] from 54 to 156 (fun hd ok wx => ∃ HD' k', hd = .int .u64 HD' ∧ inU HD' ∧ k2 ≤ k' ∧ k' ≤ T.length ∧ (ok = .bool false ∨ u15 = .bool true) ∧ Keep (· = tb) wc wx ∧ RGo C 0 false E wx tb tv T k' (PutM.gapped ⟨C, .tl, HD', 0, false, 10⟩ TL) ok)
       case first =>
        as_aux_lemma =>
        rcases RT.out with ⟨rfl, htp, hE⟩ | ⟨rfl, hkT, m', hb', hE, hend⟩
        ·have hcb := C2.out rfl
         by_cases hf : PutM.fit ⟨C, .tl, HD, 0, false, 10⟩ TL = true
         ·rw [hf] at hcb
          subst hcb
          unfold PutM.tailed at hE
          rw [if_pos hf] at hE
          go_wp2_with fail
          go_meet
          exact ⟨HD, k2, rfl, hHD, Nat.le_refl _, hk2, .inr (by first | rfl | trivial), Keep.refl _ _, .inl ⟨rfl, htp, hE⟩⟩
         ·have hf' : PutM.fit ⟨C, .tl, HD, 0, false, 10⟩ TL = false := by simpa using hf
          rw [hf'] at hcb
          subst hcb
          unfold PutM.tailed at hE
          rw [if_neg hf] at hE
          have HTP := Lib.hid htp
          have HEE := Lib.hid hE
          clear hf hf' hE htp RT C1 C2
          go_wp2_with fail
          refine (tLoad_any tb k2 tv T _ HTP.out TC.out hk2 (b + s + 16) 8).mono ?_
          rintro e w4 ⟨k4, hcase⟩
          have z4 := k4.size
          have KK4 := Lib.hid k4
          have TC4 := Lib.hid (TC.out.keep k4)
          have XC := Lib.hid (XC.out.keep k4 (by show ¬ w.heap.size = tb; omega))
          have x0 := XC.out.cell 0
          have x1 := XC.out.cell 1
          have lx := XC.out.lt
          simp only [List.getElem?_cons_zero, List.getElem?_cons_succ] at x0 x1
          clear k4
          rcases hcase with ⟨hkt, rfl, t4⟩ | ⟨hkt, rfl, t4⟩
          ·have hE := HEE.out
           rw [PutM.eat_told rfl hkt] at hE
           have hv := HU.out k2 hkt
           obtain ⟨v, hv0⟩ : ∃ v, v = (gA T k2).v := ⟨_, rfl⟩
           rw [← hv0] at hv ⊢
           have hE' : (if PutM.fit ⟨C, .tl, v, 0, false, 10⟩ TL = true then (⟨C, .rs TL v, v, 0, false, 10⟩ : PutM) else ⟨C, .done, v, 0, false, 5⟩).eat (ans T (k2 + 1)) = E := by
            rw [hv0]
            exact hE
           have HE4 := Lib.hid hE'
           have HT4 := Lib.hid t4
           clear hE hE' t4 hv0 HTP HEE
           obtain ⟨RM, hRM⟩ : ∃ RM, RM = s64 (Go.Proofs.YtknahaaefmlcpaaGreat.u64 (s - Go.Proofs.YtknahaaefmlcpaaGreat.u64 (TL - v))) := ⟨_, rfl⟩
           have hfit : PutM.fit ⟨C, .tl, v, 0, false, 10⟩ TL = decide (ND ≤ RM) := by
            unfold PutM.fit
            dsimp only
            rw [← HND.out, HCb.out.2.1, hRM]
           have HFIT := Lib.hid hfit
           have HRM := Lib.hid hRM
           clear hfit hRM
           go_wp2_with fail
           refine (rRoom_any b s TL v _ q1 q2).mono ?_
           rintro e w3 ⟨rfl, b3⟩
           rw [← HRM.out]
           have z5 := b3.size
           have KK5 := Lib.hid (KK4.out.trans (Below.keeps b3))
           have HT5 := Lib.hid (show Tp w3 tb tv (k2 + 1) accZ false from Blk.below HT4.out b3 HT4.out.lt)
           have TC5 := Lib.hid (TC4.out.below b3)
           clear b3
           by_cases hf : ND ≤ RM
           ·have hE := HE4.out
            rw [HFIT.out, decide_eq_true hf, if_pos rfl] at hE
            have HE5 := Lib.hid hE
            clear hE HE4
            go_wp2_with fail
            refine (tStore_any tb (k2 + 1) tv T _ HT5.out TC5.out hkt (b + s + 8) 8 v).mono ?_
            rintro e w6 ⟨k6, hcase⟩
            rcases hcase with ⟨hkt6, rfl, t6⟩ | ⟨hkt6, rfl, t6⟩
            ·go_wp2_with fail
             go_meet
             refine ⟨v, k2 + 2, rfl, hv, by omega, hkt6, .inr (by first | rfl | trivial), KK5.out.trans k6, .inl ⟨rfl, t6, ?_⟩⟩
             have h9 := HE5.out
             rw [PutM.eat_told rfl hkt6] at h9
             exact h9
            ·go_wp2_with fail
             go_meet
             refine ⟨v, T.length, rfl, hv, by omega, Nat.le_refl _, .inl (by first | rfl | trivial), KK5.out.trans k6, RGo.done (m0 := ⟨C, .rs TL v, v, 0, false, 10⟩) (by rw [← hkt6]; exact HE5.out) ⟨rfl, rfl, rfl, rfl⟩ rfl rfl ?_⟩
             have he : (PutM.mk C (.rs TL v) v 0 false 10).want.acc = ⟨2, b + s + 8, 8, v, 0, .slice none 0 0⟩ := by
              unfold PutM.want PutM.end AA.acc
              dsimp only
              simp only [HCb.out.1, HCb.out.2.1, ← HND.out]
             rw [he]
             exact t6
           ·have hE := HE4.out
            rw [HFIT.out, decide_eq_false (by omega), if_neg (by nofun)] at hE
            have KK := KK5.out
            have TX := HT5.out
            go_wp2
            go_ret3
            refine ⟨(Below.keeps B1.out).trans (KC.out.trans KK), ?_, ?_⟩
            ·rw [← hE]
             rw [PutM.eat_done rfl]
             rfl
            ·rw [← hE, PutM.eat_done rfl]
             refine .inr ⟨rfl, ?_⟩
             rw [ans_len]
             rw [show T.length - (T.length - (k2 + 1)) = (k2 + 1) by omega]
             exact TX
          ·subst hkt
           go_wp2_with fail
           go_meet
           refine ⟨0, T.length, rfl, ⟨Int.le_refl 0, by decide⟩, Nat.le_refl _, Nat.le_refl _, .inl (by first | rfl | trivial), KK4.out, RGo.done (m0 := ⟨C, .rm TL, HD, 0, false, 10⟩) HEE.out ⟨rfl, rfl, rfl, rfl⟩ rfl rfl ?_⟩
           have he : (PutM.mk C (.rm TL) HD 0 false 10).want.acc = ⟨1, b + s + 16, 8, 0, 0, .slice none 0 0⟩ := by
            unfold PutM.want PutM.end AA.acc
            dsimp only
            simp only [HCb.out.1, HCb.out.2.1, ← HND.out]
           rw [he]
           exact t4
        ·have hcb := C1.out rfl
         subst hcb
         go_wp2_with fail
         go_meet
         exact ⟨HD, k2, rfl, hHD, Nat.le_refl _, hk2, .inl (by first | rfl | trivial), Keep.refl _ _, .inr ⟨rfl, hkT, m', hb', hE, hend⟩⟩
       case rest =>
        as_aux_lemma =>
        obtain ⟨HD', k', rfl, hHD', hk'0, hk', hoko, kp5, hrt⟩ := hcut
        have hKO := Lib.hid hoko
        clear RT C1 C2 x0 x1 hoko
        have RT := Lib.hid hrt
        have z5 := kp5.size
        have XC := Lib.hid (XC.out.keep kp5 (by show ¬ w.heap.size = tb; omega))
        have TC := Lib.hid (TC.out.keep kp5)
        have KC := Lib.hid (KC.out.trans kp5)
        have x0 := XC.out.cell 0
        have x1 := XC.out.cell 1
        have lx := XC.out.lt
        simp only [List.getElem?_cons_zero, List.getElem?_cons_succ] at x0 x1
        clear hrt kp5
        have m1 := Int.emod_nonneg TL (show s ≠ 0 by omega)
        have m2 := Int.emod_lt_of_pos TL (show 0 < s by omega)
        obtain ⟨G, hG⟩ : ∃ G, G = s - TL % s := ⟨_, rfl⟩
        have hG0 : 1 ≤ G ∧ G ≤ s := by omega
        have HG := Lib.hid hG
        have WG : IntKind.i64.wrap (s - TL % s) = G := by rw [hG]; exact IntWalk.i64_in _ ⟨by omega, by omega⟩
        clear hG
        go_upto_region 17 with fail
        go_cut [17, 18] from 54 to 156 (fun gp pd wx => gp = .int .i64 G ∧ pd = .int .i64 0 ∧ Below wc.heap.size wc wx)
        case first =>
         as_aux_lemma =>
         go_region_held3 (fun w' => w'.cell? ⟨w.heap.size, 0, none⟩ = some (.int .i64 b) ∧ w'.cell? ⟨w.heap.size, 1, none⟩ = some (.int .i64 s)) (first | go_keep | trivial)
          (first
           | (go_at_call 131; refine (rPlace_any b s TL _ q1 q2 hTL.1 hTL.2).mono ?_; rintro e w5 ⟨rfl, b5⟩; have hc := fun o => b5.cell (p := ⟨w.heap.size, o, none⟩) (by simpa using lx)))
         all_goals
          go_wp2_with fail
          go_meet
          exact ⟨rfl, rfl, (bel_drewN 1 (Below.refl _ _)).trans (b5.mono (by simp))⟩
        case rest =>
         as_aux_lemma =>
         obtain ⟨rfl, rfl, b6⟩ := hcut
         have z6 := b6.size
         have RT := Lib.hid (RT.out.below b6)
         have XC := Lib.hid (XC.out.below b6 lx)
         have TC := Lib.hid (TC.out.below b6)
         have KC := Lib.hid (KC.out.trans (Below.keeps b6))
         have x0 := XC.out.cell 0
         have x1 := XC.out.cell 1
         have lx := XC.out.lt
         simp only [List.getElem?_cons_zero, List.getElem?_cons_succ] at x0 x1
         clear b6
         go_upto_if 106 with fail
         go_cut [18] from 54 to 156 (fun pd wx => ∃ PD, pd = .int .i64 PD ∧ wx = wc ∧ (ND ≤ G → PD = 0) ∧ (G < ND → PD = G))
         case first =>
          as_aux_lemma =>
          by_cases hg : ND ≤ G
          ·go_wp2_with fail
           go_meet
           exact ⟨0, rfl, rfl, fun _ => rfl, fun h => by omega⟩
          ·go_wp2_with fail
           go_meet
           exact ⟨G, rfl, rfl, fun h => by omega, fun _ => rfl⟩
         case rest =>
          as_aux_lemma =>
          obtain ⟨PD, rfl, rfl, hp1, hp2⟩ := hcut
          have hPD : 0 ≤ PD ∧ PD ≤ s := by
           by_cases hg : ND ≤ G
           ·rw [hp1 hg]; omega
           ·rw [hp2 (by omega)]; omega
          have HP1 := Lib.hid hp1
          have HP2 := Lib.hid hp2
          have n1 := Int.emod_nonneg HD' (show s ≠ 0 by omega)
          have n2 := Int.emod_lt_of_pos HD' (show 0 < s by omega)
          clear hp1 hp2
          go_upto_region 20 with fail
          go_cut [119] from 54 to 156 (fun c wx => ∃ cb : Bool, c = .bool cb ∧ Below wc.heap.size wc wx ∧ (u15 = .bool false → cb = false) ∧ (u15 = .bool true → cb = (decide (0 < PD) && decide (HD' % s < ND))))
          case first =>
           as_aux_lemma =>
           rcases RT.out with ⟨rfl, htp, hE⟩ | ⟨rfl, hkT, m', hb', hE, hend⟩
           ·clear htp hE
            by_cases hp : 0 < PD
            ·go_wp2_with fail
             refine (rPlace_any b s HD' _ q1 q2 hHD'.1 hHD'.2).mono ?_
             rintro e w7 ⟨rfl, b7⟩
             by_cases hq : HD' % s < ND
             ·go_wp2_with fail
              go_meet
              exact ⟨true, by first | rfl | exact congrArg Value.bool (decide_eq_true (by omega)), b7, nofun, fun _ => by rw [decide_eq_true hp, decide_eq_true (by omega)]; rfl⟩
             ·go_wp2_with fail
              go_meet
              exact ⟨false, by first | rfl | exact congrArg Value.bool (decide_eq_false (by omega)), b7, nofun, fun _ => by rw [decide_eq_true hp, decide_eq_false (by omega)]; rfl⟩
            ·go_wp2_with fail
             go_meet
             exact ⟨false, by first | rfl | exact congrArg Value.bool (decide_eq_false (by omega)), Below.refl _ _, nofun, fun _ => by rw [decide_eq_false (by omega)]; rfl⟩
           ·go_wp2_with fail
            go_meet
            exact ⟨false, rfl, Below.refl _ _, fun _ => rfl, nofun⟩
          case rest =>
           as_aux_lemma =>
           obtain ⟨cb, rfl, b7, hc1, hc2⟩ := hcut
           have C1 := Lib.hid hc1
           have C2 := Lib.hid hc2
           have z7 := b7.size
           have RT := Lib.hid (RT.out.below b7)
           have XC := Lib.hid (XC.out.below b7 lx)
           have TC := Lib.hid (TC.out.below b7)
           have KC := Lib.hid (KC.out.trans (Below.keeps b7))
           have x0 := XC.out.cell 0
           have x1 := XC.out.cell 1
           have lx := XC.out.lt
           simp only [List.getElem?_cons_zero, List.getElem?_cons_succ] at x0 x1
           clear b7 hc1 hc2
           go_upto_if 119 with fail
           go_cut [14, 15] from 54 to 156 (fun hd ok wx => ∃ HE' k'', hd = .int .u64 HE' ∧ inU HE' ∧ k' ≤ k'' ∧ k'' ≤ T.length ∧ (ok = .bool false ∨ u15 = .bool true) ∧ Keep (· = tb) wc wx ∧ RGo C 0 false E wx tb tv T k'' ⟨C, .cs TL PD, HE', 0, false, 10⟩ ok)
           case first =>
            as_aux_lemma =>
            rcases RT.out with ⟨rfl, htp, hE⟩ | ⟨rfl, hkT, m', hb', hE, hend⟩
            ·have hcb := C2.out (by first | rfl | trivial)
             unfold PutM.gapped at hE
             dsimp only at hE
             rw [← HND.out, HCb.out.2.1, ← HG.out] at hE
             by_cases hg : ND ≤ G
             ·have hP := HP1.out hg
              rw [if_pos hg] at hE
              rw [hP] at hcb
              simp at hcb
              subst hcb
              have HP := Lib.hid hP
              clear hP
              go_wp2_with fail
              go_meet
              exact ⟨HD', k', rfl, hHD', Nat.le_refl _, hk', .inr (by first | rfl | trivial), Keep.refl _ _, .inl ⟨rfl, htp, by rw [HP.out]; exact hE⟩⟩
             ·have hP := HP2.out (by omega)
              rw [if_neg hg] at hE
              have hdp : decide (0 < PD) = true := decide_eq_true (by omega)
              rw [hdp, Bool.true_and] at hcb
              have HP := Lib.hid hP
              clear hP
              by_cases hq : ND ≤ HD' % s
              ·rw [if_pos hq] at hE
               rw [decide_eq_false (by omega)] at hcb
               subst hcb
               go_wp2_with fail
               go_meet
               exact ⟨HD', k', rfl, hHD', Nat.le_refl _, hk', .inr (by first | rfl | trivial), Keep.refl _ _, .inl ⟨rfl, htp, by rw [HP.out]; exact hE⟩⟩
              ·rw [if_neg hq] at hE
               rw [decide_eq_true (by omega)] at hcb
               subst hcb
               have HTP := Lib.hid htp
               have HEE := Lib.hid hE
               clear hE htp RT C1 C2 hdp
               go_wp2_with fail
               refine (tLoad_any tb k' tv T _ HTP.out TC.out hk' (b + s + 16) 8).mono ?_
               rintro e w4 ⟨k4, hcase⟩
               have z8 := k4.size
               have KK4 := Lib.hid k4
               have TC4 := Lib.hid (TC.out.keep k4)
               have XC := Lib.hid (XC.out.keep k4 (by show ¬ w.heap.size = tb; omega))
               have x0 := XC.out.cell 0
               have x1 := XC.out.cell 1
               have lx := XC.out.lt
               simp only [List.getElem?_cons_zero, List.getElem?_cons_succ] at x0 x1
               clear k4
               rcases hcase with ⟨hkt, rfl, t4⟩ | ⟨hkt, rfl, t4⟩
               ·have hE := HEE.out
                rw [PutM.eat_told rfl hkt] at hE
                have hv := HU.out k' hkt
                obtain ⟨v, hv0⟩ : ∃ v, v = (gA T k').v := ⟨_, rfl⟩
                rw [← hv0] at hv ⊢
                have hE' : (if ND ≤ v % s then (⟨C, .ps TL v, v, 0, false, 10⟩ : PutM) else ⟨C, .done, v, 0, false, 5⟩).eat (ans T (k' + 1)) = E := by
                 rw [hv0, HND.out, ← HCb.out.2.1]
                 exact hE
                have HE4 := Lib.hid hE'
                have HT4 := Lib.hid t4
                clear hE hE' t4 hv0 HTP HEE
                go_wp2_with fail
                refine (rPlace_any b s v _ q1 q2 hv.1 hv.2).mono ?_
                rintro e w5 ⟨rfl, b5⟩
                have z9 := b5.size
                have KK5 := Lib.hid (KK4.out.trans (Below.keeps b5))
                have HT5 := Lib.hid (show Tp w5 tb tv (k' + 1) accZ false from Blk.below HT4.out b5 HT4.out.lt)
                have TC5 := Lib.hid (TC4.out.below b5)
                clear b5
                by_cases hf : ND ≤ v % s
                ·have hE := HE4.out
                 rw [if_pos hf] at hE
                 have HE5 := Lib.hid hE
                 clear hE HE4
                 go_wp2_with fail
                 refine (tStore_any tb (k' + 1) tv T _ HT5.out TC5.out hkt (b + s + 8) 8 v).mono ?_
                 rintro e w6 ⟨k6, hcase⟩
                 rcases hcase with ⟨hkt6, rfl, t6⟩ | ⟨hkt6, rfl, t6⟩
                 ·go_wp2_with fail
                  go_meet
                  refine ⟨v, k' + 2, rfl, hv, by omega, hkt6, .inr (by first | rfl | trivial), KK5.out.trans k6, .inl ⟨rfl, t6, ?_⟩⟩
                  have h9 := HE5.out
                  rw [PutM.eat_told rfl hkt6] at h9
                  rw [HP.out, HG.out, ← HCb.out.2.1]
                  exact h9
                 ·go_wp2_with fail
                  go_meet
                  refine ⟨v, T.length, rfl, hv, by omega, Nat.le_refl _, .inl rfl, KK5.out.trans k6, RGo.done (m0 := ⟨C, .ps TL v, v, 0, false, 10⟩) (by rw [← hkt6]; exact HE5.out) ⟨rfl, rfl, rfl, rfl⟩ rfl rfl ?_⟩
                  have he : (PutM.mk C (.ps TL v) v 0 false 10).want.acc = ⟨2, b + s + 8, 8, v, 0, .slice none 0 0⟩ := by
                   unfold PutM.want PutM.end AA.acc
                   dsimp only
                   simp only [HCb.out.1, HCb.out.2.1, ← HND.out]
                  rw [he]
                  exact t6
                ·have hE := HE4.out
                 rw [if_neg hf] at hE
                 have KK := KK5.out
                 have TX := HT5.out
                 go_wp2
                 go_ret3
                 refine ⟨(Below.keeps B1.out).trans (KC.out.trans KK), ?_, ?_⟩
                 ·rw [← hE]
                  rw [PutM.eat_done rfl]
                  rfl
                 ·rw [← hE, PutM.eat_done rfl]
                  refine .inr ⟨rfl, ?_⟩
                  rw [ans_len]
                  rw [show T.length - (T.length - (k' + 1)) = (k' + 1) by omega]
                  exact TX
               ·subst hkt
                go_wp2_with fail
                go_meet
                refine ⟨0, T.length, rfl, ⟨Int.le_refl 0, by decide⟩, Nat.le_refl _, Nat.le_refl _, .inl rfl, KK4.out, RGo.done (m0 := ⟨C, .ph TL, HD', 0, false, 10⟩) HEE.out ⟨rfl, rfl, rfl, rfl⟩ rfl rfl ?_⟩
                have he : (PutM.mk C (.ph TL) HD' 0 false 10).want.acc = ⟨1, b + s + 16, 8, 0, 0, .slice none 0 0⟩ := by
                 unfold PutM.want PutM.end AA.acc
                 dsimp only
                 simp only [HCb.out.1, HCb.out.2.1, ← HND.out]
                rw [he]
                exact t4
            ·have hcb := C1.out (by first | rfl | trivial)
             subst hcb
             go_wp2_with fail
             go_meet
             exact ⟨HD', k', rfl, hHD', Nat.le_refl _, hk', .inl rfl, Keep.refl _ _, .inr ⟨rfl, hkT, m', hb', hE, hend⟩⟩
           case rest =>
            as_aux_lemma =>
            obtain ⟨HF, k'', rfl, hHF, hk''0, hk'', hoko, kp8, hrt⟩ := hcut
            clear RT C1 C2 x0 x1
            have RT := Lib.hid hrt
            have z8 := kp8.size
            have XC := Lib.hid (XC.out.keep kp8 (by show ¬ w.heap.size = tb; omega))
            have TC := Lib.hid (TC.out.keep kp8)
            have KC := Lib.hid (KC.out.trans kp8)
            have x0 := XC.out.cell 0
            have x1 := XC.out.cell 1
            have lx := XC.out.lt
            simp only [List.getElem?_cons_zero, List.getElem?_cons_succ] at x0 x1
            clear hrt kp8
            rcases RT.out with ⟨rfl, htp, hE⟩ | ⟨rfl, hkT, m', hb', hE, hend⟩
            ·have hlt9 : k < k'' := by
              have h1 := hKO.out
              have h2 := HKK.out
              rcases hoko with h | h
              ·cases h
              rcases h1 with h1 | h1
              ·rw [h] at h1; cases h1
              rcases h2 with h2 | h2
              ·omega
              ·rw [h1] at h2; cases h2
             have HLT := Lib.hid hlt9
             have HTP := Lib.hid htp
             have HEE := Lib.hid hE
             have W20 : IntKind.i64.wrap (ND + PD) = ND + PD := IntWalk.i64_in _ ⟨by omega, by omega⟩
             have W21 : IntKind.u64.wrap (ND + PD) = ND + PD := IntWalk.u64_in _ ⟨by omega, by omega⟩
             have W22 : IntKind.u64.wrap (TL + (ND + PD)) = Go.Proofs.YtknahaaefmlcpaaGreat.u64 (TL + (ND + PD)) := wrap_u64' _
             clear hE htp RT hoko hlt9
             go_wp2_with fail
             refine (tCas_any tb k'' tv T _ HTP.out TC.out hk'' (b + s) 8 TL (Go.Proofs.YtknahaaefmlcpaaGreat.u64 (TL + (ND + PD)))).mono ?_
             rintro e w9 ⟨k9, hcase⟩
             rcases hcase with ⟨hkt, rfl, t9⟩ | ⟨hkt, rfl, t9⟩
             ·have hE := HEE.out
              rw [PutM.eat_told rfl hkt] at hE
              obtain ⟨D, hD⟩ : ∃ D, D = (gA T k'').d := ⟨_, rfl⟩
              rw [← hD]
              have hE' : (if D = true then PutM.claimed ⟨C, .cs TL PD, HF, 0, false, 10⟩ TL PD else ⟨C, .tl, HF, 0, false, 10⟩).eat (ans T (k'' + 1)) = E := by
               rw [hD]
               exact hE
              have HE9 := Lib.hid hE'
              have HT9 := Lib.hid t9
              clear hE hE' hD t9
              have hk9 := HLT.out
              cases D with
              | true =>
               go_wp2
               refine ⟨⟨k'' + 1, HF, TL, G, PD, hkt, rfl, hHF, rfl, rfl, rfl, KC.out.trans k9, .inr ⟨rfl, rfl, hTL, ?_, HT9.out, ?_⟩⟩, ?_⟩
               ·by_cases hg : ND ≤ G
                ·exact .inl (HP1.out hg)
                ·right
                 rw [HP2.out (by omega), HG.out]
               ·have h9 := HE9.out
                first | exact h9 | (rw [if_pos rfl] at h9; exact h9) | (rw [if_pos trivial] at h9; exact h9)
               ·rw [HT9.out.tpk, HTK.out]
                first | (simp [boN]; omega) | simp [boN]
              | false =>
               go_wp2
               refine ⟨⟨k'' + 1, HF, TL, G, PD, hkt, rfl, hHF, rfl, rfl, rfl, KC.out.trans k9, .inl ⟨rfl, .inl ⟨rfl, HT9.out, ?_⟩⟩⟩, ?_⟩
               ·have h9 := HE9.out
                first | exact h9 | (rw [if_neg (by nofun)] at h9; exact h9) | (rw [if_neg not_false] at h9; exact h9)
               ·rw [HT9.out.tpk, HTK.out]
                first | (simp [boN]; omega) | simp [boN]
             ·subst hkt
              have hk9 := HLT.out
              have HT9 := Lib.hid t9
              clear t9
              go_wp2
              refine ⟨⟨T.length, HF, TL, G, PD, Nat.le_refl _, rfl, hHF, rfl, rfl, rfl, KC.out.trans k9, .inl ⟨rfl, RGo.done (m0 := ⟨C, .cs TL PD, HF, 0, false, 10⟩) HEE.out ⟨rfl, rfl, rfl, rfl⟩ rfl rfl ?_⟩⟩, ?_⟩
              ·have he : (PutM.mk C (.cs TL PD) HF 0 false 10).want.acc = ⟨4, b + s, 8, TL, Go.Proofs.YtknahaaefmlcpaaGreat.u64 (TL + (ND + PD)), .slice none 0 0⟩ := by
                unfold PutM.want PutM.end AA.acc
                dsimp only
                simp only [HCb.out.1, HCb.out.2.1, ← HND.out]
               rw [he]
               exact HT9.out
              ·rw [HT9.out.tpk, HTK.out]
               first | (simp [boN]; omega) | simp [boN]
            ·have hend' := hend
             obtain ⟨_, _, _, _, hen, _⟩ := hend'
             have HEN := Lib.hid hen
             have HREL := Lib.hid (show RGo C 0 false E wc tb tv T T.length ⟨C, .tl, HF, 0, false, 10⟩ (.bool false) from .inr ⟨rfl, rfl, m', hb', hE, hend⟩)
             clear hen hend hE RT
             go_wp2
             refine ⟨⟨T.length, HF, TL, G, PD, Nat.le_refl _, rfl, hHF, rfl, rfl, rfl, KC.out, .inl ⟨rfl, HREL.out⟩⟩, ?_⟩
             rw [HEN.out.tpk, HTK.out]
             first | (simp [boN]; omega) | simp [boN]
    ·go_wp2
     go_ret3
     refine ⟨(Below.keeps B1.out).trans KC.out, ?_, by rw [hE]; exact hend.to⟩
     rw [hE, hb'.pos, hb'.cl, hb'.e]
     rfl
   ·as_aux_lemma =>
    have P0 := hPD
    have n1 := Int.emod_nonneg TL0 (show s ≠ 0 by omega)
    have n2 := Int.emod_lt_of_pos TL0 (show 0 < s by omega)
    have hPb : 0 ≤ PD ∧ PD ≤ s := by rcases hPD with h | h <;> omega
    obtain ⟨P, hP⟩ : ∃ P, P = s64 (s64 TL0 + PD) := ⟨_, rfl⟩
    have W1 : IntKind.u64.wrap PD = PD := IntWalk.u64_in _ ⟨by omega, by omega⟩
    have W2 : IntKind.u64.wrap (TL0 + PD) = Go.Proofs.YtknahaaefmlcpaaGreat.u64 (TL0 + PD) := wrap_u64' _
    have HW3 := Lib.hid (show wrap64 (Go.Proofs.YtknahaaefmlcpaaGreat.u64 (TL0 + PD)) = P by
     rw [hP, s64_s64, ← s64_u64]
     unfold wrap64 s64
     rfl)
    have W4 : IntKind.i64.wrap (b + TL0 % s) = b + TL0 % s := IntWalk.i64_in _ ⟨by omega, by omega⟩
    have W5 : IntKind.i32.wrap PD = PD := IntWalk.i32_in _ ⟨by omega, by omega⟩
    have hE' : (PutM.mk C (if PD = 0 then .wh (b + TL0 % s) else .pd TL0) HD P true 10).eat (ans T k) = E := by
     rw [hP, ← hE]
     unfold PutM.claimed
     dsimp only
     rw [HCb.out.1, HCb.out.2.1]
    have HEE := Lib.hid hE'
    have HTP := Lib.hid htp
    have HPD := Lib.hid hPD
    clear hE hE' htp hPD P0 hP
    go_upto_region 30 with fail
    go_cut [21] from 164 to 213 (fun a wx => a = .int .i64 (b + TL0 % s) ∧ Below wr.heap.size wr wx)
    case first =>
     as_aux_lemma =>
     go_region_held3 (fun w' => w'.cell? ⟨w.heap.size, 0, none⟩ = some (.int .i64 b) ∧ w'.cell? ⟨w.heap.size, 1, none⟩ = some (.int .i64 s)) (first | go_keep | trivial)
      (first
       | (go_at_call 131; refine (rPlace_any b s TL0 _ q1 q2 hTL.1 hTL.2).mono ?_; rintro e w5 ⟨rfl, b5⟩; have hc := fun o => b5.cell (p := ⟨w.heap.size, o, none⟩) (by simpa using lx)))
     all_goals
      go_wp2_with fail
      go_meet
      exact ⟨rfl, (bel_drewN 1 (Below.refl _ _)).trans (b5.mono (by simp))⟩
    case rest =>
     as_aux_lemma =>
     obtain ⟨rfl, b2⟩ := hcut
     have z2 := b2.size
     have HTP := Lib.hid (show Tp wc tb tv k accZ false from Blk.below HTP.out b2 HTP.out.lt)
     have XC := Lib.hid (XC.out.below b2 lx)
     have TC := Lib.hid (TC.out.below b2)
     have KC := Lib.hid (KC.out.trans (Below.keeps b2))
     have x0 := XC.out.cell 0
     have x1 := XC.out.cell 1
     have lx := XC.out.lt
     simp only [List.getElem?_cons_zero, List.getElem?_cons_succ] at x0 x1
     clear b2
     go_upto_if 171 with fail
     go_cut [15, 21] from 164 to 213 (fun ok a wx => ∃ A k', a = .int .i64 A ∧ 0 ≤ A ∧ A ≤ 131072 ∧ k' ≤ T.length ∧ Keep (· = tb) wc wx ∧ RGo C P true E wx tb tv T k' ⟨C, .wh A, HD, P, true, 10⟩ ok)
     case first =>
      as_aux_lemma =>
      by_cases hp : PD = 0
      ·have hE := HEE.out
       rw [if_pos hp] at hE
       have HEE := Lib.hid hE
       have hp' : ¬ 0 < PD := by omega
       clear hp hE
       go_wp2_with fail
       go_meet
       exact ⟨_, k, rfl, by omega, by omega, hk1, Keep.refl _ _, .inl ⟨rfl, HTP.out, HEE.out⟩⟩
      ·have hE := HEE.out
       rw [if_neg hp] at hE
       have HEE := Lib.hid hE
       have hp' : 0 < PD := by omega
       have HPG := Lib.hid (show PD = s - TL0 % s by rcases HPD.out with h | h; exact absurd h hp; exact h)
       clear hp hE
       go_wp2_with fail
       refine (refRecord_any PD (-1) _ (by omega) (by omega) (by decide) (by decide)).mono ?_
       rintro e w4 ⟨rfl, b4⟩
       have z4 := b4.size
       have HT4 := Lib.hid (show Tp w4 tb tv k accZ false from Blk.below HTP.out b4 HTP.out.lt)
       have TC4 := Lib.hid (TC.out.below b4)
       have KK4 := Lib.hid (show Keep (· = tb) wc w4 from Below.keeps b4)
       have XC := Lib.hid (XC.out.below b4 lx)
       clear b4 x0 x1
       go_wp2_with fail
       refine (tStore_any tb k tv T _ HT4.out TC4.out hk1 (b + TL0 % s) 8 (recS PD (-1))).mono ?_
       rintro e w6 ⟨k6, hcase⟩
       have XC := Lib.hid (XC.out.keep k6 (by show ¬ w.heap.size = tb; omega))
       have x0 := XC.out.cell 0
       simp only [List.getElem?_cons_zero, List.getElem?_cons_succ] at x0
       rcases hcase with ⟨hkt, rfl, t6⟩ | ⟨hkt, rfl, t6⟩
       ·go_wp2_with fail
        go_meet
        refine ⟨b, k + 1, rfl, by omega, by omega, hkt, KK4.out.trans k6, .inl ⟨rfl, t6, ?_⟩⟩
        have h9 := HEE.out
        rw [PutM.eat_told rfl hkt] at h9
        rw [← HCb.out.1]
        exact h9
       ·subst hkt
        go_wp2_with fail
        go_meet
        refine ⟨b, T.length, rfl, by omega, by omega, Nat.le_refl _, KK4.out.trans k6, RGo.done (m0 := ⟨C, .pd TL0, HD, P, true, 10⟩) HEE.out ⟨rfl, rfl, rfl, rfl⟩ rfl rfl ?_⟩
        have he : (PutM.mk C (.pd TL0) HD P true 10).want.acc = ⟨2, b + TL0 % s, 8, recS PD (-1), 0, .slice none 0 0⟩ := by
         unfold PutM.want PutM.end AA.acc
         dsimp only
         rw [HCb.out.1, HCb.out.2.1, ← HPG.out]
        rw [he]
        exact t6
     case rest =>
      as_aux_lemma =>
      obtain ⟨A, k', rfl, hA0, hA1, hk', kp3, hrt⟩ := hcut
      have RT := Lib.hid hrt
      have z3 := kp3.size
      have TC := Lib.hid (TC.out.keep kp3)
      have KC := Lib.hid (KC.out.trans kp3)
      have hsl := HSL.out
      have WN1 : IntKind.i64.wrap (8 + (sl : Int)) = 8 + (sl : Int) := IntWalk.i64_in _ ⟨by omega, by omega⟩
      have WN2 : IntKind.i32.wrap (8 + (sl : Int)) = 8 + (sl : Int) := IntWalk.i32_in _ ⟨by omega, by omega⟩
      have WN3 : IntKind.i32.wrap (-(8 + (sl : Int))) = -(8 + (sl : Int)) := IntWalk.i32_in _ ⟨by omega, by omega⟩
      have WN4 : IntKind.u64.wrap (8 + (sl : Int)) = 8 + (sl : Int) := IntWalk.u64_in _ ⟨by omega, by omega⟩
      have WA8 : IntKind.i64.wrap (A + 8) = A + 8 := IntWalk.i64_in _ ⟨by omega, by omega⟩
      obtain ⟨n, hn⟩ : ∃ n, n = 8 + (sl : Int) := ⟨_, rfl⟩
      rw [← hn] at WN1 WN2 WN3 WN4
      have hn' := hn.symm
      have hCn : C.n = n := by
       unfold PutC.n
       rw [HCb.out.2.2.2]
       omega
      have HCN := Lib.hid hCn
      have hnb : 8 ≤ n ∧ n ≤ 1032 := by omega
      clear hrt kp3 x0 x1 hsl hn hCn
      go_upto_region 35 with fail
      go_cut [15] from 164 to 213 (fun ok wx => ∃ k'', k'' ≤ T.length ∧ Keep (· = tb) wc wx ∧ RGo C P true E wx tb tv T k'' (PutM.step ⟨C, .wh A, HD, P, true, 10⟩ anZ) ok)
      case first =>
       as_aux_lemma =>
       rcases RT.out with ⟨rfl, htp, hE⟩ | ⟨rfl, hkT, m', hb', hE, hend⟩
       ·have HTP := Lib.hid htp
        have HEE := Lib.hid hE
        clear hE htp RT
        go_wp2_with fail
        refine (refRecord_any (-n) typ _ (by omega) (by omega) (by omega) htyp).mono ?_
        rintro e w4 ⟨rfl, b4⟩
        have z4 := b4.size
        have HT4 := Lib.hid (show Tp w4 tb tv k' accZ false from Blk.below HTP.out b4 HTP.out.lt)
        have TC4 := Lib.hid (TC.out.below b4)
        have KK4 := Lib.hid (show Keep (· = tb) wc w4 from Below.keeps b4)
        clear b4
        go_wp2_with fail
        refine (tStore_any tb k' tv T _ HT4.out TC4.out hk' A 8 (recS (-n) typ)).mono ?_
        rintro e w6 ⟨k6, hcase⟩
        rcases hcase with ⟨hkt, rfl, t6⟩ | ⟨hkt, rfl, t6⟩
        ·go_wp2_with fail
         go_meet
         refine ⟨k' + 1, hkt, KK4.out.trans k6, .inl ⟨rfl, t6, ?_⟩⟩
         have h9 := HEE.out
         rw [PutM.eat_told rfl hkt] at h9
         exact h9
        ·subst hkt
         go_wp2_with fail
         go_meet
         refine ⟨T.length, Nat.le_refl _, KK4.out.trans k6, RGo.done (m0 := ⟨C, .wh A, HD, P, true, 10⟩) HEE.out ⟨rfl, rfl, rfl, rfl⟩ rfl rfl ?_⟩
         have he : (PutM.mk C (.wh A) HD P true 10).want.acc = ⟨2, A, 8, recS (-n) typ, 0, .slice none 0 0⟩ := by
          unfold PutM.want PutM.end AA.acc
          dsimp only
          rw [HCN.out, HCb.out.2.2.1]
         rw [he]
         exact t6
       ·go_wp2_with fail
        go_meet
        exact ⟨k', hk', Keep.refl _ _, .inr ⟨rfl, hkT, m', hb', hE, hend⟩⟩
      case rest =>
       as_aux_lemma =>
       obtain ⟨k2, hk2, kp4, hrt⟩ := hcut
       have hst : PutM.step (PutM.mk C (.wh A) HD P true 10) anZ = if l.length = 0 then PutM.mk C (.fi A) HD P true 10 else PutM.mk C (.wb A (A + 8) l) HD P true 10 := by
        rw [← HCb.out.2.2.2]
        rfl
       rw [hst] at hrt
       have RT := Lib.hid hrt
       have z4 := kp4.size
       have TC := Lib.hid (TC.out.keep kp4)
       have KC := Lib.hid (KC.out.trans kp4)
       clear hrt kp4 hst
       go_upto_region 36 with fail
       go_cut [15] from 164 to 213 (fun ok wx => ∃ k'', k'' ≤ T.length ∧ Keep (· = tb) wc wx ∧ RGo C P true E wx tb tv T k'' ⟨C, .fi A, HD, P, true, 10⟩ ok)
       case first =>
        as_aux_lemma =>
        rcases RT.out with ⟨rfl, htp, hE⟩ | ⟨rfl, hkT, m', hb', hE, hend⟩
        ·have HTP := Lib.hid htp
         have HEE := Lib.hid hE
         clear hE htp RT
         have hrr := (HR.out.below B1.out).keepO KC.out (fun h0 i hi e => HB.out h0 (e ▸ hi))
         go_wp2_with fail
         refine (tIn_any tb k2 tv T accZ (A + 8) s0 sl sc l _ HTP.out TC.out hk2 (by omega) HB.out hrr (by omega) (by omega)).mono ?_
         rintro e w6 ⟨k6, ⟨hkt, rfl, t6⟩ | ⟨hkt, rfl, t0, tl, tc, t6, r6⟩⟩
         ·go_wp2_with fail
          go_meet
          refine ⟨k2 + (l.length + 7) / 8, hkt, k6, .inl ⟨rfl, t6, ?_⟩⟩
          have h9 := HEE.out
          by_cases hl0 : l.length = 0
          ·rw [if_pos hl0] at h9
           rw [hl0]
           exact h9
          ·rw [if_neg hl0] at h9
           rw [← (eat_wb C A HD P T l.length l (A + 8) k2 (Nat.le_refl _) hl0 hk2).1 hkt]
           exact h9
         ·go_wp2_with fail
          go_meet
          have hl0 : l.length ≠ 0 := by intro h; rw [h] at hkt; omega
          have h9 := HEE.out
          rw [if_neg hl0, (eat_wb C A HD P T l.length l (A + 8) k2 (Nat.le_refl _) hl0 hk2).2 hkt] at h9
          refine ⟨T.length, Nat.le_refl _, k6, .inr ⟨rfl, rfl, _, ⟨rfl, rfl, rfl, rfl⟩, h9.symm, rfl, t0, tl, tc, ?_, r6⟩⟩
          have e1 : ((l.drop (8 * (T.length - k2))).length : Int) = ((l.length - 8 * (T.length - k2) : Nat) : Int) := by simp
          have e2 : (PutM.mk C (.wb A (A + 8 + 8 * ((T.length - k2 : Nat) : Int)) (l.drop (8 * (T.length - k2)))) HD P true 10).want.n = min ((l.length - 8 * (T.length - k2) : Nat) : Int) 8 := by
           unfold PutM.want
           dsimp only
           rw [e1]
          rw [e2]
          exact t6
        ·go_wp2_with fail
         go_meet
         exact ⟨k2, hk2, Keep.refl _ _, .inr ⟨rfl, hkT, m', hb', hE, hend⟩⟩
       case rest =>
        as_aux_lemma =>
        obtain ⟨k3, hk3, kp5, hrt⟩ := hcut
        have z5 := kp5.size
        have TC := Lib.hid (TC.out.keep kp5)
        have KC := Lib.hid (KC.out.trans kp5)
        clear RT
        rcases hrt with ⟨rfl, htp, hE⟩ | ⟨rfl, hkT, m', hb', hE, hend⟩
        ·have HTP := Lib.hid htp
         have HEE := Lib.hid hE
         clear hE htp
         go_wp2_with fail
         refine (tStore_any tb k3 tv T _ HTP.out TC.out hk3 A 4 n).mono ?_
         rintro e w6 ⟨k6, hcase⟩
         rcases hcase with ⟨hkt, rfl, t6⟩ | ⟨hkt, rfl, t6⟩
         ·have hE := HEE.out
          rw [PutM.eat_told rfl hkt] at hE
          have hE9 : (PutM.mk C .done HD P true 0).eat (ans T (k3 + 1)) = E := hE
          rw [PutM.eat_done rfl] at hE9
          have HE9 := Lib.hid hE9
          clear hE hE9
          go_wp2
          go_ret3
          refine ⟨(Below.keeps B1.out).trans (KC.out.trans k6), by rw [← HE9.out]; show Ending.returned (.tuple #[.int .i64 (wrap64 (Go.Proofs.YtknahaaefmlcpaaGreat.u64 (TL0 + PD))), .bool true, .int .i64 0]) = _; rw [HW3.out], ?_⟩
          rw [← HE9.out]
          refine .inr ⟨rfl, ?_⟩
          rw [ans_len, show T.length - (T.length - (k3 + 1)) = k3 + 1 by omega]
          exact t6
         ·subst hkt
          have hE := HEE.out
          rw [PutM.eat_end (Nat.le_refl _)] at hE
          have HE9 := Lib.hid hE
          clear hE
          go_wp2
          go_ret3
          refine ⟨(Below.keeps B1.out).trans (KC.out.trans k6), by rw [← HE9.out]; show Ending.returned (.tuple #[.int .i64 (wrap64 (Go.Proofs.YtknahaaefmlcpaaGreat.u64 (TL0 + PD))), .bool true, .int .i64 10]) = _; rw [HW3.out], ?_⟩
          rw [← HE9.out]
          refine .inl ⟨rfl, rfl, none, 0, 0, ?_, .inl ⟨rfl, rfl⟩⟩
          have he : (PutM.mk C (.fi A) HD P true 10).want.acc = ⟨2, A, 4, n, 0, .slice none 0 0⟩ := by
           unfold PutM.want PutM.end AA.acc
           dsimp only
           rw [HCN.out]
          have t7 := t6
          rw [← he] at t7
          exact t7
        ·have HE9 := Lib.hid hE
         have HEN := Lib.hid hend
         clear hE hend
         go_wp2
         go_ret3
         refine ⟨(Below.keeps B1.out).trans KC.out, ?_, by rw [HE9.out]; exact HEN.out.to⟩
         rw [HE9.out, hb'.pos, hb'.cl, hb'.e]
         show Ending.returned (.tuple #[.int .i64 (wrap64 (Go.Proofs.YtknahaaefmlcpaaGreat.u64 (TL0 + PD))), .bool true, .int .i64 10]) = _
         rw [HW3.out]
end Go.Proofs.YtknahaaefmlcpaaGreat
end
