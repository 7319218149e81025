/- Fillers, and the puts that they made. No program in sight. Conditions: none. -/
import Derived.Test.YtggjhleomocojaaGreatVs
import Derived.Test.YtggjhleomocojaaGreatDd
import Derived.Test.YtggjhleomocojaaGreatKe
import Derived.Test.YtggjhleomocojaaGreatPd
import Derived.Test.YtggjhleomocojaaGreatPi
namespace Go.Proofs.YtggjhleomocojaaGreat
open Go.RowKit
set_option linter.unusedVariables false
def cnt0 (L : List Int) : Nat := (L.filter fun e => e == 0).length
structure FR (b s : Int) (P : List PutM) (G : List (Nat × Nat)) (i : Nat) (l : List (Int × List Int)) (c : Nat) (f : Option PutM × FilT) : Prop where
 gl : G.length = P.length
 hb : f.2.b = b
 hs : f.2.s = s
 left : f.2.left = l.drop f.2.done.length
 nn : f.2.done.length ≤ l.length
 pl : f.2.places.length = cnt0 f.2.done
 cur : ∀ m, f.1 = some m → G[c]? = some (i, f.2.done.length) ∧ P[c]? = some m ∧ f.2.done.length < l.length
 live : ∀ (j n : Nat) (m : PutM), G[j]? = some (i, n) → P[j]? = some m → m.live = true → j = c ∧ f.1 = some m
 cs : ∀ (j n : Nat) (m : PutM), G[j]? = some (i, n) → P[j]? = some m → ∃ x, l[n]? = some x ∧ m.c = ⟨b, s, x.1, x.2⟩
 okj : ∀ (j n : Nat) (m : PutM), G[j]? = some (i, n) → P[j]? = some m → m.e = 0 → ¬ (j = c ∧ f.1.isSome = true) → f.2.done[n]? = some 0 ∧ f.2.places[cnt0 (f.2.done.take n)]? = some m.pos
 ok : ∀ n : Nat, f.2.done[n]? = some 0 → ∃ (j : Nat) (m : PutM), G[j]? = some (i, n) ∧ P[j]? = some m ∧ m.e = 0 ∧ f.2.places[cnt0 (f.2.done.take n)]? = some m.pos
end Go.Proofs.YtggjhleomocojaaGreat
namespace Go.Proofs.YtggjhleomocojaaGreat
set_option maxRecDepth 100000
open Go.RowKit
set_option linter.unusedVariables false
set_option linter.unusedSimpArgs false
inductive HPc where
 | done
 | tl
 | va
 | lt
 | hd
 | pv (sz : Int)
 | rd (sz typ p n : Int) (hv : List Int)
 | bv (sz typ : Int) (l : List Int)
structure HeaM where
 b : Int
 s : Int
 pc : HPc
 cu : Int
 nx : Int
 la : Int
 c : Int
 pads : Int
 msg : Int × List Int
 heard : Bool
 e : Int
def HeaM.live (m : HeaM) : Bool := match m.pc with
 | .done => false
 | _ => true
def HeaM.place (m : HeaM) : Int := m.c % m.s
def HeaM.over (m : HeaM) (v : Int) : Prop := m.s ≤ s64 (u64 (v - m.c))
instance (m : HeaM) (v : Int) : Decidable (m.over v) := by unfold HeaM.over; exact inferInstance
def HeaM.lost (m : HeaM) : HeaM := { m with la := s64 (m.la + 1), nx := s64 m.c, e := 9, pc := .done }
def HeaM.want (m : HeaM) : AA := match m.pc with
 | .done => aaZ
 | .tl => ⟨1, m.b + m.s + 8, 8, 0, 0, []⟩
 | .va => ⟨1, m.b + m.s, 8, 0, 0, []⟩
 | .lt => ⟨1, m.b + m.s + 16, 8, 0, 0, []⟩
 | .hd => ⟨1, m.b + m.place, 8, 0, 0, []⟩
 | .pv sz => ⟨1, m.b + m.s, 8, 0, 0, []⟩
 | .rd sz typ p n hv => ⟨5, p, min n 8, 0, 0, []⟩
 | .bv sz typ l => ⟨1, m.b + m.s, 8, 0, 0, []⟩
def HeaM.head (m : HeaM) (v : Int) : HeaM :=
 if loS v < 8 ∨ m.s - m.place < rsz (loS v) then m.lost
 else if hiS v = -1 then (if 0 < m.pads ∨ rsz (loS v) < m.s - m.place then m.lost else { m with pc := .pv (rsz (loS v)) })
 else if loS v - 8 < 1 then { m with pc := .bv (rsz (loS v)) (hiS v) [] }
 else { m with pc := .rd (rsz (loS v)) (hiS v) (m.b + m.place + 8) (loS v - 8) [] }
def HeaM.step (m : HeaM) (x : AN) : HeaM := match m.pc with
 | .done => m
 | .tl => if s64 (u64 (x.v - m.c)) ≤ 0 then { m with pc := .done, e := 0 } else { m with pc := .va }
 | .va => if m.over x.v then { m with pc := .lt, la := s64 (m.la + 1) } else { m with pc := .hd }
 | .lt => { m with pc := .hd, c := x.v }
 | .hd => m.head x.v
 | .pv sz => if m.over x.v then m.lost else { m with pc := .hd, pads := m.pads + 1, c := u64 (m.c + sz) }
 | .rd sz typ p n hv => if n ≤ 8 then { m with pc := .bv sz typ (hv ++ x.b) } else { m with pc := .rd sz typ (p + 8) (n - 8) (hv ++ x.b) }
 | .bv sz typ l => if m.over x.v then m.lost else { m with pc := .done, cu := s64 m.c, nx := s64 (s64 m.c + sz), msg := (typ, l), heard := true, e := 0 }
def heaMac : Mac := ⟨HeaM, HeaM.live, HeaM.want, HeaM.step⟩
structure EarV where
 cu : Int
 nx : Int
 la : Int
def HeaM.init (b s : Int) (x : EarV) : HeaM := if rgOk b s then ⟨b, s, .tl, x.cu, x.nx, x.la, u64 x.nx, 0, (0, []), false, 10⟩ else ⟨b, s, .done, x.cu, x.nx, x.la, 0, 0, (0, []), false, 1⟩
def HeaM.ear (m : HeaM) : EarV := ⟨m.cu, m.nx, m.la⟩
structure RelT where
 b : Int
 s : Int
 ear : EarV
 left : Int
 heard : List (Int × (Int × List Int))
 losses : Int
def RelT.mo (t : RelT) : Option HeaM × RelT := if t.left < 1 then (none, t) else (some (HeaM.init t.b t.s t.ear), { t with left := t.left - 1 })
def RelT.en (t : RelT) (m : HeaM) : RelT := { t with ear := m.ear, heard := if m.heard then t.heard ++ [(m.cu, m.msg)] else t.heard, losses := if m.e = 9 then t.losses + 1 else t.losses }
def relC : ChP heaMac where
 τ := RelT
 mo := fun t => t.mo
 en := fun m t => t.en m
 fu := fun t => t.left.toNat + 2
 ok := fun _ => True
def relL (n : Nat) (cur : Option HeaM) (t : RelT) : Option HeaM × RelT := match cur with
 | none => relC.settle n t.mo
 | some m => relC.settle n ((some m, t) : Option HeaM × RelT)
theorem rel_mo0 {t : RelT} (h : t.left < 1) : t.mo = (none, t) := if_pos h
theorem rel_mo1 {t : RelT} (h : ¬ t.left < 1) : t.mo = (some (HeaM.init t.b t.s t.ear), { t with left := t.left - 1 }) := if_neg h
theorem relL_live (n : Nat) {m : HeaM} (t : RelT) (h : m.live = true) : relL n (some m) t = (some m, t) := by
 unfold relL
 cases n with
 | zero => rfl
 | succ n => exact if_pos h
theorem relL_dead (n : Nat) {m : HeaM} (t : RelT) (h : m.live = false) : relL (n + 1) (some m) t = relL n none (t.en m) := by
 unfold relL
 exact if_neg (by show ¬ m.live = true; rw [h]; decide)
theorem relL_nil (n : Nat) {t : RelT} (h : t.left < 1) : relL n none t = (none, t) := by
 unfold relL
 rw [rel_mo0 h]
 cases n <;> rfl
theorem relL_cons (n : Nat) {t : RelT} (h : ¬ t.left < 1) : relL n none t = relL n (some (HeaM.init t.b t.s t.ear)) { t with left := t.left - 1 } := by
 unfold relL
 rw [rel_mo1 h]
end Go.Proofs.YtggjhleomocojaaGreat
namespace Go.Proofs.YtggjhleomocojaaGreat
set_option maxRecDepth 100000
open Go.RowKit
set_option linter.unusedVariables false
set_option linter.unusedSimpArgs false
set_option maxHeartbeats 1000000 in
theorem cLoad_bd (q : Nat) (c : Acc) (t : Value) (r : List Value) (a n : Int) (g : Nat) (gf gc : Array Value) (w : World) (h : Mch w q c t r) :
  Calls Tryz.prog 36 #[.pointer (some ⟨q, 0, none⟩), .int .i64 a, .int .i64 n, .func (.func g) gf gc] w fun e w' => e = .returned (.tuple #[]) ∧
   ∃ t', Mch w' q ⟨1, a, n, 0, 0, .slice none 0 0⟩ t' r ∧ Clo w' (fun k => w.heap.size ≤ k ∧ k < w'.heap.size) t' 73 [.func (.func g) gf gc] ∧ Keep (· = q) w w' := by
 have hlt := h.lt
 have H := Lib.hid h
 clear h
 go_enter Tryz.func36, Tryz.ntmps36
 go_wp2_with fail
 refine (cDo_any q c t r 1 a n 0 0 none 0 0 _ _ _ (Blk.alloc H.out _)).mono ?_
 rintro e w1 ⟨rfl, m1, k1⟩
 have z1 := k1.size
 simp at z1
 go_wp2
 go_end0
 refine ⟨rfl, _, m1, Clo.mk1 ((Blk.made w _ _).keep k1 (by show ¬ w.heap.size = q; omega)) ⟨Nat.le_refl _, by omega⟩, ((Keep.refl _ w).alloc _).trans k1⟩
set_option maxHeartbeats 1000000 in
theorem cStore_bd (q : Nat) (c : Acc) (t : Value) (r : List Value) (a n v : Int) (g : Nat) (gf gc : Array Value) (w : World) (h : Mch w q c t r) :
  Calls Tryz.prog 74 #[.pointer (some ⟨q, 0, none⟩), .int .i64 a, .int .i64 n, .int .u64 v, .func (.func g) gf gc] w fun e w' => e = .returned (.tuple #[]) ∧
   ∃ t', Mch w' q ⟨2, a, n, v, 0, .slice none 0 0⟩ t' r ∧ Clo w' (fun k => w.heap.size ≤ k ∧ k < w'.heap.size) t' 107 [.func (.func g) gf gc] ∧ Keep (· = q) w w' := by
 have hlt := h.lt
 have H := Lib.hid h
 clear h
 go_enter Tryz.func74, Tryz.ntmps74
 go_wp2_with fail
 refine (cDo_any q c t r 2 a n v 0 none 0 0 _ _ _ (Blk.alloc H.out _)).mono ?_
 rintro e w1 ⟨rfl, m1, k1⟩
 have z1 := k1.size
 simp at z1
 go_wp2
 go_end0
 refine ⟨rfl, _, m1, Clo.mk1 ((Blk.made w _ _).keep k1 (by show ¬ w.heap.size = q; omega)) ⟨Nat.le_refl _, by omega⟩, ((Keep.refl _ w).alloc _).trans k1⟩
set_option maxHeartbeats 1000000 in
theorem loadK_bd (tb g : Nat) (gx : Value) (v : Int) (d : Bool) (s0 : Option Addr) (sl sc : Nat) (w : World) (h : Blk w tb [.func (.func g) #[gx] #[]]) (hen : En g) (Q : World → Prop)
  (hF : ∀ w1, Below w.heap.size w w1 → Calls Tryz.prog g #[gx, .int .u64 v] w1 fun e w' => e = .returned (.tuple #[]) ∧ Q w') :
  Calls Tryz.prog 73 #[.agg #[.int .u64 v, .bool d, .slice s0 sl sc], ptr tb] w fun e w' => e = .returned (.tuple #[]) ∧ Q w' := by
 have HF := Lib.hid hF
 have hlt := h.lt
 have c0 := h.cell 0
 simp only [List.getElem?_cons_zero] at c0
 unfold ptr
 unfold En at hen
 clear hF h
 go_enter Tryz.func73, Tryz.ntmps73
 go_wp2_with fail
 refine (HF.out _ (by go_grown)).mono ?_
 rintro e w' ⟨rfl, hQ⟩
 go_wp2
 go_end0
 exact ⟨rfl, hQ⟩
set_option maxHeartbeats 1000000 in
theorem storeK_bd (tb g : Nat) (gx : Value) (v : Int) (d : Bool) (s0 : Option Addr) (sl sc : Nat) (w : World) (h : Blk w tb [.func (.func g) #[gx] #[]]) (hen : En g) (Q : World → Prop)
  (hF : ∀ w1, Below w.heap.size w w1 → Calls Tryz.prog g #[gx] w1 fun e w' => e = .returned (.tuple #[]) ∧ Q w') :
  Calls Tryz.prog 107 #[.agg #[.int .u64 v, .bool d, .slice s0 sl sc], ptr tb] w fun e w' => e = .returned (.tuple #[]) ∧ Q w' := by
 have HF := Lib.hid hF
 have hlt := h.lt
 have c0 := h.cell 0
 simp only [List.getElem?_cons_zero] at c0
 unfold ptr
 unfold En at hen
 clear hF h
 go_enter Tryz.func107, Tryz.ntmps107
 go_wp2_with fail
 refine (HF.out _ (by go_grown)).mono ?_
 rintro e w' ⟨rfl, hQ⟩
 go_wp2
 go_end0
 exact ⟨rfl, hQ⟩
theorem takeLoadB (O : Nat → Prop) (q : Nat) (c : Acc) (t : Value) (r : List Value) (g : Nat) (gx : Value) (v : Int) (d : Bool) (s0 : Option Addr) (sl sc : Nat) (w : World) (h : Mch w q c t r) (ht : Clo w O t 73 [.func (.func g) #[gx] #[]]) (hq : ¬ O q) (hen : En g) (Q : World → Prop)
  (hF : ∀ w1, Mch w1 q accZ .nilFunc r → Keep (· = q) w w1 → Calls Tryz.prog g #[gx, .int .u64 v] w1 fun e w' => e = .returned (.tuple #[]) ∧ Q w') :
  Calls Tryz.prog 192 #[.pointer (some ⟨q, 0, none⟩), .agg #[.int .u64 v, .bool d, .slice s0 sl sc]] w fun e w' => e = .returned (.tuple #[]) ∧ Q w' := by
 obtain ⟨tb, rfl, hb, ho⟩ := ht.c1
 have nq : ¬ tb = q := fun e => hq (e ▸ ho)
 refine cTake_any q _ _ _ r v d s0 sl sc w h (fun w1 => enLoad _ w1) Q ?_
 intro w1 m1 k1
 exact loadK_bd tb g gx v d s0 sl sc w1 (hb.keep k1 nq) hen Q fun w2 b2 => hF w2 (Blk.below m1 b2 m1.lt) (k1.trans (Below.keeps b2))
theorem takeStoreB (O : Nat → Prop) (q : Nat) (c : Acc) (t : Value) (r : List Value) (g : Nat) (gx : Value) (v : Int) (d : Bool) (s0 : Option Addr) (sl sc : Nat) (w : World) (h : Mch w q c t r) (ht : Clo w O t 107 [.func (.func g) #[gx] #[]]) (hq : ¬ O q) (hen : En g) (Q : World → Prop)
  (hF : ∀ w1, Mch w1 q accZ .nilFunc r → Keep (· = q) w w1 → Calls Tryz.prog g #[gx] w1 fun e w' => e = .returned (.tuple #[]) ∧ Q w') :
  Calls Tryz.prog 192 #[.pointer (some ⟨q, 0, none⟩), .agg #[.int .u64 v, .bool d, .slice s0 sl sc]] w fun e w' => e = .returned (.tuple #[]) ∧ Q w' := by
 obtain ⟨tb, rfl, hb, ho⟩ := ht.c1
 have nq : ¬ tb = q := fun e => hq (e ▸ ho)
 refine cTake_any q _ _ _ r v d s0 sl sc w h (fun w1 => enStore _ w1) Q ?_
 intro w1 m1 k1
 exact storeK_bd tb g gx v d s0 sl sc w1 (hb.keep k1 nq) hen Q fun w2 b2 => hF w2 (Blk.below m1 b2 m1.lt) (k1.trans (Below.keeps b2))
end Go.Proofs.YtggjhleomocojaaGreat
namespace Go.Proofs.YtggjhleomocojaaGreat
set_option maxRecDepth 100000
open Go.RowKit
set_option linter.unusedVariables false
set_option linter.unusedSimpArgs false
inductive SPc where
 | done
 | tl
 | is
 | ip
 | pd
 | wh (a : Int)
 | wb (p : Int) (l : List Int)
 | la
 | ta
structure SenM where
 c : PutC
 pc : SPc
 tl : Int
 e : Int
def SenM.live (m : SenM) : Bool := match m.pc with
 | .done => false
 | _ => true
def SenM.gap (m : SenM) : Int := m.c.s - m.tl % m.c.s
def SenM.want (m : SenM) : AA := match m.pc with
 | .done => aaZ
 | .tl => ⟨1, m.c.b + m.c.s + 8, 8, 0, 0, []⟩
 | .is => ⟨2, m.c.b + m.c.s, 8, u64 (m.tl + m.c.nd), 0, []⟩
 | .ip => ⟨2, m.c.b + m.c.s, 8, u64 (u64 (m.tl + m.gap) + m.c.nd), 0, []⟩
 | .pd => ⟨2, m.c.b + m.tl % m.c.s, 8, recS m.gap (-1), 0, []⟩
 | .wh a => ⟨2, a, 8, recS m.c.n m.c.typ, 0, []⟩
 | .wb p l => ⟨6, p, min (l.length : Int) 8, 0, 0, l.take 8⟩
 | .la => ⟨2, m.c.b + m.c.s + 16, 8, m.tl, 0, []⟩
 | .ta => ⟨2, m.c.b + m.c.s + 8, 8, u64 (m.tl + m.c.nd), 0, []⟩
def SenM.step (m : SenM) (x : AN) : SenM := match m.pc with
 | .done => m
 | .tl => { m with tl := x.v, pc := if m.c.nd ≤ m.c.s - x.v % m.c.s then .is else .ip }
 | .is => { m with pc := .wh (m.c.b + m.tl % m.c.s) }
 | .ip => { m with pc := .pd }
 | .pd => { m with tl := u64 (m.tl + m.gap), pc := .wh m.c.b }
 | .wh a => { m with pc := if m.c.d.length = 0 then .la else .wb (a + 8) m.c.d }
 | .wb p l => { m with pc := if l.length ≤ 8 then .la else .wb (p + 8) (l.drop 8) }
 | .la => { m with pc := .ta }
 | .ta => { m with pc := .done, e := 0 }
def senMac : Mac := ⟨SenM, SenM.live, SenM.want, SenM.step⟩
def SenM.init (c : PutC) : SenM := ⟨c, if c.ok then .tl else .done, 0, c.e0⟩
def SenM.rest (m : SenM) (bv : Value) : List Value := [.int .i64 m.c.b, .int .i64 m.c.s, .int .i32 m.c.typ, bv, .int .u64 m.tl, .int .i64 m.e]
variable {w : World} {q : Nat} {m : SenM}
theorem sen_cells {c : Acc} {t bv : Value} (h : Mch w q c t (m.rest bv)) :
  w.cell? ⟨q, 7, none⟩ = some (.int .i64 m.c.b) ∧ w.cell? ⟨q, 8, none⟩ = some (.int .i64 m.c.s) ∧ w.cell? ⟨q, 9, none⟩ = some (.int .i32 m.c.typ) ∧ w.cell? ⟨q, 10, none⟩ = some bv ∧ w.cell? ⟨q, 11, none⟩ = some (.int .u64 m.tl) ∧ w.cell? ⟨q, 12, none⟩ = some (.int .i64 m.e) :=
 ⟨Blk.cell h 7, Blk.cell h 8, Blk.cell h 9, Blk.cell h 10, Blk.cell h 11, Blk.cell h 12⟩
variable {O : Nat → Prop}
theorem Clo.c4 {v : Value} {f : Nat} {x y z u : Value} (h : Clo w O v f [x, y, z, u]) : ∃ b c d e, v = .func (.func f) #[] #[ptr b, ptr c, ptr d, ptr e] ∧ (Blk w b [x] ∧ O b) ∧ (Blk w c [y] ∧ O c) ∧ (Blk w d [z] ∧ O d) ∧ Blk w e [u] ∧ O e := by
 obtain ⟨bs, rfl, h⟩ := h
 match bs, h with
 | [b, c, d, e], ⟨h1, o1, h2, o2, h3, o3, h4, o4, _⟩ => exact ⟨b, c, d, e, rfl, ⟨h1, o1⟩, ⟨h2, o2⟩, ⟨h3, o3⟩, h4, o4⟩
theorem Clo.mk4 {f b c d e : Nat} {x y z u : Value} (h : Blk w b [x]) (o : O b) (h2 : Blk w c [y]) (o2 : O c) (h3 : Blk w d [z]) (o3 : O d) (h4 : Blk w e [u]) (o4 : O e) : Clo w O (.func (.func f) #[] #[ptr b, ptr c, ptr d, ptr e]) f [x, y, z, u] := ⟨[b, c, d, e], rfl, h, o, h2, o2, h3, o3, h4, o4, trivial⟩
def SClo (w : World) (O : Nat → Prop) (q : Nat) (m : SenM) (t : Value) : Prop :=
 match m.pc with
 | .done => t = .nilFunc
 | .tl => Clo w O t 73 [.func (.func 38) #[ptr q] #[]]
 | .is => ∃ v1, Clo w O t 107 [v1] ∧ Clo w O v1 75 [ptr q, .int .i64 (m.c.b + m.tl % m.c.s), .int .u64 m.c.nd]
 | .ip => ∃ v1, Clo w O t 107 [v1] ∧ Clo w O v1 77 [ptr q, .int .i64 (m.c.b + m.tl % m.c.s), .int .u64 m.gap, .int .u64 m.c.nd]
 | .pd => ∃ v1, Clo w O t 107 [v1] ∧ Clo w O v1 79 [ptr q, .int .u64 m.gap, .int .u64 m.c.nd]
 | .wh a => ∃ v1, Clo w O t 107 [v1] ∧ Clo w O v1 108 [ptr q, .int .i64 a, .int .u64 m.c.nd]
 | .wb p l => False
 | .la => ∃ v1, Clo w O t 107 [v1] ∧ Clo w O v1 111 [ptr q, .int .u64 m.c.nd]
 | .ta => ∃ v1, Clo w O t 107 [v1] ∧ Clo w O v1 112 [ptr q]
def SenAt (w : World) (O : Nat → Prop) (q : Nat) (m : SenM) (bv : Value) : Prop :=
 match m.pc with
 | .wb p l => ∃ f0, InSt w O q p l f0 (m.rest bv) ∧ Clo w O f0 110 [ptr q, .int .u64 m.c.nd]
 | _ => ∃ t, Mch w q m.want.acc t (m.rest bv) ∧ SClo w O q m t
def SenTo (w : World) (O : Nat → Prop) (q : Nat) (m : SenM) (bv : Value) (w' : World) : Prop := SenAt w' (Gr O w w') q m bv ∧ Keep (· = q) w w'
structure SenW (w : World) (O : Nat → Prop) (q : Nat) (m : SenM) (bv : Value) : Prop where
 mch : Mch w q accZ .nilFunc (m.rest bv)
 rd : RdB w bv m.c.d
 ob : ∀ i, bv.ownBlock = some i → O i
 nq : ¬ O q
 ok : m.c.ok = true
variable {bv : Value}
theorem SenW.lt (h : SenW w O q m bv) : q < w.heap.size := by
 exact Blk.lt h.mch
theorem SenW.keep {w w' : World} {O M : Nat → Prop} (h : SenW w O q m bv) (k : Keep M w w') (hd : ∀ i, O i → ¬ M i) (hq : ¬ M q) : SenW w' O q m bv :=
 ⟨Blk.keep h.mch k hq, h.rd.keepP k (fun i hi => hd i (h.ob i hi)), h.ob, h.nq, h.ok⟩
theorem SenW.below {w w' : World} (h : SenW w O q m bv) (b : Below w.heap.size w w') : SenW w' O q m bv := h.keep (M := fun _ => False) (Below.keeps b) (fun _ _ => id) id
theorem SClo.mono {O O' : Nat → Prop} {t : Value} (h : SClo w O q m t) (hd : ∀ i, O i → O' i) : SClo w O' q m t := by
 unfold SClo at h ⊢
 split at h
 ·exact h
 ·exact Clo.mono h hd
 all_goals first | exact h | (obtain ⟨v1, h1, h2⟩ := h; exact ⟨v1, h1.mono hd, h2.mono hd⟩)
theorem SClo.keep {w w' : World} {O M : Nat → Prop} {t : Value} (h : SClo w O q m t) (k : Keep M w w') (hd : ∀ i, O i → ¬ M i) : SClo w' O q m t := by
 unfold SClo at h ⊢
 split at h
 ·exact h
 ·exact Clo.keep h k hd
 all_goals first | exact h | (obtain ⟨v1, h1, h2⟩ := h; exact ⟨v1, h1.keep k hd, h2.keep k hd⟩)
theorem SenAt.mono {O O' : Nat → Prop} (h : SenAt w O q m bv) (hd : ∀ i, O i → O' i) : SenAt w O' q m bv := by
 unfold SenAt at h ⊢
 split at h
 ·obtain ⟨f0, h1, h2⟩ := h
  exact ⟨f0, h1.mono hd, h2.mono hd⟩
 ·obtain ⟨t, h1, h2⟩ := h
  exact ⟨t, h1, h2.mono hd⟩
theorem SenAt.keep {w w' : World} {O M : Nat → Prop} (h : SenAt w O q m bv) (k : Keep M w w') (hd : ∀ i, O i → ¬ M i) (hq : ¬ M q) : SenAt w' O q m bv := by
 unfold SenAt at h ⊢
 split at h
 ·obtain ⟨f0, h1, h2⟩ := h
  exact ⟨f0, h1.keep k hd hq, h2.keep k hd⟩
 ·obtain ⟨t, h1, h2⟩ := h
  exact ⟨t, Blk.keep h1 k hq, h2.keep k hd⟩
theorem SenAt.made {bv t : Value} (hpc : ∀ p l, m.pc ≠ .wb p l) (h : Mch w q m.want.acc t (m.rest bv)) (hc : SClo w O q m t) : SenAt w O q m bv := by
 unfold SenAt
 split
 ·rename_i p l e
  exact absurd e (hpc p l)
 ·exact ⟨t, h, hc⟩
theorem SenAt.mch (h : SenAt w O q m bv) : ∃ c t, Mch w q c t (m.rest bv) := by
 unfold SenAt at h
 split at h
 ·obtain ⟨f0, ⟨b, off, cap, n, t, hm, _⟩, _⟩ := h
  exact ⟨_, _, hm⟩
 ·obtain ⟨t, hm, _⟩ := h
  exact ⟨_, _, hm⟩
theorem SenTo.from {w w1 w' : World} {O O1 : Nat → Prop} (h : SenTo w1 O1 q m bv w') (k : Keep (· = q) w w1) (hO : ∀ i, O1 i → O i ∨ (w.heap.size ≤ i ∧ i < w1.heap.size)) : SenTo w O q m bv w' := by
 have z1 := k.size
 have z2 := h.2.size
 refine ⟨h.1.mono (fun i hi => ?_), k.trans h.2⟩
 rcases hi with hi | hi
 ·rcases hO i hi with h9 | h9
  ·exact .inl h9
  ·exact .inr ⟨h9.1, by omega⟩
 ·exact .inr ⟨by omega, hi.2⟩
theorem SenTo.after {w w1 w' : World} (h : SenTo w1 O q m bv w') (k : Keep (· = q) w w1) : SenTo w O q m bv w' := h.from k (fun _ hi => .inl hi)
theorem SenW.drew (h : SenW w O q m bv) : SenW w.drew O q m bv := h.below (bel_drewN 1 (Below.refl _ _))
theorem SenW.bd (h : SenW w O q m bv) :
  (m.c.s = 64 ∨ m.c.s = 128 ∨ m.c.s = 256 ∨ m.c.s = 512 ∨ m.c.s = 1024 ∨ m.c.s = 2048 ∨ m.c.s = 4096 ∨ m.c.s = 8192) ∧ isP m.c.s = true ∧ 64 ≤ m.c.s ∧ m.c.s ≤ 8192 ∧ 0 ≤ m.c.b ∧ m.c.b ≤ 131040 - m.c.s ∧ 8 ≤ m.c.nd ∧ m.c.nd ≤ 1040 ∧ m.c.d.length ≤ 1024 := by
 obtain ⟨h1, h2, h3⟩ := PutC.ok_bd h.ok
 obtain ⟨a1, a2, a3, a4, a5, a6⟩ := rgOk_bd h1
 obtain ⟨b1, b2, b3⟩ := PutC.nd_bd h.ok
 refine ⟨rg_pow a1 a2 a3, a1, a2, a3, a4, a6, ?_, ?_, ?_⟩ <;> omega
theorem SenW.put {m m' : SenM} (h : SenW w O q m bv) (i : Nat) (u : Value) (hc : m'.c = m.c) (hm : (accZ.cs ++ Value.nilFunc :: m.rest bv).set i u = accZ.cs ++ Value.nilFunc :: m'.rest bv) : SenW (w.setCell ⟨q, i, none⟩ u) O q m' bv := by
 refine ⟨?_, ?_, h.ob, h.nq, by rw [hc]; exact h.ok⟩
 ·have := Blk.set h.mch i u
  rw [hm] at this
  exact this
 ·rw [hc]
  exact h.rd.keepP (K := (· = q)) (Keep.setCell (M := (· = q)) (Keep.refl _ w) (p := ⟨q, i, none⟩) (.inl rfl) _) (fun j hj e => h.nq (e ▸ h.ob j hj))
theorem enSBegin : En 38 := enters_of Tryz.func38 (by kernel_rfl) rfl
theorem enSBegin1 : En 75 := enters_of Tryz.func75 (by kernel_rfl) rfl
theorem enSBegin2 : En 77 := enters_of Tryz.func77 (by kernel_rfl) rfl
theorem enSBegin3 : En 79 := enters_of Tryz.func79 (by kernel_rfl) rfl
theorem enSWriteK : En 108 := enters_of Tryz.func108 (by kernel_rfl) rfl
theorem enSWrite1 : En 110 := enters_of Tryz.func110 (by kernel_rfl) rfl
theorem enSWrite2 : En 111 := enters_of Tryz.func111 (by kernel_rfl) rfl
theorem enSWrite3 : En 112 := enters_of Tryz.func112 (by kernel_rfl) rfl
set_option maxHeartbeats 1000000 in
theorem sEnd_any (w : World) (h : SenW w O q m bv) :
  Calls Tryz.prog 37 #[.pointer (some ⟨q, 0, none⟩)] w fun e w' => e = .returned (.int .i64 (m.c.b + m.c.s)) ∧ Below w.heap.size w w' := by
 obtain ⟨b0, b1, b2, b3, b4, b5, b6, b7, b8⟩ := h.bd
 have hlt := h.lt
 obtain ⟨c7, c8, _⟩ := sen_cells h.mch
 have W : IntKind.i64.wrap (m.c.b + m.c.s) = m.c.b + m.c.s := IntWalk.i64_in _ ⟨by omega, by omega⟩
 clear h b0 b1
 go_enter Tryz.func37, Tryz.ntmps37
 go_wp2
 go_quiet (fail)
 go_wp2
 go_ret
 exact ⟨rfl, bel_drewN _ (Below.refl _ _)⟩
set_option maxHeartbeats 2000000 in
theorem sWrite_any (a : Int) (w : World) (h : SenW w O q m bv) :
  Calls Tryz.prog 76 #[.pointer (some ⟨q, 0, none⟩), .int .i64 a, .int .u64 m.c.nd] w fun e w' => e = .returned (.tuple #[]) ∧ SenTo w O q { m with pc := .wh a } bv w' := by
 have hlt := h.lt
 have H := Lib.hid h
 obtain ⟨b0, b1, b2, b3, b4, b5, b6, b7, b8⟩ := h.bd
 obtain ⟨_, _, c9, c10, _⟩ := sen_cells h.mch
 have hr := h.rd
 obtain ⟨s0, sl, sc, rfl⟩ : ∃ s0 sl sc, bv = .slice s0 sl sc := by
  rcases hr with ⟨rfl, _⟩ | ⟨_, _, rfl, _⟩ | ⟨_, _, _, rfl, _⟩
  ·exact ⟨_, _, _, rfl⟩
  ·exact ⟨_, _, _, rfl⟩
  ·exact ⟨_, _, _, rfl⟩
 have hsl := rd_len hr
 have hn : m.c.n = 8 + (sl : Int) := by unfold PutC.n; omega
 have HN := Lib.hid hn
 have W1 : IntKind.i64.wrap (8 + (sl : Int)) = 8 + (sl : Int) := IntWalk.i64_in _ ⟨by omega, by omega⟩
 have W2 : IntKind.i32.wrap (8 + (sl : Int)) = 8 + (sl : Int) := IntWalk.i32_in _ ⟨by omega, by omega⟩
 obtain ⟨n, hnn⟩ : ∃ n, n = 8 + (sl : Int) := ⟨_, rfl⟩
 rw [← hnn] at W1 W2 HN
 have hnn' := hnn.symm
 obtain ⟨ND, hND⟩ : ∃ N, N = m.c.nd := ⟨_, rfl⟩
 rw [← hND]
 have HND := Lib.hid hND
 clear h b0 b1 hr hsl hnn hn hND
 go_enter Tryz.func76, Tryz.ntmps76
 go_upto_region 1 with fail
 obtain ⟨w3, hw3, x0, x1, x2, hs3, bb3⟩ := pbox3 w (.pointer (some ⟨q, 0, none⟩)) (.int .i64 a) (.int .u64 ND) 35 3 54
 rw [← hw3]
 have X0 := Lib.hid x0
 have X1 := Lib.hid x1
 have X2 := Lib.hid x2
 have B3 := Lib.hid bb3
 have p0 := x0.cell 0
 have p1 := x1.cell 0
 have p2 := x2.cell 0
 have d9 := (bb3.cell (p := ⟨q, 9, none⟩) hlt).trans c9
 have d10 := (bb3.cell (p := ⟨q, 10, none⟩) hlt).trans c10
 simp only [List.getElem?_cons_zero] at p0 p1 p2
 clear hw3 x0 x1 x2 bb3 c9 c10
 have H3 := Lib.hid (H.out.below B3.out)
 go_region_held3 (fun w' => w'.cell? ⟨w.heap.size, 0, none⟩ = some (.pointer (some ⟨q, 0, none⟩)) ∧ w'.cell? ⟨w.heap.size + 1, 0, none⟩ = some (.int .i64 a) ∧ w'.cell? ⟨q, 10, none⟩ = some (.slice s0 sl sc) ∧ w'.cell? ⟨q, 9, none⟩ = some (.int .i32 m.c.typ)) (first | go_keep | trivial)
  (first
   | (go_at_call 78; refine (record_any n m.c.typ _).mono ?_; rintro e w2 ⟨rfl, rfl⟩)
   | (go_at_call 74; refine (cStore_any q _ _ _ a 8 _ _ _ _ (H3.out.below (by go_grown)).mch).mono ?_; rintro e w5 ⟨rfl, t5, m5, l5, k5⟩; have hd0 := fun o => k5.cell (b := w.heap.size) o (by simp; omega) (by show ¬ w.heap.size = q; omega); have hd1 := fun o => k5.cell (b := w.heap.size + 1) o (by simp; omega) (by show ¬ w.heap.size + 1 = q; omega); have hd3 := (sen_cells m5).2.2.1; have hd4 := (sen_cells m5).2.2.2.1))
 all_goals
  clear hd0 hd1 hd3 hd4
  have z5 := k5.size
  simp at z5
  go_wp2
  go_end0
  refine ⟨rfl, SenAt.made (by nofun) (by rw [← HN.out] at m5; exact m5) ⟨_, l5.mono (fun i hi => .inr ⟨by have := hi.1; simp at this; omega, hi.2⟩), Clo.mk3 ?_ (.inr ⟨by omega, by omega⟩) ?_ (.inr ⟨by omega, by omega⟩) ?_ (.inr ⟨by omega, by omega⟩)⟩, ((Below.keeps B3.out).drew).trans k5⟩
  ·exact (X0.out.drew).keep k5 (by show ¬ w.heap.size = q; omega)
  ·exact (X1.out.drew).keep k5 (by show ¬ w.heap.size + 1 = q; omega)
  ·show Blk w5 _ [.int .u64 m.c.nd]
   rw [← HND.out]
   exact (X2.out.drew).keep k5 (by show ¬ w.heap.size + 1 + 1 = q; omega)
set_option maxHeartbeats 2000000 in
theorem sBegin1_any (a : Int) (pb ab nb : Nat) (w : World) (h : SenW w O q m bv) (hp : Blk w pb [ptr q]) (ha : Blk w ab [.int .i64 a]) (hn : Blk w nb [.int .u64 m.c.nd]) :
  Calls Tryz.prog 75 #[ptr pb, ptr ab, ptr nb] w fun e w' => e = .returned (.tuple #[]) ∧ SenTo w O q { m with pc := .wh a } bv w' := by
 have H := Lib.hid h
 have hlt := h.lt
 have l0 := hp.lt
 have l1 := ha.lt
 have l2 := hn.lt
 have p0 := hp.cell 0
 have t0 := ha.cell 0
 have g0 := hn.cell 0
 simp only [List.getElem?_cons_zero, ptr] at p0 t0 g0
 unfold ptr
 clear h hp ha hn
 go_enter Tryz.func75, Tryz.ntmps75
 go_wp2_with fail
 refine (sWrite_any a _ H.out).mono ?_
 rintro e w5 ⟨rfl, hto⟩
 go_wp2
 go_end0
 exact ⟨rfl, hto⟩
set_option maxHeartbeats 2000000 in
theorem sBegin3_any (pb gb nb : Nat) (w : World) (h : SenW w O q m bv) (hp : Blk w pb [ptr q]) (hg : Blk w gb [.int .u64 m.gap]) (hn : Blk w nb [.int .u64 m.c.nd]) (n0 : pb ≠ q) (n1 : gb ≠ q) (n2 : nb ≠ q) :
  Calls Tryz.prog 79 #[ptr pb, ptr gb, ptr nb] w fun e w' => e = .returned (.tuple #[]) ∧ SenTo w O q { m with tl := u64 (m.tl + m.gap), pc := .wh m.c.b } bv w' := by
 have H := Lib.hid h
 have hlt := h.lt
 have l0 := hp.lt
 have l1 := hg.lt
 have l2 := hn.lt
 have P0 := Lib.hid hp
 have N0 := Lib.hid hn
 have p0 := hp.cell 0
 have t0 := hg.cell 0
 have g0 := hn.cell 0
 have c11 := Blk.cell h.mch 11
 have f11 := Blk.frozen h.mch 11
 simp only [List.getElem?_cons_zero, ptr, SenM.rest, Acc.cs, accZ, List.cons_append, List.nil_append, List.getElem?_cons_succ] at p0 t0 g0 c11
 obtain ⟨GP, hGP⟩ : ∃ g, g = m.gap := ⟨_, rfl⟩
 rw [← hGP] at t0 ⊢
 unfold ptr
 have HGP := Lib.hid hGP
 clear h hp hg hn hGP
 go_enter Tryz.func79, Tryz.ntmps79
 go_upto_region 1 with fail
 go_region
 obtain ⟨w1, hw1⟩ : ∃ w1, w1 = (w.setCell ⟨q, 11, none⟩ (.int .u64 (u64 (m.tl + GP)))).drew := ⟨_, rfl⟩
 have hww : (w.setCell ⟨q, 11, none⟩ (.int .u64 (IntKind.u64.wrap (m.tl + GP)))).drew = w1 := by rw [hw1]; rfl
 have k1 : Keep (· = q) w w1 := by
  rw [hw1]
  exact (Keep.setCell (M := (· = q)) (Keep.refl _ w) (p := ⟨q, 11, none⟩) (.inl rfl) _).drew
 have H1 := Lib.hid (show SenW w1 O q { m with tl := u64 (m.tl + GP) } bv by
  rw [hw1]
  exact (H.out.put (m' := { m with tl := u64 (m.tl + GP) }) 11 _ rfl rfl).drew)
 have K1 := Lib.hid k1
 have z1 := k1.size
 have P1 := Lib.hid (P0.out.keep k1 n0)
 have N1 := Lib.hid (N0.out.keep k1 n2)
 have d0 := P1.out.cell 0
 have d2 := N1.out.cell 0
 have l01 := P1.out.lt
 have l21 := N1.out.lt
 have ltq1 := H1.out.lt
 obtain ⟨e7, _⟩ := sen_cells H1.out.mch
 simp only [List.getElem?_cons_zero, ptr] at d0 d2
 dsimp only at e7
 first | rw [hww] | skip
 clear hw1 hww k1 p0 t0 g0 c11 f11 hlt l0 l1 l2
 go_wp2_with fail
 go_region_held3 (fun w' => w'.cell? ⟨pb, 0, none⟩ = some (.pointer (some ⟨q, 0, none⟩)) ∧ w'.cell? ⟨q, 7, none⟩ = some (.int .i64 m.c.b) ∧ w'.cell? ⟨nb, 0, none⟩ = some (.int .u64 m.c.nd)) (first | go_keep | trivial)
  (first
   | (go_at_call 76; refine (sWrite_any (m := { m with tl := u64 (m.tl + GP) }) m.c.b _ H1.out.drew).mono ?_; rintro e w5 ⟨rfl, hto⟩; have hd0 := fun o => hto.2.cell (b := pb) o (by simpa using l01) n0; have hd2 := fun o => hto.2.cell (b := nb) o (by simpa using l21) n2; obtain ⟨cm, tm, hmm⟩ := hto.1.mch; have hd7 := (sen_cells hmm).1))
 all_goals
  clear hd0 hd2 hd7 hmm
  go_wp2
  go_end0
  exact ⟨rfl, hto.after K1.out.drew⟩
set_option maxHeartbeats 2000000 in
theorem sBegin2_any (pb ab gb nb : Nat) (w : World) (h : SenW w O q m bv) (hp : Blk w pb [ptr q]) (ha : Blk w ab [.int .i64 (m.c.b + m.tl % m.c.s)]) (hg : Blk w gb [.int .u64 m.gap]) (hn : Blk w nb [.int .u64 m.c.nd]) (op : O pb) (oa : O ab) (og : O gb) (on : O nb) :
  Calls Tryz.prog 77 #[ptr pb, ptr ab, ptr gb, ptr nb] w fun e w' => e = .returned (.tuple #[]) ∧ SenTo w O q { m with pc := .pd } bv w' := by
 have H := Lib.hid h
 obtain ⟨b0, b1, b2, b3, b4, b5, b6, b7, b8⟩ := h.bd
 have hlt := h.lt
 have l0 := hp.lt
 have l1 := ha.lt
 have l2 := hg.lt
 have l3 := hn.lt
 have n0 : pb ≠ q := fun e => h.nq (e ▸ op)
 have n1 : ab ≠ q := fun e => h.nq (e ▸ oa)
 have n2 : gb ≠ q := fun e => h.nq (e ▸ og)
 have n3 : nb ≠ q := fun e => h.nq (e ▸ on)
 have P0 := Lib.hid hp
 have G0 := Lib.hid hg
 have N0 := Lib.hid hn
 have p0 := hp.cell 0
 have t0 := ha.cell 0
 have g0 := hg.cell 0
 simp only [List.getElem?_cons_zero, ptr] at p0 t0 g0
 have m1 := Int.emod_nonneg m.tl (show m.c.s ≠ 0 by omega)
 have m2 := Int.emod_lt_of_pos m.tl (show 0 < m.c.s by omega)
 obtain ⟨GP, hGP⟩ : ∃ g, g = m.gap := ⟨_, rfl⟩
 have hg0 : 0 ≤ GP ∧ GP ≤ 8192 := by rw [hGP]; unfold SenM.gap; omega
 rw [← hGP] at g0
 have HGP := Lib.hid hGP
 obtain ⟨AT, hAT⟩ : ∃ a, a = m.c.b + m.tl % m.c.s := ⟨_, rfl⟩
 rw [← hAT] at t0
 have HAT := Lib.hid hAT
 have W2 : IntKind.i32.wrap GP = GP := IntWalk.i32_in _ ⟨by omega, by omega⟩
 unfold ptr
 clear h hp ha hg hn b0 b1 hGP hAT
 go_enter Tryz.func77, Tryz.ntmps77
 go_wp2_with fail
 go_region_held3 (fun w' => w'.cell? ⟨pb, 0, none⟩ = some (.pointer (some ⟨q, 0, none⟩)) ∧ w'.cell? ⟨ab, 0, none⟩ = some (.int .i64 AT) ∧ w'.cell? ⟨gb, 0, none⟩ = some (.int .u64 GP)) (first | go_keep | trivial)
  (first
   | (go_at_call 78; refine (record_any GP (-1) _).mono ?_; rintro e w2 ⟨rfl, rfl⟩)
   | (go_at_call 74; refine (cStore_any q _ _ _ AT 8 _ _ _ _ H.out.drew.mch).mono ?_; rintro e w5 ⟨rfl, t5, m5, l5, k5⟩; have hd0 := fun o => k5.cell (b := pb) o (by simpa using l0) n0; have hd1 := fun o => k5.cell (b := ab) o (by simpa using l1) n1; have hd2 := fun o => k5.cell (b := gb) o (by simpa using l2) n2))
 all_goals
  clear hd0 hd1 hd2
  have z5 := k5.size
  simp at z5
  go_wp2
  go_end0
  refine ⟨rfl, SenAt.made (by nofun) (by rw [HGP.out, HAT.out] at m5; exact m5) ⟨_, l5.mono (fun i hi => .inr ⟨by have := hi.1; try simp at this; omega, hi.2⟩), Clo.mk3 ?_ (.inl op) ?_ (.inl og) ?_ (.inl on)⟩, ((Keep.refl _ w).drew).trans k5⟩
  ·exact (P0.out.drew).keep k5 n0
  ·exact (G0.out.drew).keep k5 n2
  ·exact (N0.out.drew).keep k5 n3
set_option maxHeartbeats 4000000 in
theorem sBegin_any (x : Int) (w : World) (h : SenW w O q m bv) :
  Calls Tryz.prog 38 #[ptr q, .int .u64 x] w fun e w' => e = .returned (.tuple #[]) ∧ SenTo w O q { m with tl := x, pc := if m.c.nd ≤ m.c.s - x % m.c.s then .is else .ip } bv w' := by
 have H := Lib.hid h
 obtain ⟨b0, b1, b2, b3, b4, b5, b6, b7, b8⟩ := h.bd
 have hlt := h.lt
 obtain ⟨c7, c8, c9, c10, c11, c12⟩ := sen_cells h.mch
 have f11 := Blk.frozen h.mch 11
 have hr := h.rd
 obtain ⟨s0, sl, sc, rfl⟩ : ∃ s0 sl sc, bv = .slice s0 sl sc := by
  rcases hr with ⟨rfl, _⟩ | ⟨_, _, rfl, _⟩ | ⟨_, _, _, rfl, _⟩
  ·exact ⟨_, _, _, rfl⟩
  ·exact ⟨_, _, _, rfl⟩
  ·exact ⟨_, _, _, rfl⟩
 have hsl := rd_len hr
 obtain ⟨ND, hND⟩ : ∃ N, N = m.c.nd := ⟨_, rfl⟩
 have hnd : szV (sl : Int) 8 8 = ND := by
  rw [hND]
  unfold PutC.nd
  rw [h.ok, if_pos rfl, hsl]
  exact alV8 (by omega) (by omega)
 rw [← hND] at b6 b7 ⊢
 have HND := Lib.hid hND
 obtain ⟨PL, hPL⟩ : ∃ p, p = x % m.c.s := ⟨_, rfl⟩
 have m1 := Int.emod_nonneg x (show m.c.s ≠ 0 by omega)
 have m2 := Int.emod_lt_of_pos x (show 0 < m.c.s by omega)
 rw [← hPL] at m1 m2 ⊢
 have HPL := Lib.hid hPL
 have HSZ := Lib.hid hnd
 have W1 : IntKind.u64.wrap ND = ND := IntWalk.u64_in _ ⟨by omega, by omega⟩
 have W2 : IntKind.i64.wrap (m.c.b + PL) = m.c.b + PL := IntWalk.i64_in _ ⟨by omega, by omega⟩
 have W3 : IntKind.i64.wrap (m.c.s - PL) = m.c.s - PL := IntWalk.i64_in _ ⟨by omega, by omega⟩
 have W4 : IntKind.u64.wrap (m.c.s - PL) = m.c.s - PL := IntWalk.u64_in _ ⟨by omega, by omega⟩
 have HM := Lib.hid (show mkS (wrap64 x) m.c.s = PL by rw [hPL]; unfold mkS; rw [if_pos b1, show wrap64 x = s64 x by unfold wrap64 s64; rfl]; exact s64_mod b0 x)
 clear h b0 b1 hr hsl hND hPL hnd
 unfold ptr
 go_enter Tryz.func38, Tryz.ntmps38
 go_upto_region 1 with fail
 obtain ⟨w1, hw1⟩ : ∃ w1, w1 = w.alloc (.cells #[.pointer (some ⟨q, 0, none⟩)] 35) := ⟨_, rfl⟩
 have b1 : Below w.heap.size w w1 := by rw [hw1]; go_grown
 have X1 := Lib.hid (show Blk w1 w.heap.size [.pointer (some ⟨q, 0, none⟩)] by rw [hw1]; exact Blk.made w _ _)
 have z1 : w1.heap.size = w.heap.size + 1 := by rw [hw1]; simp
 have B1 := Lib.hid b1
 have H1 := Lib.hid (H.out.below b1)
 have d10 := (b1.cell (p := ⟨q, 10, none⟩) hlt).trans c10
 have d8 := (b1.cell (p := ⟨q, 8, none⟩) hlt).trans c8
 have x0 := X1.out.cell 0
 simp only [List.getElem?_cons_zero] at x0
 have Z1 := Lib.hid z1
 rw [← hw1]
 clear hw1 b1 c7 c8 c9 c10 c11 c12 f11 z1
 have l1 : w.heap.size < w1.heap.size := by have := Z1.out; omega
 have l2 : q < w1.heap.size := by omega
 go_wp2_with fail
 refine (recordSize_any (sl : Int) _).mono ?_
 rintro e w' ⟨rfl, rfl⟩
 rw [HSZ.out]
 go_wp2_with fail
 refine (mask_any _ _ _ (by omega)).mono ?_
 rintro e w' ⟨rfl, rfl⟩
 rw [HM.out]
 obtain ⟨w2, hw2⟩ : ∃ w2, w2 = w1.alloc (.cells #[.int .u64 ND] 54) := ⟨_, rfl⟩
 have b2' : Below w1.heap.size w1 w2 := by rw [hw2]; go_grown
 have N2 := Lib.hid (show Blk w2 w1.heap.size [.int .u64 ND] by rw [hw2]; exact Blk.made w1 _ _)
 have z2 : w2.heap.size = w1.heap.size + 1 := by rw [hw2]; simp
 have B2 := Lib.hid (B1.out.trans (b2'.mono (by omega)))
 have H2 := Lib.hid (H1.out.below b2')
 have X2 := Lib.hid (X1.out.below b2' l1)
 rw [← hw2]
 clear hw2 b2' H1 X1 B1 d10 d8 x0
 have x0 := X2.out.cell 0
 have y0 := N2.out.cell 0
 simp only [List.getElem?_cons_zero] at x0 y0
 obtain ⟨e7, e8, _⟩ := sen_cells H2.out.mch
 have l3 : w.heap.size < w2.heap.size := by omega
 have l4 : q < w2.heap.size := by omega
 have l5 : w1.heap.size < w2.heap.size := by omega
 have Z2 := Lib.hid z2
 clear z2
 go_upto_region 4 with fail
 go_cut [8, 9] from 29 to 43 (fun va vg wx => ∃ ab gb, va = .pointer (some ⟨ab, 0, none⟩) ∧ vg = .pointer (some ⟨gb, 0, none⟩) ∧ Blk wx ab [.int .i64 (m.c.b + PL)] ∧ Blk wx gb [.int .u64 (m.c.s - PL)] ∧ w2.heap.size ≤ ab ∧ w2.heap.size ≤ gb ∧ Below w2.heap.size w2 wx)
 case first =>
  go_region
  ·go_wp2_with fail
   go_meet
   exact ⟨_, _, rfl, rfl, (Blk.made w2 #[.int .i64 (m.c.b + PL)] 3).alloc _, Blk.made2 w2 _ #[.int .u64 (m.c.s - PL)] 54, by simp, by simp, bel_drewN 1 (((Below.refl _ _).alloc (Nat.le_refl _) _).alloc (by simp) _)⟩
  ·go_wp2_with fail
   go_meet
   exact ⟨_, _, rfl, rfl, Blk.made2 w2 _ #[.int .i64 (m.c.b + PL)] 3, (Blk.made w2 #[.int .u64 (m.c.s - PL)] 54).alloc _, by simp, by simp, bel_drewN 1 (((Below.refl _ _).alloc (Nat.le_refl _) _).alloc (by simp) _)⟩
 case rest =>
  obtain ⟨ab, gb, rfl, rfl, ha, hg, la, lg, bb⟩ := hcut
  have zc := bb.size
  have AC := Lib.hid ha
  have GC := Lib.hid hg
  have NC := Lib.hid (N2.out.below bb l5)
  have XC := Lib.hid (X2.out.below bb l3)
  have BC := Lib.hid (B2.out.trans (bb.mono (by omega)))
  have HC := Lib.hid (H2.out.below bb)
  have lac := ha.lt
  have lgc := hg.lt
  have f11 := Blk.frozen HC.out.mch 11
  have c11 := Blk.cell HC.out.mch 11
  have x0 := XC.out.cell 0
  have y0 := NC.out.cell 0
  have v0 := hg.cell 0
  simp only [List.getElem?_cons_zero, SenM.rest, Acc.cs, accZ, List.cons_append, List.nil_append, List.getElem?_cons_succ] at x0 y0 v0 c11
  have lqc : q < wc.heap.size := by omega
  have lwc : w.heap.size < wc.heap.size := by omega
  have l1c : w1.heap.size < wc.heap.size := by omega
  have nw1 : ¬ w1.heap.size = q := by have := Z1.out; omega
  have nab : ab ≠ q := by omega
  have ngb : gb ≠ q := by omega
  clear e7 e8 ha hg bb N2 X2 H2 B2 l2 l3 l4 l5
  go_upto_region 6 with fail
  have z3 := wc.size_setCell ⟨q, 11, none⟩ (.int .u64 x)
  obtain ⟨w3, hw3⟩ : ∃ w3, w3 = wc.setCell ⟨q, 11, none⟩ (.int .u64 x) := ⟨_, rfl⟩
  rw [← hw3] at z3
  have k3 : Keep (· = q) wc w3 := by rw [hw3]; exact Keep.setCell (M := (· = q)) (Keep.refl _ wc) (p := ⟨q, 11, none⟩) (.inl rfl) _
  have H3 := Lib.hid (show SenW w3 O q { m with tl := x } (.slice s0 sl sc) by rw [hw3]; exact HC.out.put (m' := { m with tl := x }) 11 _ rfl rfl)
  have K3 := Lib.hid k3
  have A3 := Lib.hid (AC.out.keep k3 nab)
  have G3 := Lib.hid (GC.out.keep k3 ngb)
  have N3 := Lib.hid (NC.out.keep k3 nw1)
  have X3 := Lib.hid (XC.out.keep k3 (by show ¬ w.heap.size = q; omega))
  have x0 := X3.out.cell 0
  have y0 := N3.out.cell 0
  have v0 := G3.out.cell 0
  simp only [List.getElem?_cons_zero] at x0 y0 v0
  have KW := Lib.hid (show Keep (· = q) w w3 from (Below.keeps BC.out).trans k3)
  rw [← hw3]
  clear hw3 k3 c11 f11 AC GC NC XC HC BC lac lgc lqc lwc l1c
  have lq3 := H3.out.lt
  have lx3 := X3.out.lt
  have ln3 := N3.out.lt
  have lg3 := G3.out.lt
  have la3 := A3.out.lt
  have ZZ3 := Lib.hid z3
  clear z3
  by_cases hc : ND ≤ m.c.s - PL
  ·have HCC := Lib.hid hc
   go_wp2_with fail
   go_region_held3 (fun w' => w'.cell? ⟨w.heap.size, 0, none⟩ = some (.pointer (some ⟨q, 0, none⟩)) ∧ w'.cell? ⟨w1.heap.size, 0, none⟩ = some (.int .u64 ND)) (first | go_keep | trivial)
    (first
     | (go_at_call 37; refine (sEnd_any (m := { m with tl := x }) _ H3.out.drew).mono ?_; rintro e w4 ⟨rfl, b4⟩; have hc0 := fun o => b4.cell (p := ⟨w.heap.size, o, none⟩) (by simp; omega); have hc1 := fun o => b4.cell (p := ⟨w1.heap.size, o, none⟩) (by simp; omega))
     | (go_at_call 74; refine (cStore_any q _ _ _ (m.c.b + m.c.s) 8 _ _ _ _ (H3.out.drew.below b4).mch).mono ?_; rintro e w5 ⟨rfl, t5, m5, l5, k5⟩; have hd0 := fun o => k5.cell (b := w.heap.size) o (by have := b4.size; simp at this; omega) (by show ¬ w.heap.size = q; omega); have hd1 := fun o => k5.cell (b := w1.heap.size) o (by have := b4.size; simp at this; omega) nw1))
   all_goals
    have z4 := b4.size
    have z5 := k5.size
    simp at z4
    clear hc0 hc1 hd0 hd1
    go_wp2
    refine bodyPost_ret (v := .tuple #[]) (results_none rfl _ _ _) rfl ⟨rfl, ?_⟩
    have hpl := HPL.out
    have hnd := HND.out
    have zw := KW.out.size
    have zz1 := Z1.out
    have zz2 := Z2.out
    have zz3 := ZZ3.out
    refine ⟨SenAt.made (by nofun) (t := t5) (by rw [hnd] at m5; exact m5) ⟨_, l5.mono (fun i hi => .inr ⟨by have h9 := hi.1; have hz9 := KW.out.size; (try simp at h9); omega, hi.2⟩), Clo.mk3 (b := w.heap.size) (c := ab) ?_ (.inr ⟨Nat.le_refl _, by omega⟩) ?_ (.inr ⟨by omega, by omega⟩) ?_ (.inr ⟨by omega, by omega⟩)⟩, ((KW.out.drew).trans (Below.keeps b4)).trans k5⟩
    ·exact ((X3.out.drew).below b4 (by simp; omega)).keep k5 (by show ¬ w.heap.size = q; omega)
    ·show Blk w5 ab [.int .i64 (m.c.b + x % m.c.s)]
     rw [← hpl]
     exact ((A3.out.drew).below b4 (by simp; omega)).keep k5 nab
    ·show Blk w5 w1.heap.size [.int .u64 m.c.nd]
     rw [← hnd]
     exact ((N3.out.drew).below b4 (by simp; omega)).keep k5 nw1
  ·have HCC := Lib.hid hc
   go_wp2_with fail
   go_region_held3 (fun w' => w'.cell? ⟨w.heap.size, 0, none⟩ = some (.pointer (some ⟨q, 0, none⟩)) ∧ w'.cell? ⟨w1.heap.size, 0, none⟩ = some (.int .u64 ND) ∧ w'.cell? ⟨gb, 0, none⟩ = some (.int .u64 (m.c.s - PL))) (first | go_keep | trivial)
    (first
     | (go_at_call 37; refine (sEnd_any (m := { m with tl := x }) _ H3.out.drew).mono ?_; rintro e w4 ⟨rfl, b4⟩; have hc0 := fun o => b4.cell (p := ⟨w.heap.size, o, none⟩) (by simp; omega); have hc1 := fun o => b4.cell (p := ⟨w1.heap.size, o, none⟩) (by simp; omega); have hc2 := fun o => b4.cell (p := ⟨gb, o, none⟩) (by simp; omega))
     | (go_at_call 74; refine (cStore_any q _ _ _ (m.c.b + m.c.s) 8 _ _ _ _ (H3.out.drew.below b4).mch).mono ?_; rintro e w5 ⟨rfl, t5, m5, l5, k5⟩; have hd0 := fun o => k5.cell (b := w.heap.size) o (by have := b4.size; simp at this; omega) (by show ¬ w.heap.size = q; omega); have hd1 := fun o => k5.cell (b := w1.heap.size) o (by have := b4.size; simp at this; omega) nw1; have hd2 := fun o => k5.cell (b := gb) o (by have := b4.size; simp at this; omega) ngb))
   all_goals
    have z4 := b4.size
    have z5 := k5.size
    simp at z4
    clear hc0 hc1 hc2 hd0 hd1 hd2
    go_wp2
    go_end0
    refine ⟨rfl, ?_⟩
    have hpl := HPL.out
    have hnd := HND.out
    have zw := KW.out.size
    have zz1 := Z1.out
    have zz2 := Z2.out
    have zz3 := ZZ3.out
    refine ⟨SenAt.made (by nofun) (t := t5) (by rw [hpl, hnd] at m5; exact m5) ⟨_, l5.mono (fun i hi => .inr ⟨by have h9 := hi.1; have hz9 := KW.out.size; (try simp at h9); omega, hi.2⟩), Clo.mk4 (b := w.heap.size) (c := ab) ?_ (.inr ⟨Nat.le_refl _, by omega⟩) ?_ (.inr ⟨by omega, by omega⟩) ?_ (.inr ⟨by omega, by omega⟩) ?_ (.inr ⟨by omega, by omega⟩)⟩, ((KW.out.drew).trans (Below.keeps b4)).trans k5⟩
    ·exact ((X3.out.drew).below b4 (by simp; omega)).keep k5 (by show ¬ w.heap.size = q; omega)
    ·show Blk w5 ab [.int .i64 (m.c.b + x % m.c.s)]
     rw [← hpl]
     exact ((A3.out.drew).below b4 (by simp; omega)).keep k5 nab
    ·show Blk w5 gb [.int .u64 (m.c.s - x % m.c.s)]
     rw [← hpl]
     exact ((G3.out.drew).below b4 (by simp; omega)).keep k5 ngb
    ·show Blk w5 w1.heap.size [.int .u64 m.c.nd]
     rw [← hnd]
     exact ((N3.out.drew).below b4 (by simp; omega)).keep k5 nw1
end Go.Proofs.YtggjhleomocojaaGreat
namespace Go.Proofs.YtggjhleomocojaaGreat
open Go.RowKit
set_option linter.unusedVariables false
set_option linter.unusedSimpArgs false
def bts (bs : List Int) (a n : Nat) : List Int := (bs.drop a).take n
theorem bts_len {bs : List Int} {a n : Nat} (h : a + n ≤ bs.length) : (bts bs a n).length = n := by unfold bts; simp; omega
theorem bts_at {bs : List Int} {a n i : Nat} (hi : i < n) : gB (bts bs a n) i = gB bs (a + i) := by
 unfold bts
 rw [gB_takeR _ _ _ hi, gB_drop]
end Go.Proofs.YtggjhleomocojaaGreat
