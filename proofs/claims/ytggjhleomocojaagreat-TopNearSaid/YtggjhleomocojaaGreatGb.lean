/- Chains of machines, one behind the other: as plain machines, and what must be known of an owner in memory. Conditions: none. -/
import Derived.Test.YtggjhleomocojaaGreatQb
import Derived.Laws.OwnMore
import Derived.Test.YtggjhleomocojaaGreatSh
import Derived.Deep.RegionHeld3
import Derived.Test.YtggjhleomocojaaGreatOy
import Derived.Test.YtggjhleomocojaaGreatBd
import Derived.Test.YtggjhleomocojaaGreatKe
import Derived.Test.YtggjhleomocojaaGreatPd
namespace Go.Proofs.YtggjhleomocojaaGreat
set_option maxRecDepth 100000
open Go.RowKit
set_option linter.unusedVariables false
set_option linter.unusedSimpArgs false
theorem aaZ_wf : aaZ.wf := ⟨fun _ h => (List.not_mem_nil h).elim, by decide, by decide, by decide, by decide, by decide⟩
structure ChP (M : Mac) where
 τ : Type
 mo : τ → Option M.σ × τ
 en : M.σ → τ → τ
 fu : τ → Nat
 ok : τ → Prop
def ChP.settle {M : Mac} (c : ChP M) : Nat → Option M.σ × c.τ → Option M.σ × c.τ
 | 0, f => f
 | _ + 1, (none, t) => (none, t)
 | n + 1, (some m, t) => if M.live m then (some m, t) else c.settle n (c.mo (c.en m t))
def ChP.fin {M : Mac} (c : ChP M) (f : Option M.σ × c.τ) : Prop := ∀ m, f.1 = some m → M.live m = true
def ChP.start {M : Mac} (c : ChP M) (t : c.τ) : Option M.σ × c.τ := c.settle (c.fu t) (c.mo t)
def ChP.want {M : Mac} (c : ChP M) (f : Option M.σ × c.τ) : AA := match f.1 with
 | none => aaZ
 | some m => M.want m
def ChP.step {M : Mac} (c : ChP M) (f : Option M.σ × c.τ) (x : AN) : Option M.σ × c.τ := match f with
 | (none, t) => (none, t)
 | (some m, t) => c.settle (c.fu t) (some (M.step m x), t)
def ChP.mac {M : Mac} (c : ChP M) : Mac := ⟨Option M.σ × c.τ, fun f => f.1.isSome, c.want, c.step⟩
theorem ChP.settle_live {M : Mac} (c : ChP M) (n : Nat) (m : M.σ) (t : c.τ) (h : M.live m = true) : c.settle n (some m, t) = (some m, t) := by
 cases n with
 | zero => rfl
 | succ n => exact if_pos h
structure ChP.Enough {M : Mac} (c : ChP M) : Prop where
 all : ∀ m t, c.ok t → c.fin (c.settle (c.fu t) (some m, t))
 mo : ∀ t, c.fin (c.settle (c.fu t) (c.mo t))
def Mac.Q (M : Mac) : Mac := ⟨Nat × M.σ, fun s => M.live s.2, fun s => M.want s.2, fun s x => (s.1, M.step s.2 x)⟩
def Fam.Q (C : Fam) : Fam where
 M := C.M.Q
 inv := fun w F q s => q = s.1 ∧ C.inv w F q s.2
 ty := fun s => C.ty s.2
 fn := fun s => C.fn s.2
 ft := fun s => C.ft s.2
 mn := fun s b w => C.mn s.2 b w
 mt := fun s b w => C.mt s.2 b w
 en := fun s args w => C.en s.2 args w
 et := fun s args w => C.et s.2 args w
 ts := fun s x => C.ts s.2 x
 dom := fun h => C.dom h.2
 mono := fun h h1 h2 => ⟨h.1, C.mono h.2 h1 h2⟩
 keep := fun h k hd => ⟨h.1, C.keep h.2 k hd⟩
 wf := fun h => C.wf h.2
 next := fun h => C.next h.2
 take := fun {w F q s x s0 sl sc} h hl hx hr => by
  refine (C.take h.2 hl hx hr).mono ?_
  rintro e w' ⟨rfl, F', h1, h2, h3⟩
  exact ⟨rfl, F', ⟨h.1, h1⟩, h2, h3⟩
end Go.Proofs.YtggjhleomocojaaGreat
section
namespace Go.Proofs.YtggjhleomocojaaGreat
set_option maxRecDepth 100000
open Go.RowKit
set_option linter.unusedVariables false
set_option linter.unusedSimpArgs false
structure FilT where
 b : Int
 s : Int
 left : List (Int × List Int)
 tries : Int
 done : List Int
 places : List Int
def FilT.mo (t : FilT) : Option PutM := match t.left with
 | [] => none
 | x :: _ => some (PutC.init ⟨t.b, t.s, x.1, x.2⟩)
def FilT.en (t : FilT) (m : PutM) : FilT := if m.e = 5 ∧ 0 < t.tries then { t with tries := t.tries - 1 } else { t with left := t.left.tail, done := t.done ++ [m.e], places := if m.e = 0 then t.places ++ [m.rv] else t.places }
structure FilM where
 cur : Option PutM
 t : FilT
def FilM.settle : Nat → FilM → FilM
 | 0, f => f
 | n + 1, ⟨none, t⟩ => ⟨none, t⟩
 | n + 1, ⟨some m, t⟩ => if m.live then ⟨some m, t⟩ else FilM.settle n ⟨(t.en m).mo, t.en m⟩
def FilM.fin (f : FilM) : Prop := match f.cur with
 | none => True
 | some m => m.live = true
def FilM.live (f : FilM) : Bool := f.cur.isSome
def FilM.want (f : FilM) : AA := match f.cur with
 | none => aaZ
 | some m => m.want
def FilM.fu (f : FilM) : Nat := f.t.left.length + 2
def FilM.step (f : FilM) (x : AN) : FilM := match f.cur with
 | none => f
 | some m => FilM.settle f.fu ⟨some (m.step x), f.t⟩
def RdMs (w : World) (L : Nat → Prop) (v : Value) (l : List (Int × List Int)) : Prop :=
 (∃ a0 cap0, v = .slice a0 0 cap0 ∧ l = [] ∧ cap0 ≤ maxLen) ∨ ∃ g off cap, v = .slice (some ⟨g, off, none⟩) l.length cap ∧ l.length ≤ cap ∧ cap ≤ maxLen ∧ L g ∧ g < w.heap.size ∧
  ∀ i x, l[i]? = some x → ∃ s0 sl sc, w.cell? ⟨g, off + i * 2, none⟩ = some (.int .i32 x.1) ∧ w.cell? ⟨g, off + i * 2 + 1, none⟩ = some (.slice s0 sl sc) ∧ RdB w (.slice s0 sl sc) x.2 ∧ (x.2.length ≠ 0 → ∀ j, (Value.slice s0 sl sc).ownBlock = some j → L j)
theorem RdMs.keep {w w' : World} {L K : Nat → Prop} {v : Value} {l : List (Int × List Int)} (h : RdMs w L v l) (k : Keep K w w') (hd : ∀ i, L i → ¬ K i) : RdMs w' L v l := by
 rcases h with h | ⟨g, off, cap, e1, e2, e3, e4, e5, e6⟩
 ·exact .inl h
 ·refine .inr ⟨g, off, cap, e1, e2, e3, e4, Nat.lt_of_lt_of_le e5 k.size, fun i x hx => ?_⟩
  obtain ⟨s0, sl, sc, h1, h2, h3, h4⟩ := e6 i x hx
  exact ⟨s0, sl, sc, (k.cell _ e5 (hd g e4)).trans h1, (k.cell _ e5 (hd g e4)).trans h2, h3.keep k (fun h0 j hj => hd j (h4 h0 j hj)), h4⟩
theorem RdMs.sl {w : World} {L : Nat → Prop} {v : Value} {l : List (Int × List Int)} (h : RdMs w L v l) : ∃ a c, v = .slice a l.length c ∧ l.length ≤ c ∧ c ≤ maxLen := by
 rcases h with ⟨a0, cap0, rfl, rfl, hm⟩ | ⟨g, off, cap, e1, e2, e3, _⟩
 ·exact ⟨a0, cap0, rfl, Nat.zero_le _, hm⟩
 ·exact ⟨_, _, e1, e2, e3⟩
end Go.Proofs.YtggjhleomocojaaGreat
end
namespace Go.Proofs.YtggjhleomocojaaGreat
set_option maxRecDepth 100000
open Go.ChangeShapes Go.WideShapes Go.ChangeAt Go.RowKit
set_option linter.unusedVariables false
theorem i32_bm {a : Int} (h : (Lit.int .i32 a).wf = true) : -2147483648 ≤ a ∧ a ≤ 2147483647 := by
 simpa [Lit.wf, IntKind.min, IntKind.max, IntKind.signed, IntKind.bits] using h
theorem cellsMi : Tryz.prog.cellsOf 21 = 1 := by kernel_rfl
theorem cellsMsg : Tryz.prog.cellsOf 34 = 2 := by kernel_rfl
structure MsgV where
 t : Int
 s : Value
 b : List Int
def MsgV.cs (x : MsgV) : List Value := [.int .i32 x.t, x.s]
structure MsgV.Ok (w : World) (x : MsgV) : Prop where
 t : -2147483648 ≤ x.t ∧ x.t ≤ 2147483647
 s : ∃ a n c, x.s = .slice a n c
 r : RdB w x.s x.b
 b : IsB x.b
variable {W : World} {v : Value}
theorem open_msgsV {H : Type} {enc : TypeId × Value → H} {base : Nat} {d : DataW H} {p : List MemPlace} 
  (hval : Value.okWide Tryz.prog W .any base 22 v) (h : DataW.Trod enc Tryz.prog W 0 (fun _ => true) true 22 v d p) :
  ∃ L : List MsgV, RdR W v 2 (L.map MsgV.cs) ∧ ∀ x ∈ L, MsgV.Ok W x := by
 obtain ⟨L, hr, hL⟩ := open_rows 2 Tryz.underlying22 cellsMsg (by decide) hval h
 obtain ⟨Js, rfl, hJ⟩ := rows_map (MsgV.Ok W) MsgV.cs L (fun i l hi => by
  obtain ⟨hl, fuel, y, ht⟩ := hL i l hi
  obtain ⟨c0, c1, rfl⟩ : ∃ c0 c1, l = [c0, c1] := by
   match l, hl with
   | [c0, c1], _ => exact ⟨c0, c1, rfl⟩
  obtain ⟨fu, hfs⟩ := fields_of Tryz.underlying34 ht
  simp only [List.mem_cons, List.not_mem_nil, or_false, forall_eq_or_imp, forall_eq, cellsMi, cellsAS] at hfs
  obtain ⟨⟨y0, h0⟩, ⟨y1, h1⟩⟩ := hfs
  simp at h0 h1
  obtain ⟨k, rfl, w0⟩ := int_of Tryz.underlying21 h0
  obtain ⟨s0, sl, sc, b, rfl, hr, hb⟩ := bytes_at h1
  exact ⟨⟨k, .slice s0 sl sc, b⟩, rfl, i32_bm w0, ⟨_, _, _, rfl⟩, hr, hb⟩)
 exact ⟨Js, hr, hJ⟩
theorem msgs_rd {L : List MsgV} (h : RdR W v 2 (L.map MsgV.cs)) (hL : ∀ x ∈ L, MsgV.Ok W x) : RdMs W (fun i => i < W.heap.size) v (L.map fun x => (x.t, x.b)) := by
 rcases h with ⟨rfl, e⟩ | ⟨a, cap, rfl, e, hm⟩ | ⟨g, off, cap, e1, e2, e3, e4⟩
 ·have : L = [] := by simpa using e
  subst this
  exact .inl ⟨none, 0, rfl, rfl, Nat.zero_le _⟩
 ·have : L = [] := by simpa using e
  subst this
  exact .inl ⟨_, cap, rfl, rfl, hm⟩
 ·rw [List.length_map] at e1 e2
  by_cases h0 : L.length = 0
  ·have : L = [] := List.eq_nil_of_length_eq_zero h0
   subst this
   exact .inl ⟨_, cap, e1, rfl, e3⟩
  have hcell : ∀ i x, L[i]? = some x → W.cell? ⟨g, off + i * 2, none⟩ = some (.int .i32 x.t) ∧ W.cell? ⟨g, off + i * 2 + 1, none⟩ = some x.s := fun i x hx => by
   have h1 : (L.map MsgV.cs)[i]? = some x.cs := by rw [List.getElem?_map, hx]; rfl
   exact ⟨by have := e4 i _ h1 0 _ rfl; simpa using this, e4 i _ h1 1 _ rfl⟩
  have hg : g < W.heap.size := World.block_lt_of_cell? _ _ (hcell 0 (L[0]'(by omega)) (List.getElem?_eq_getElem (by omega))).1
  refine .inr ⟨g, off, cap, by rw [List.length_map]; exact e1, by rw [List.length_map]; exact e2, e3, hg, hg, fun i x hx => ?_⟩
  rw [List.getElem?_map] at hx
  obtain ⟨y, hy, rfl⟩ := Option.map_eq_some_iff.1 hx
  obtain ⟨c0, c1⟩ := hcell i y hy
  have ok := hL y (List.mem_of_getElem? hy)
  obtain ⟨s0, sl, sc, es⟩ := ok.s
  have hr := ok.r
  rw [es] at c1 hr
  exact ⟨s0, sl, sc, c0, c1, hr, fun hn j hj => hr.blk hn j hj⟩
theorem open_msgs {H : Type} {enc : TypeId × Value → H} {base : Nat} {d : DataW H} {p : List MemPlace} 
  (hval : Value.okWide Tryz.prog W .any base 22 v) (h : DataW.Trod enc Tryz.prog W 0 (fun _ => true) true 22 v d p) :
  ∃ l : List (Int × List Int), RdMs W (fun i => i < W.heap.size) v l ∧ ∀ x ∈ l, (-2147483648 ≤ x.1 ∧ x.1 ≤ 2147483647) ∧ IsB x.2 := by
 obtain ⟨L, hr, hL⟩ := open_msgsV hval h
 refine ⟨_, msgs_rd hr hL, fun x hx => ?_⟩
 obtain ⟨y, hy, rfl⟩ := List.mem_map.1 hx
 exact ⟨(hL y hy).t, (hL y hy).b⟩
structure LsV where
 s : Value
 l : List (Int × List Int)
def LsV.cs (x : LsV) : List Value := [x.s]
structure LsV.Ok (w : World) (x : LsV) : Prop where
 s : ∃ a n c, x.s = .slice a n c
 r : RdMs w (fun i => i < w.heap.size) x.s x.l
 b : ∀ y ∈ x.l, (-2147483648 ≤ y.1 ∧ y.1 ≤ 2147483647) ∧ IsB y.2
end Go.Proofs.YtggjhleomocojaaGreat
section
namespace Go.Proofs.YtggjhleomocojaaGreat
open Go.RowKit
set_option linter.unusedVariables false
theorem gB_drop (l : List Int) (a i : Nat) : gB (l.drop a) i = gB l (a + i) := by simp [gB, List.getD]
theorem gB_takeR (l : List Int) (n i : Nat) (h : i < n) : gB (l.take n) i = gB l i := by simp [gB, List.getD, h]
theorem gB_app1 (l m : List Int) (i : Nat) (h : i < l.length) : gB (l ++ m) i = gB l i := by simp [gB, List.getD, List.getElem?_append_left h]
theorem gB_app2 (l m : List Int) (i : Nat) (h : l.length ≤ i) : gB (l ++ m) i = gB m (i - l.length) := by simp [gB, List.getD, List.getElem?_append_right h]
theorem gB_ext {l m : List Int} (hl : l.length = m.length) (h : ∀ i, i < l.length → gB l i = gB m i) : l = m := by
 apply List.ext_getElem hl
 intro i h1 h2
 have := h i h1
 simpa [gB, List.getD, h1, h2] using this
def zs (n : Nat) : List Int := List.replicate n 0
def rcB (hd : Int) (d : List Int) (N : Nat) : List Int := leB hd 8 ++ (d ++ zs (N - 8 - d.length))
theorem zs_drop (n k : Nat) : (zs n).drop k = zs (n - k) := by simp [zs]
theorem zs_take (n k : Nat) : (zs n).take k = zs (min k n) := by simp [zs]
theorem recS_lo (n t : Int) (h0 : -2147483648 ≤ n) (h1 : n ≤ 2147483647) : loS (recS n t) = n := by
 unfold loS recS wrap32
 omega
theorem recS_hi (n t : Int) (h0 : -2147483648 ≤ t) (h1 : t ≤ 2147483647) : hiS (recS n t) = t := by
 unfold hiS recS wrap32
 omega
theorem rdN_far {bs ms : List Int} {a a' n : Nat} (h : a + ms.length ≤ bs.length) (hd : a' + n ≤ a ∨ a + ms.length ≤ a') : rdN (spl bs a ms) a' n = rdN bs a' n := by
 unfold rdN
 congr 1
 have hl := spl_len bs a ms h
 apply gB_ext
 ·simp [hl]
 ·intro i hi
  simp at hi
  rw [gB_takeR _ _ _ (by omega), gB_takeR _ _ _ (by omega), gB_drop, gB_drop]
  rcases hd with hd | hd
  ·exact spl_lt _ _ _ h _ (by omega)
  ·exact spl_ge _ _ _ h _ (by omega)
theorem rdN_at {bs ms : List Int} {a : Nat} (h : a + ms.length ≤ bs.length) : rdN (spl bs a ms) a ms.length = leN ms := by
 unfold rdN
 congr 1
 have hl := spl_len bs a ms h
 apply gB_ext
 ·simp [hl]
  omega
 ·intro i hi
  simp at hi
  rw [gB_takeR _ _ _ (by omega), gB_drop, spl_in _ _ _ h _ (by omega) (by omega)]
  congr 1
  omega
theorem rdN_num {bs : List Int} {a : Nat} {v : Int} (h : a + 8 ≤ bs.length) (h0 : 0 ≤ v) (h1 : v ≤ 18446744073709551615) : rdN (spl bs a (leB v 8)) a 8 = v := by
 have h9 := rdN_at (bs := bs) (ms := leB v 8) (a := a) (by rw [leB_length]; exact h)
 rw [leB_length] at h9
 rw [h9, leN_leB]
 have e : (256 : Int) ^ 8 = 18446744073709551616 := by decide
 rw [e]
 omega
theorem acE_at {size k a n l : Int} (hk : (k = 1 ∨ k = 2 ∨ k = 4) ∧ (n = 4 ∨ n = 8) ∨ k = 5 ∧ 0 ≤ n ∧ n ≤ 8 ∨ k = 6 ∧ n = l ∧ n ≤ 8) (h0 : 0 ≤ a) (h1 : a + n ≤ size) (hn0 : 0 ≤ n) (hal : k < 5 → a % n = 0) : acE size k a n l = 0 := by
 have hs : acSized k n l = true := by
  unfold acSized
  rcases hk with ⟨hk, hn⟩ | ⟨rfl, hn, hn'⟩ | ⟨rfl, rfl, hn'⟩
  ·rw [if_pos hk]
   rcases hn with rfl | rfl <;> decide
  ·simp [hn, hn']
  ·simp [hn']
 unfold acE
 rw [if_neg (by rw [hs]; nofun), if_neg (by omega), if_neg (by intro ⟨h, h'⟩; exact h' (hal h))]
end Go.Proofs.YtggjhleomocojaaGreat
end
section
namespace Go.Proofs.YtggjhleomocojaaGreat
open Go.RowKit
set_option linter.unusedVariables false
inductive Slot where
 | z (n : Nat)
 | p (n : Nat) (l : Int) (r : List Int)
 | b (t : Int) (d : List Int) (n k : Nat)
 | w (t : Int) (d : List Int) (n : Nat)
def Slot.n : Slot → Nat
 | .z n => n
 | .p n _ _ => n
 | .b _ _ n _ => n
 | .w _ _ n => n
def Slot.row : Slot → List Int
 | .z n => zs n
 | .p _ l r => leB (recS l (-1)) 8 ++ r
 | .b t d n k => rcB (recS (-(8 + (d.length : Int))) t) (d.take k) n
 | .w t d n => rcB (recS (8 + (d.length : Int)) t) d n
def Slot.fin : Slot → Bool
 | .p _ _ _ => true
 | .w _ _ _ => true
 | _ => false
def Slot.isP : Slot → Bool
 | .p _ _ _ => true
 | _ => false
def Slot.good : Slot → Prop
 | .z _ => True
 | .p n l r => IsB r ∧ r.length = n - 8 ∧ 8 ≤ l ∧ (l + 7) / 8 * 8 = n
 | .b t d n k => IsB d ∧ 1 ≤ t ∧ t ≤ 2147483647 ∧ n = (d.length + 15) / 8 * 8 ∧ k ≤ d.length
 | .w t d n => IsB d ∧ 1 ≤ t ∧ t ≤ 2147483647 ∧ n = (d.length + 15) / 8 * 8
structure Slot.ok (x : Slot) : Prop where
 n0 : 8 ≤ x.n
 n8 : x.n % 8 = 0
 n1 : x.n ≤ 8192
 good : x.good
def Slot.hdr (x : Slot) : Int := leN (x.row.take 8)
def ln : List (Slot × Nat) → Nat
 | [] => 0
 | x :: r => x.1.n + ln r
def rows (A : List (Slot × Nat)) : List (List Int) := A.map fun x => x.1.row
structure Its (A : List (Slot × Nat)) (i j : Nat) (pad : Slot → Bool) (x : Slot) (m : PutM) : Prop where
 at_ : A[j]? = some (x, i)
 cl : m.cl = true
 pos : m.pos = (ln (A.take j) : Nat)
 uq : ∀ j' y, A[j']? = some (y, i) → j' = j ∨ (j' + 1 = j ∧ pad y = true)
theorem leN_zs0 : ∀ k, leN (zs k) = 0
 | 0 => rfl
 | k + 1 => by
  have e : zs (k + 1) = 0 :: zs k := rfl
  rw [e]
  show (0 : Int) + 256 * leN (zs k) = 0
  rw [leN_zs0 k]
  rfl
theorem rdN_zs0 (N a n : Nat) : rdN (zs N) a n = 0 := by
 unfold rdN
 rw [zs_drop, zs_take, leN_zs0]
def PutM.pre (m : PutM) : Bool := match m.pc with
 | .hd0 => true
 | .tl => true
 | .rm _ => true
 | .rs _ _ => true
 | .ph _ => true
 | .ps _ _ => true
 | .cs _ _ => true
 | _ => false
end Go.Proofs.YtggjhleomocojaaGreat
end
namespace Go.Proofs.YtggjhleomocojaaGreat
open Go.RowKit
set_option linter.unusedVariables false
def PutM.behind (A : List (Slot × Nat)) (m : PutM) : Prop := m.pre = true ∨ (m.live = false ∧ m.e ≠ 0) ∨ m.pos + m.c.nd = (ln A : Nat)
end Go.Proofs.YtggjhleomocojaaGreat
namespace Go.Proofs.YtggjhleomocojaaGreat
open Go.RowKit
set_option linter.unusedVariables false
structure Pt where
 p : Int
 t : Int
 d : List Int
def Pt.lt (p : Pt) (q : Pt) : Bool := decide (q.p < p.p)
end Go.Proofs.YtggjhleomocojaaGreat
namespace Go.Proofs.YtggjhleomocojaaGreat
open Go.RowKit
set_option linter.unusedVariables false
def cnt0 (L : List Int) : Nat := (L.filter fun e => e == 0).length
structure FR (b s : Int) (P : List PutM) (G : List (Nat × Nat)) (i : Nat) (l : List (Int × List Int)) (c : Nat) (f : Option PutM × FilT) : Prop where
 gl : G.length = P.length
 hb : f.2.b = b
 hs : f.2.s = s
 left : f.2.left = l.drop f.2.done.length
 nn : f.2.done.length ≤ l.length
 pl : f.2.places.length = cnt0 f.2.done
 cur : ∀ m, f.1 = some m → G[c]? = some (i, f.2.done.length) ∧ P[c]? = some m ∧ f.2.done.length < l.length
 live : ∀ (j n : Nat) (m : PutM), G[j]? = some (i, n) → P[j]? = some m → m.live = true → j = c ∧ f.1 = some m
 cs : ∀ (j n : Nat) (m : PutM), G[j]? = some (i, n) → P[j]? = some m → ∃ x, l[n]? = some x ∧ m.c = ⟨b, s, x.1, x.2⟩
 okj : ∀ (j n : Nat) (m : PutM), G[j]? = some (i, n) → P[j]? = some m → m.e = 0 → ¬ (j = c ∧ f.1.isSome = true) → f.2.done[n]? = some 0 ∧ f.2.places[cnt0 (f.2.done.take n)]? = some m.pos
 ok : ∀ n : Nat, f.2.done[n]? = some 0 → ∃ (j : Nat) (m : PutM), G[j]? = some (i, n) ∧ P[j]? = some m ∧ m.e = 0 ∧ f.2.places[cnt0 (f.2.done.take n)]? = some m.pos
end Go.Proofs.YtggjhleomocojaaGreat
namespace Go.Proofs.YtggjhleomocojaaGreat
open Go.RowKit
set_option linter.unusedVariables false
theorem chain_runs {M : Mac} (c : ChP M) {t : c.τ} {m m' : M.σ} {bs bs' : List Int} {n : Nat} (h : Runs M m bs n m' bs') (hl : M.live m = true) (hd : M.live m' = false) (hf : ∀ m2, M.live m2 = true → c.settle (c.fu t) (some m2, t) = (some m2, t)) : Runs c.mac ((some m, t) : Option M.σ × c.τ) bs n (c.settle (c.fu t) (some m', t)) bs' := by
 induction h with
 | refl s bs => rw [hl] at hd; cases hd
 | @step s bs n s' bs' h1 he hr ih =>
  refine .step (M := c.mac) rfl he ?_
  show Runs c.mac (c.settle (c.fu t) (some (M.step s ((M.want s).ans bs)), t)) ((M.want s).out bs) n _ bs'
  by_cases hv : M.live (M.step s ((M.want s).ans bs)) = true
  ·rw [hf _ hv]
   exact ih hv hd
  ·have hv' : M.live (M.step s ((M.want s).ans bs)) = false := by simpa using hv
   cases hr with
   | refl => exact .refl _ _
   | step h2 _ _ => rw [hv'] at h2; cases h2
end Go.Proofs.YtggjhleomocojaaGreat
namespace Go.Proofs.YtggjhleomocojaaGreat
set_option maxRecDepth 100000
open Go.RowKit
set_option linter.unusedVariables false
set_option linter.unusedSimpArgs false
inductive HPc where
 | done
 | tl
 | va
 | lt
 | hd
 | pv (sz : Int)
 | rd (sz typ p n : Int) (hv : List Int)
 | bv (sz typ : Int) (l : List Int)
structure HeaM where
 b : Int
 s : Int
 pc : HPc
 cu : Int
 nx : Int
 la : Int
 c : Int
 pads : Int
 msg : Int × List Int
 heard : Bool
 e : Int
def HeaM.live (m : HeaM) : Bool := match m.pc with
 | .done => false
 | _ => true
def HeaM.place (m : HeaM) : Int := m.c % m.s
def HeaM.over (m : HeaM) (v : Int) : Prop := m.s ≤ s64 (u64 (v - m.c))
instance (m : HeaM) (v : Int) : Decidable (m.over v) := by unfold HeaM.over; exact inferInstance
def HeaM.lost (m : HeaM) : HeaM := { m with la := s64 (m.la + 1), nx := s64 m.c, e := 9, pc := .done }
def HeaM.want (m : HeaM) : AA := match m.pc with
 | .done => aaZ
 | .tl => ⟨1, m.b + m.s + 8, 8, 0, 0, []⟩
 | .va => ⟨1, m.b + m.s, 8, 0, 0, []⟩
 | .lt => ⟨1, m.b + m.s + 16, 8, 0, 0, []⟩
 | .hd => ⟨1, m.b + m.place, 8, 0, 0, []⟩
 | .pv sz => ⟨1, m.b + m.s, 8, 0, 0, []⟩
 | .rd sz typ p n hv => ⟨5, p, min n 8, 0, 0, []⟩
 | .bv sz typ l => ⟨1, m.b + m.s, 8, 0, 0, []⟩
def HeaM.head (m : HeaM) (v : Int) : HeaM :=
 if loS v < 8 ∨ m.s - m.place < rsz (loS v) then m.lost
 else if hiS v = -1 then (if 0 < m.pads ∨ rsz (loS v) < m.s - m.place then m.lost else { m with pc := .pv (rsz (loS v)) })
 else if loS v - 8 < 1 then { m with pc := .bv (rsz (loS v)) (hiS v) [] }
 else { m with pc := .rd (rsz (loS v)) (hiS v) (m.b + m.place + 8) (loS v - 8) [] }
def HeaM.step (m : HeaM) (x : AN) : HeaM := match m.pc with
 | .done => m
 | .tl => if s64 (u64 (x.v - m.c)) ≤ 0 then { m with pc := .done, e := 0 } else { m with pc := .va }
 | .va => if m.over x.v then { m with pc := .lt, la := s64 (m.la + 1) } else { m with pc := .hd }
 | .lt => { m with pc := .hd, c := x.v }
 | .hd => m.head x.v
 | .pv sz => if m.over x.v then m.lost else { m with pc := .hd, pads := m.pads + 1, c := u64 (m.c + sz) }
 | .rd sz typ p n hv => if n ≤ 8 then { m with pc := .bv sz typ (hv ++ x.b) } else { m with pc := .rd sz typ (p + 8) (n - 8) (hv ++ x.b) }
 | .bv sz typ l => if m.over x.v then m.lost else { m with pc := .done, cu := s64 m.c, nx := s64 (s64 m.c + sz), msg := (typ, l), heard := true, e := 0 }
def heaMac : Mac := ⟨HeaM, HeaM.live, HeaM.want, HeaM.step⟩
structure EarV where
 cu : Int
 nx : Int
 la : Int
def HeaM.init (b s : Int) (x : EarV) : HeaM := if rgOk b s then ⟨b, s, .tl, x.cu, x.nx, x.la, u64 x.nx, 0, (0, []), false, 10⟩ else ⟨b, s, .done, x.cu, x.nx, x.la, 0, 0, (0, []), false, 1⟩
def HeaM.ear (m : HeaM) : EarV := ⟨m.cu, m.nx, m.la⟩
structure RelT where
 b : Int
 s : Int
 ear : EarV
 left : Int
 heard : List (Int × (Int × List Int))
 losses : Int
def RelT.mo (t : RelT) : Option HeaM × RelT := if t.left < 1 then (none, t) else (some (HeaM.init t.b t.s t.ear), { t with left := t.left - 1 })
def RelT.en (t : RelT) (m : HeaM) : RelT := { t with ear := m.ear, heard := if m.heard then t.heard ++ [(m.cu, m.msg)] else t.heard, losses := if m.e = 9 then t.losses + 1 else t.losses }
def relC : ChP heaMac where
 τ := RelT
 mo := fun t => t.mo
 en := fun m t => t.en m
 fu := fun t => t.left.toNat + 2
 ok := fun _ => True
def relL (n : Nat) (cur : Option HeaM) (t : RelT) : Option HeaM × RelT := match cur with
 | none => relC.settle n t.mo
 | some m => relC.settle n ((some m, t) : Option HeaM × RelT)
theorem rel_mo0 {t : RelT} (h : t.left < 1) : t.mo = (none, t) := if_pos h
theorem rel_mo1 {t : RelT} (h : ¬ t.left < 1) : t.mo = (some (HeaM.init t.b t.s t.ear), { t with left := t.left - 1 }) := if_neg h
theorem relL_live (n : Nat) {m : HeaM} (t : RelT) (h : m.live = true) : relL n (some m) t = (some m, t) := by
 unfold relL
 cases n with
 | zero => rfl
 | succ n => exact if_pos h
theorem relL_dead (n : Nat) {m : HeaM} (t : RelT) (h : m.live = false) : relL (n + 1) (some m) t = relL n none (t.en m) := by
 unfold relL
 exact if_neg (by show ¬ m.live = true; rw [h]; decide)
theorem relL_nil (n : Nat) {t : RelT} (h : t.left < 1) : relL n none t = (none, t) := by
 unfold relL
 rw [rel_mo0 h]
 cases n <;> rfl
theorem relL_cons (n : Nat) {t : RelT} (h : ¬ t.left < 1) : relL n none t = relL n (some (HeaM.init t.b t.s t.ear)) { t with left := t.left - 1 } := by
 unfold relL
 rw [rel_mo1 h]
end Go.Proofs.YtggjhleomocojaaGreat
namespace Go.Proofs.YtggjhleomocojaaGreat
set_option maxRecDepth 100000
open Go.RowKit
set_option linter.unusedVariables false
set_option linter.unusedSimpArgs false
set_option maxHeartbeats 1000000 in
theorem cLoad_bd (q : Nat) (c : Acc) (t : Value) (r : List Value) (a n : Int) (g : Nat) (gf gc : Array Value) (w : World) (h : Mch w q c t r) :
  Calls Tryz.prog 36 #[.pointer (some ⟨q, 0, none⟩), .int .i64 a, .int .i64 n, .func (.func g) gf gc] w fun e w' => e = .returned (.tuple #[]) ∧
   ∃ t', Mch w' q ⟨1, a, n, 0, 0, .slice none 0 0⟩ t' r ∧ Clo w' (fun k => w.heap.size ≤ k ∧ k < w'.heap.size) t' 73 [.func (.func g) gf gc] ∧ Keep (· = q) w w' := by
 have hlt := h.lt
 have H := Lib.hid h
 clear h
 go_enter Tryz.func36, Tryz.ntmps36
 go_wp2_with fail
 refine (cDo_any q c t r 1 a n 0 0 none 0 0 _ _ _ (Blk.alloc H.out _)).mono ?_
 rintro e w1 ⟨rfl, m1, k1⟩
 have z1 := k1.size
 simp at z1
 go_wp2
 go_end0
 refine ⟨rfl, _, m1, Clo.mk1 ((Blk.made w _ _).keep k1 (by show ¬ w.heap.size = q; omega)) ⟨Nat.le_refl _, by omega⟩, ((Keep.refl _ w).alloc _).trans k1⟩
set_option maxHeartbeats 1000000 in
theorem cStore_bd (q : Nat) (c : Acc) (t : Value) (r : List Value) (a n v : Int) (g : Nat) (gf gc : Array Value) (w : World) (h : Mch w q c t r) :
  Calls Tryz.prog 74 #[.pointer (some ⟨q, 0, none⟩), .int .i64 a, .int .i64 n, .int .u64 v, .func (.func g) gf gc] w fun e w' => e = .returned (.tuple #[]) ∧
   ∃ t', Mch w' q ⟨2, a, n, v, 0, .slice none 0 0⟩ t' r ∧ Clo w' (fun k => w.heap.size ≤ k ∧ k < w'.heap.size) t' 107 [.func (.func g) gf gc] ∧ Keep (· = q) w w' := by
 have hlt := h.lt
 have H := Lib.hid h
 clear h
 go_enter Tryz.func74, Tryz.ntmps74
 go_wp2_with fail
 refine (cDo_any q c t r 2 a n v 0 none 0 0 _ _ _ (Blk.alloc H.out _)).mono ?_
 rintro e w1 ⟨rfl, m1, k1⟩
 have z1 := k1.size
 simp at z1
 go_wp2
 go_end0
 refine ⟨rfl, _, m1, Clo.mk1 ((Blk.made w _ _).keep k1 (by show ¬ w.heap.size = q; omega)) ⟨Nat.le_refl _, by omega⟩, ((Keep.refl _ w).alloc _).trans k1⟩
set_option maxHeartbeats 1000000 in
theorem loadK_bd (tb g : Nat) (gx : Value) (v : Int) (d : Bool) (s0 : Option Addr) (sl sc : Nat) (w : World) (h : Blk w tb [.func (.func g) #[gx] #[]]) (hen : En g) (Q : World → Prop)
  (hF : ∀ w1, Below w.heap.size w w1 → Calls Tryz.prog g #[gx, .int .u64 v] w1 fun e w' => e = .returned (.tuple #[]) ∧ Q w') :
  Calls Tryz.prog 73 #[.agg #[.int .u64 v, .bool d, .slice s0 sl sc], ptr tb] w fun e w' => e = .returned (.tuple #[]) ∧ Q w' := by
 have HF := Lib.hid hF
 have hlt := h.lt
 have c0 := h.cell 0
 simp only [List.getElem?_cons_zero] at c0
 unfold ptr
 unfold En at hen
 clear hF h
 go_enter Tryz.func73, Tryz.ntmps73
 go_wp2_with fail
 refine (HF.out _ (by go_grown)).mono ?_
 rintro e w' ⟨rfl, hQ⟩
 go_wp2
 go_end0
 exact ⟨rfl, hQ⟩
set_option maxHeartbeats 1000000 in
theorem storeK_bd (tb g : Nat) (gx : Value) (v : Int) (d : Bool) (s0 : Option Addr) (sl sc : Nat) (w : World) (h : Blk w tb [.func (.func g) #[gx] #[]]) (hen : En g) (Q : World → Prop)
  (hF : ∀ w1, Below w.heap.size w w1 → Calls Tryz.prog g #[gx] w1 fun e w' => e = .returned (.tuple #[]) ∧ Q w') :
  Calls Tryz.prog 107 #[.agg #[.int .u64 v, .bool d, .slice s0 sl sc], ptr tb] w fun e w' => e = .returned (.tuple #[]) ∧ Q w' := by
 have HF := Lib.hid hF
 have hlt := h.lt
 have c0 := h.cell 0
 simp only [List.getElem?_cons_zero] at c0
 unfold ptr
 unfold En at hen
 clear hF h
 go_enter Tryz.func107, Tryz.ntmps107
 go_wp2_with fail
 refine (HF.out _ (by go_grown)).mono ?_
 rintro e w' ⟨rfl, hQ⟩
 go_wp2
 go_end0
 exact ⟨rfl, hQ⟩
theorem takeLoadB (O : Nat → Prop) (q : Nat) (c : Acc) (t : Value) (r : List Value) (g : Nat) (gx : Value) (v : Int) (d : Bool) (s0 : Option Addr) (sl sc : Nat) (w : World) (h : Mch w q c t r) (ht : Clo w O t 73 [.func (.func g) #[gx] #[]]) (hq : ¬ O q) (hen : En g) (Q : World → Prop)
  (hF : ∀ w1, Mch w1 q accZ .nilFunc r → Keep (· = q) w w1 → Calls Tryz.prog g #[gx, .int .u64 v] w1 fun e w' => e = .returned (.tuple #[]) ∧ Q w') :
  Calls Tryz.prog 192 #[.pointer (some ⟨q, 0, none⟩), .agg #[.int .u64 v, .bool d, .slice s0 sl sc]] w fun e w' => e = .returned (.tuple #[]) ∧ Q w' := by
 obtain ⟨tb, rfl, hb, ho⟩ := ht.c1
 have nq : ¬ tb = q := fun e => hq (e ▸ ho)
 refine cTake_any q _ _ _ r v d s0 sl sc w h (fun w1 => enLoad _ w1) Q ?_
 intro w1 m1 k1
 exact loadK_bd tb g gx v d s0 sl sc w1 (hb.keep k1 nq) hen Q fun w2 b2 => hF w2 (Blk.below m1 b2 m1.lt) (k1.trans (Below.keeps b2))
theorem takeStoreB (O : Nat → Prop) (q : Nat) (c : Acc) (t : Value) (r : List Value) (g : Nat) (gx : Value) (v : Int) (d : Bool) (s0 : Option Addr) (sl sc : Nat) (w : World) (h : Mch w q c t r) (ht : Clo w O t 107 [.func (.func g) #[gx] #[]]) (hq : ¬ O q) (hen : En g) (Q : World → Prop)
  (hF : ∀ w1, Mch w1 q accZ .nilFunc r → Keep (· = q) w w1 → Calls Tryz.prog g #[gx] w1 fun e w' => e = .returned (.tuple #[]) ∧ Q w') :
  Calls Tryz.prog 192 #[.pointer (some ⟨q, 0, none⟩), .agg #[.int .u64 v, .bool d, .slice s0 sl sc]] w fun e w' => e = .returned (.tuple #[]) ∧ Q w' := by
 obtain ⟨tb, rfl, hb, ho⟩ := ht.c1
 have nq : ¬ tb = q := fun e => hq (e ▸ ho)
 refine cTake_any q _ _ _ r v d s0 sl sc w h (fun w1 => enStore _ w1) Q ?_
 intro w1 m1 k1
 exact storeK_bd tb g gx v d s0 sl sc w1 (hb.keep k1 nq) hen Q fun w2 b2 => hF w2 (Blk.below m1 b2 m1.lt) (k1.trans (Below.keeps b2))
end Go.Proofs.YtggjhleomocojaaGreat
