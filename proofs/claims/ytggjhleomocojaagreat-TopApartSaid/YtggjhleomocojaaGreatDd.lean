/- Chains of machines, one behind the other: as plain machines, and what must be known of an owner in memory. Conditions: none. -/
import Derived.Test.YtggjhleomocojaaGreatQb
import Derived.Laws.OwnMore
import Derived.Test.YtggjhleomocojaaGreatSh
import Derived.Deep.RegionHeld3
namespace Go.Proofs.YtggjhleomocojaaGreat
set_option maxRecDepth 100000
open Go.RowKit
set_option linter.unusedVariables false
set_option linter.unusedSimpArgs false
theorem aaZ_wf : aaZ.wf := ⟨fun _ h => (List.not_mem_nil h).elim, by decide, by decide, by decide, by decide, by decide⟩
structure ChP (M : Mac) where
 τ : Type
 mo : τ → Option M.σ × τ
 en : M.σ → τ → τ
 fu : τ → Nat
 ok : τ → Prop
def ChP.settle {M : Mac} (c : ChP M) : Nat → Option M.σ × c.τ → Option M.σ × c.τ
 | 0, f => f
 | _ + 1, (none, t) => (none, t)
 | n + 1, (some m, t) => if M.live m then (some m, t) else c.settle n (c.mo (c.en m t))
def ChP.fin {M : Mac} (c : ChP M) (f : Option M.σ × c.τ) : Prop := ∀ m, f.1 = some m → M.live m = true
def ChP.okay {M : Mac} (c : ChP M) (f : Option M.σ × c.τ) : Prop := f.1.isSome = true → c.ok f.2
def ChP.start {M : Mac} (c : ChP M) (t : c.τ) : Option M.σ × c.τ := c.settle (c.fu t) (c.mo t)
def ChP.want {M : Mac} (c : ChP M) (f : Option M.σ × c.τ) : AA := match f.1 with
 | none => aaZ
 | some m => M.want m
def ChP.step {M : Mac} (c : ChP M) (f : Option M.σ × c.τ) (x : AN) : Option M.σ × c.τ := match f with
 | (none, t) => (none, t)
 | (some m, t) => c.settle (c.fu t) (some (M.step m x), t)
def ChP.mac {M : Mac} (c : ChP M) : Mac := ⟨Option M.σ × c.τ, fun f => f.1.isSome, c.want, c.step⟩
variable {M : Mac}
theorem ChP.settle_none (c : ChP M) (n : Nat) (t : c.τ) : c.settle n (none, t) = (none, t) := by cases n <;> rfl
theorem ChP.settle_live (c : ChP M) (n : Nat) (m : M.σ) (t : c.τ) (h : M.live m = true) : c.settle n (some m, t) = (some m, t) := by
 cases n with
 | zero => rfl
 | succ n => exact if_pos h
theorem ChP.settle_dead (c : ChP M) (n : Nat) (m : M.σ) (t : c.τ) (h : M.live m = false) : c.settle (n + 1) (some m, t) = c.settle n (c.mo (c.en m t)) := if_neg (by rw [h]; exact Bool.false_ne_true)
theorem ChP.okay_none (c : ChP M) (t : c.τ) : c.okay (none, t) := fun h => by cases h
theorem ChP.fin_none (c : ChP M) (n : Nat) (t : c.τ) : c.fin (c.settle n (none, t)) := by
 rw [c.settle_none]
 intro m h
 cases h
theorem ChP.fin_live (c : ChP M) (n : Nat) (m : M.σ) (t : c.τ) (h : M.live m = true) : c.fin (c.settle n (some m, t)) := by
 rw [c.settle_live _ _ _ h]
 intro m' h'
 cases h'
 exact h
theorem ChP.fin_dead (c : ChP M) (n : Nat) (m : M.σ) (t : c.τ) (h : M.live m = false) (hf : c.fin (c.settle n (c.mo (c.en m t)))) : c.fin (c.settle (n + 1) (some m, t)) := by
 rw [c.settle_dead _ _ _ h]
 exact hf
theorem ChP.fin_mo (c : ChP M) (n : Nat) {t : c.τ} {f : Option M.σ × c.τ} (h : c.mo t = f) (hf : c.fin (c.settle n f)) : c.fin (c.settle n (c.mo t)) := h ▸ hf
structure ChP.Enough {M : Mac} (c : ChP M) : Prop where
 all : ∀ m t, c.ok t → c.fin (c.settle (c.fu t) (some m, t))
 mo : ∀ t, c.fin (c.settle (c.fu t) (c.mo t))
theorem ChP.fin_step (c : ChP M) (he : c.Enough) (f : Option M.σ × c.τ) (x : AN) (h : c.fin f) (ho : c.okay f) : c.fin (c.step f x) := by
 obtain ⟨cur, t⟩ := f
 cases cur with
 | none => exact h
 | some m => exact he.all _ _ (ho rfl)
structure ChK where
 C : Fam
 c : ChP C.M
 mor : FuncId
 enf : FuncId
 enm : En mor
 ene : En enf
 xok : AN → Prop
 xan : ∀ {w F q s x}, C.inv w F q s → C.M.live s = true → AN.ok (C.M.want s) x → xok x
 xtk : ∀ {w F q s x s0 sl sc}, C.inv w F q s → C.M.live s = true → xok x → RdB w (.slice s0 sl sc) x.b →
  Calls Tryz.prog (C.ft s) #[.pointer (some ⟨q, 0, none⟩), .agg #[.int .u64 x.v, .bool x.d, .slice s0 sl sc]] w fun e w' => e = .returned (.tuple #[]) ∧ ∃ F', C.inv w' F' q (C.M.step s x) ∧ (∀ i, F' i → F i ∨ w.heap.size ≤ i) ∧ Keep F w w'
 a1 : Nat → Nat → Array Value
 a2 : Nat → Nat → Array Value
 P : World → Nat → (Nat → Prop) → Option C.M.σ → c.τ → Prop
 dom : ∀ {w q F cur t}, P w q F cur t → F q ∧ ∀ i, F i → i < w.heap.size
 mono : ∀ {w q cur t} {F F' : Nat → Prop}, P w q F cur t → (∀ i, F i → F' i) → (∀ i, F' i → i < w.heap.size) → P w q F' cur t
 keep : ∀ {w w' q F cur t} {K : Nat → Prop}, P w q F cur t → Keep K w w' → (∀ i, F i → ¬ K i) → P w' q F cur t
 cells : ∀ {w q F cur t}, P w q F cur t → ∃ nv bx, w.cell? ⟨q, 0, none⟩ = some nv ∧ w.cell? ⟨q, 1, none⟩ = some (.func (.func mor) #[ptr q] #[]) ∧ w.cell? ⟨q, 2, none⟩ = some (.func (.func enf) (a1 q bx) (a2 q bx)) ∧ w.cell? ⟨q, 3, none⟩ = some (.bool cur.isSome) ∧
  w.frozen? ⟨q, 0, none⟩ = false ∧ w.frozen? ⟨q, 3, none⟩ = false
 mach : ∀ {w q F m t nv}, P w q F (some m) t → w.cell? ⟨q, 0, none⟩ = some nv → ∃ p F1, nv = ptr p ∧ C.inv w F1 p m ∧ (∀ i, F1 i → F i ∧ i ≠ q) ∧
  ∀ w' m' F1', Keep F1 w w' → C.inv w' F1' p m' → (∀ i, F1' i → F1 i ∨ w.heap.size ≤ i) → P w' q (fun i => F i ∨ F1' i) (some m') t
 more : ∀ {w q F cur t}, P w q F cur t → Calls Tryz.prog mor #[ptr q] w fun e w' => Keep F w w' ∧ P w' q F cur (c.mo t).2 ∧
  (((c.mo t).1 = none ∧ e = .returned (.tuple #[.pointer none, .bool false])) ∨ ∃ m p F2, (c.mo t).1 = some m ∧ e = .returned (.tuple #[ptr p, .bool true]) ∧ C.inv w' F2 p m ∧ (∀ i, F2 i → w.heap.size ≤ i) ∧ c.ok (c.mo t).2)
 ended : ∀ {w q F m t p bx}, P w q F (some m) t → c.ok t → w.cell? ⟨q, 0, none⟩ = some (ptr p) → w.cell? ⟨q, 2, none⟩ = some (.func (.func enf) (a1 q bx) (a2 q bx)) →
  Calls Tryz.prog enf (a1 q bx ++ #[ptr p] ++ a2 q bx) w fun e w' => e = .returned (.tuple #[]) ∧ w'.cell? ⟨q, 0, none⟩ = some (ptr p) ∧ w'.cell? ⟨q, 2, none⟩ = some (.func (.func enf) (a1 q bx) (a2 q bx)) ∧ ∃ F', P w' q F' (some m) (c.en m t) ∧ (∀ i, F' i → F i ∨ w.heap.size ≤ i) ∧ Keep F w w'
 setN : ∀ {w q F cur t}, P w q F cur t → P ((w.setCell ⟨q, 0, none⟩ (.pointer none)).setCell ⟨q, 3, none⟩ (.bool false)) q F none t
 setS : ∀ {w q F cur t m p F2}, P w q F cur t → C.inv w F2 p m → (∀ i, F2 i → ¬ F i) → P ((w.setCell ⟨q, 0, none⟩ (ptr p)).setCell ⟨q, 3, none⟩ (.bool true)) q (fun i => F i ∨ F2 i) (some m) t
theorem ChK.below (K : ChK) {w w' : World} {q : Nat} {F : Nat → Prop} {cur : Option K.C.M.σ} {t : K.c.τ} (h : K.P w q F cur t) (b : Below w.heap.size w w') : K.P w' q F cur t :=
 K.keep h (Below.keeps (M := fun _ => False) b) (fun _ _ => id)
def Mac.Q (M : Mac) : Mac := ⟨Nat × M.σ, fun s => M.live s.2, fun s => M.want s.2, fun s x => (s.1, M.step s.2 x)⟩
def Fam.Q (C : Fam) : Fam where
 M := C.M.Q
 inv := fun w F q s => q = s.1 ∧ C.inv w F q s.2
 ty := fun s => C.ty s.2
 fn := fun s => C.fn s.2
 ft := fun s => C.ft s.2
 mn := fun s b w => C.mn s.2 b w
 mt := fun s b w => C.mt s.2 b w
 en := fun s args w => C.en s.2 args w
 et := fun s args w => C.et s.2 args w
 ts := fun s x => C.ts s.2 x
 dom := fun h => C.dom h.2
 mono := fun h h1 h2 => ⟨h.1, C.mono h.2 h1 h2⟩
 keep := fun h k hd => ⟨h.1, C.keep h.2 k hd⟩
 wf := fun h => C.wf h.2
 next := fun h => C.next h.2
 take := fun {w F q s x s0 sl sc} h hl hx hr => by
  refine (C.take h.2 hl hx hr).mono ?_
  rintro e w' ⟨rfl, F', h1, h2, h3⟩
  exact ⟨rfl, F', ⟨h.1, h1⟩, h2, h3⟩
def putFamS : Fam where
 M := putMac
 inv := fun w F q s => PutF w F q s
 ty := fun _ => 97
 fn := fun _ => 214
 ft := fun _ => 215
 mn := fun _ b w => pM_next b w
 mt := fun _ b w => pM_take b w
 en := fun _ args w => enPN args w
 et := fun _ args w => enPT args w
 ts := fun _ _ => rfl
 dom := fun h => ⟨h.1, h.2.1⟩
 mono := fun h h1 h2 => h.mono h1 h2
 keep := fun h k hd => h.keep k hd
 wf := fun {w F q s} h => by
  obtain ⟨_, _, O, bv, hO, hI⟩ := h
  exact hI.fine.wf
 next := fun {w F q s} h => by
  obtain ⟨_, _, O, bv, hO, hI⟩ := h
  exact pNext_any w hI
 take := fun {w F q s x s0 sl sc} h hl hx hr => by
  refine (pTake_f x s0 sl sc w h ⟨hx.v0, hx.v1⟩).mono ?_
  rintro e w' ⟨rfl, F', h1, h2, h3⟩
  exact ⟨rfl, F', h1, h2, h3⟩
end Go.Proofs.YtggjhleomocojaaGreat
section
namespace Go.Proofs.YtggjhleomocojaaGreat
set_option maxRecDepth 100000
open Go.RowKit
set_option linter.unusedVariables false
set_option linter.unusedSimpArgs false
structure FilT where
 b : Int
 s : Int
 left : List (Int × List Int)
 tries : Int
 done : List Int
 places : List Int
def FilT.mo (t : FilT) : Option PutM := match t.left with
 | [] => none
 | x :: _ => some (PutC.init ⟨t.b, t.s, x.1, x.2⟩)
def FilT.en (t : FilT) (m : PutM) : FilT := if m.e = 5 ∧ 0 < t.tries then { t with tries := t.tries - 1 } else { t with left := t.left.tail, done := t.done ++ [m.e], places := if m.e = 0 then t.places ++ [m.rv] else t.places }
structure FilM where
 cur : Option PutM
 t : FilT
def FilM.settle : Nat → FilM → FilM
 | 0, f => f
 | n + 1, ⟨none, t⟩ => ⟨none, t⟩
 | n + 1, ⟨some m, t⟩ => if m.live then ⟨some m, t⟩ else FilM.settle n ⟨(t.en m).mo, t.en m⟩
def FilM.fin (f : FilM) : Prop := match f.cur with
 | none => True
 | some m => m.live = true
def FilM.live (f : FilM) : Bool := f.cur.isSome
def FilM.want (f : FilM) : AA := match f.cur with
 | none => aaZ
 | some m => m.want
def FilM.fu (f : FilM) : Nat := f.t.left.length + 2
def FilM.step (f : FilM) (x : AN) : FilM := match f.cur with
 | none => f
 | some m => FilM.settle f.fu ⟨some (m.step x), f.t⟩
def RdMs (w : World) (L : Nat → Prop) (v : Value) (l : List (Int × List Int)) : Prop :=
 (∃ a0 cap0, v = .slice a0 0 cap0 ∧ l = [] ∧ cap0 ≤ maxLen) ∨ ∃ g off cap, v = .slice (some ⟨g, off, none⟩) l.length cap ∧ l.length ≤ cap ∧ cap ≤ maxLen ∧ L g ∧ g < w.heap.size ∧
  ∀ i x, l[i]? = some x → ∃ s0 sl sc, w.cell? ⟨g, off + i * 2, none⟩ = some (.int .i32 x.1) ∧ w.cell? ⟨g, off + i * 2 + 1, none⟩ = some (.slice s0 sl sc) ∧ RdB w (.slice s0 sl sc) x.2 ∧ (x.2.length ≠ 0 → ∀ j, (Value.slice s0 sl sc).ownBlock = some j → L j)
theorem RdMs.keep {w w' : World} {L K : Nat → Prop} {v : Value} {l : List (Int × List Int)} (h : RdMs w L v l) (k : Keep K w w') (hd : ∀ i, L i → ¬ K i) : RdMs w' L v l := by
 rcases h with h | ⟨g, off, cap, e1, e2, e3, e4, e5, e6⟩
 ·exact .inl h
 ·refine .inr ⟨g, off, cap, e1, e2, e3, e4, Nat.lt_of_lt_of_le e5 k.size, fun i x hx => ?_⟩
  obtain ⟨s0, sl, sc, h1, h2, h3, h4⟩ := e6 i x hx
  exact ⟨s0, sl, sc, (k.cell _ e5 (hd g e4)).trans h1, (k.cell _ e5 (hd g e4)).trans h2, h3.keep k (fun h0 j hj => hd j (h4 h0 j hj)), h4⟩
variable {w : World}
theorem RdMs.sl {L : Nat → Prop} {v : Value} {l : List (Int × List Int)} (h : RdMs w L v l) : ∃ a c, v = .slice a l.length c ∧ l.length ≤ c ∧ c ≤ maxLen := by
 rcases h with ⟨a0, cap0, rfl, rfl, hm⟩ | ⟨g, off, cap, e1, e2, e3, _⟩
 ·exact ⟨a0, cap0, rfl, Nat.zero_le _, hm⟩
 ·exact ⟨_, _, e1, e2, e3⟩
structure FilD (w : World) (L : Nat → Prop) (t : FilT) (lv dv pv : Value) : Prop where
 rl : RdMs w L lv t.left
 od : w.ownsRow 0 28 1 dv t.done.length (t.done.map (.int .i64))
 op : w.ownsRow 0 2 1 pv t.places.length (t.places.map (.int .i64))
 nd : ∀ i, dv.ownBlock = some i → ¬ L i
 np : ∀ i, pv.ownBlock = some i → ¬ L i
 ll : ∀ i, L i → i < w.heap.size
 ib : ∀ x ∈ t.left, IsB x.2 ∧ x.2.length ≤ 70368744177664
 bb : -9223372036854775808 ≤ t.b ∧ t.b ≤ 9223372036854775807
 bs : -9223372036854775808 ≤ t.s ∧ t.s ≤ 9223372036854775807
 tr : 0 ≤ t.tries ∧ t.tries ≤ 9223372036854775807
 sm : t.done.length + t.left.length ≤ 1099511627776 ∧ t.places.length ≤ t.done.length
variable {t : FilT}
theorem FilD.keep {w w' : World} {L K : Nat → Prop} {lv dv pv : Value} (h : FilD w L t lv dv pv) (k : Keep K w w') (h1 : ∀ i, L i → ¬ K i) (h2 : ∀ i, dv.ownBlock = some i → ¬ K i) (h3 : ∀ i, pv.ownBlock = some i → ¬ K i) : FilD w' L t lv dv pv :=
 ⟨h.rl.keep k h1, ownsRow_keep h.od k h2, ownsRow_keep h.op k h3, h.nd, h.np, fun i hi => Nat.lt_of_lt_of_le (h.ll i hi) k.size, h.ib, h.bb, h.bs, h.tr, h.sm⟩
def filV (q : Nat) (nv : Value) (g : Bool) (t : FilT) (lv dv pv : Value) : List Value :=
 [nv, .func (.func 47) #[ptr q] #[], .func (.func 48) #[ptr q] #[], .bool g, .int .i64 t.b, .int .i64 t.s, lv, .int .i64 t.tries, dv, pv]
def FilC (w : World) (F1 : Nat → Prop) (nv : Value) (cur : Option PutM) : Prop := match cur with
 | none => nv = .pointer none
 | some m => ∃ p, nv = ptr p ∧ PutF w F1 p m
theorem FilC.keep {w w' : World} {F1 K : Nat → Prop} {nv : Value} {cur : Option PutM} (h : FilC w F1 nv cur) (k : Keep K w w') (hd : ∀ i, F1 i → ¬ K i) : FilC w' F1 nv cur := by
 cases cur with
 | none => exact h
 | some m =>
  obtain ⟨p, e, h⟩ := h
  exact ⟨p, e, h.keep k hd⟩
structure FilP (w : World) (q : Nat) (L F1 : Nat → Prop) (f : FilM) (nv lv dv pv : Value) : Prop where
 blk : Blk w q (filV q nv f.live f.t lv dv pv)
 d : FilD w L f.t lv dv pv
 c : FilC w F1 nv f.cur
 nq : ¬ L q ∧ ¬ F1 q
 qd : dv.ownBlock ≠ some q ∧ pv.ownBlock ≠ some q
 f1 : ∀ i, F1 i → i < w.heap.size ∧ ¬ L i ∧ dv.ownBlock ≠ some i ∧ pv.ownBlock ≠ some i
variable {f : FilM} {nv lv dv pv : Value}
theorem FilP.keep {w w' : World} {q : Nat} {L F1 K : Nat → Prop} (h : FilP w q L F1 f nv lv dv pv) (k : Keep K w w') (hq : ¬ K q) (h1 : ∀ i, L i → ¬ K i) (h2 : ∀ i, dv.ownBlock = some i → ¬ K i) (h3 : ∀ i, pv.ownBlock = some i → ¬ K i) (h4 : ∀ i, F1 i → ¬ K i) : FilP w' q L F1 f nv lv dv pv :=
 ⟨h.blk.keep k hq, h.d.keep k h1 h2 h3, h.c.keep k h4, h.nq, h.qd, fun i hi => ⟨Nat.lt_of_lt_of_le (h.f1 i hi).1 k.size, (h.f1 i hi).2⟩⟩
variable {L F1 : Nat → Prop}
theorem FilP.below {w w' : World} {q : Nat} (h : FilP w q L F1 f nv lv dv pv) (b : Below w.heap.size w w') : FilP w' q L F1 f nv lv dv pv :=
 h.keep (K := fun _ => False) (Below.keeps b) id (fun _ _ => id) (fun _ _ => id) (fun _ _ => id) (fun _ _ => id)
def FilO (q : Nat) (L F1 : Nat → Prop) (dv pv : Value) : Nat → Prop := fun i => i = q ∨ L i ∨ dv.ownBlock = some i ∨ pv.ownBlock = some i ∨ F1 i
theorem enFilMore : En 47 := enters_of Tryz.func47 (by kernel_rfl) rfl
theorem enFilEnded : En 48 := enters_of Tryz.func48 (by kernel_rfl) rfl
theorem FilP.cells {q : Nat} (h : FilP w q L F1 f nv lv dv pv) :
  w.cell? ⟨q, 0, none⟩ = some nv ∧ w.cell? ⟨q, 1, none⟩ = some (.func (.func 47) #[ptr q] #[]) ∧ w.cell? ⟨q, 2, none⟩ = some (.func (.func 48) #[ptr q] #[]) ∧ w.cell? ⟨q, 3, none⟩ = some (.bool f.live) ∧ w.cell? ⟨q, 4, none⟩ = some (.int .i64 f.t.b) ∧ w.cell? ⟨q, 5, none⟩ = some (.int .i64 f.t.s) ∧ w.cell? ⟨q, 6, none⟩ = some lv ∧ w.cell? ⟨q, 7, none⟩ = some (.int .i64 f.t.tries) ∧ w.cell? ⟨q, 8, none⟩ = some dv ∧ w.cell? ⟨q, 9, none⟩ = some pv :=
 ⟨Blk.cell h.blk 0, Blk.cell h.blk 1, Blk.cell h.blk 2, Blk.cell h.blk 3, Blk.cell h.blk 4, Blk.cell h.blk 5, Blk.cell h.blk 6, Blk.cell h.blk 7, Blk.cell h.blk 8, Blk.cell h.blk 9⟩
set_option maxHeartbeats 2000000 in
theorem filMore_any {q : Nat} (h : FilP w q L F1 f nv lv dv pv) :
  Calls Tryz.prog 47 #[ptr q] w fun e w' => Below w.heap.size w w' ∧ ((f.t.mo = none ∧ e = .returned (.tuple #[.pointer none, .bool false])) ∨ ∃ m p, f.t.mo = some m ∧ e = .returned (.tuple #[ptr p, .bool true]) ∧ PutF w' (fun i => w.heap.size ≤ i ∧ i < w'.heap.size) p m) := by
 obtain ⟨c0, c1, c2, c3, c4, c5, c6, c7, c8, c9⟩ := h.cells
 have hlt := h.blk.lt
 have HD := Lib.hid h.d
 rcases h.d.rl with ⟨a0, cap0, e1, e2, _⟩ | ⟨g, off, cap, e1, e2, e3, e4, e5, e6⟩
 ·subst e1
  have hmo : f.t.mo = none := by unfold FilT.mo; rw [e2]
  have HMO := Lib.hid hmo
  clear h hmo e2
  unfold ptr
  go_enter Tryz.func47, Tryz.ntmps47
  go_wp2
  go_ret2
  exact ⟨Below.refl _ _, .inl ⟨HMO.out, rfl⟩⟩
 ·subst e1
  cases hl : f.t.left with
  | nil =>
   have hmo : f.t.mo = none := by unfold FilT.mo; rw [hl]
   have HMO := Lib.hid hmo
   rw [hl] at c6
   clear h hmo e6 hl
   unfold ptr
   go_enter Tryz.func47, Tryz.ntmps47
   go_wp2
   go_ret2
   exact ⟨Below.refl _ _, .inl ⟨HMO.out, rfl⟩⟩
  | cons x r =>
   have hmo : f.t.mo = some (PutC.init ⟨f.t.b, f.t.s, x.1, x.2⟩) := by unfold FilT.mo; rw [hl]
   have HMO := Lib.hid hmo
   obtain ⟨s0, sl, sc, d0, d1, hr, _⟩ := e6 0 x (by rw [hl]; rfl)
   simp only [Nat.zero_mul, Nat.add_zero] at d0 d1
   obtain ⟨n, hn⟩ : ∃ n, n = f.t.left.length := ⟨_, rfl⟩
   rw [← hn] at c6
   have hn0 : (0 : Int) < (n : Int) := by rw [hn, hl]; simp
   have hnz : ¬ (n : Int) = 0 := by omega
   have hn1 : 0 < n := by omega
   have HR := Lib.hid hr
   have HB := Lib.hid (HD.out.ib x (by rw [hl]; exact List.mem_cons_self ..))
   have nq : ¬ g = q := fun e => h.nq.1 (e ▸ e4)
   clear h hmo e6 hl hr hn
   unfold ptr
   go_enter Tryz.func47, Tryz.ntmps47
   go_wp2_with fail
   go_region_held3 (fun w' => w'.cell? ⟨q, 4, none⟩ = some (.int .i64 f.t.b) ∧ w'.cell? ⟨q, 5, none⟩ = some (.int .i64 f.t.s) ∧ w'.cell? ⟨q, 6, none⟩ = some (.slice (some ⟨g, off, none⟩) n cap) ∧ w'.cell? ⟨g, off, none⟩ = some (.int .i32 x.1) ∧ w'.cell? ⟨g, off + 1, none⟩ = some (.slice s0 sl sc)) (first | go_keep | trivial)
    ((go_at_call 32; refine (pNew_f f.t.b f.t.s x.1 s0 sl sc x.2 _ (HR.out.below (bel_drewN 1 (Below.refl _ _))) HB.out.2 HB.out.1 HD.out.bb.1 HD.out.bb.2 HD.out.bs.1 HD.out.bs.2).mono ?_; rintro e w2 ⟨p, rfl, hp, hf, b2⟩; have hc0 := fun o => b2.cell (p := ⟨q, o, none⟩) hlt; have hc1 := fun o => b2.cell (p := ⟨g, o, none⟩) e5))
   all_goals (go_wp2; go_ret2; exact ⟨bel_drewP b2, .inr ⟨_, p, HMO.out, rfl, hf⟩⟩)
structure FilS (w0 w : World) (q p : Nat) (L F1 : Nat → Prop) (g : Bool) (m : PutM) (t : FilT) (nv lv dv pv dv0 pv0 : Value) : Prop where
 k : Keep (fun i => i = q ∨ dv0.ownBlock = some i ∨ pv0.ownBlock = some i) w0 w
 b : Blk w q (filV q nv g t lv dv pv)
 d : FilD w L t lv dv pv
 p : PutF w F1 p m
 nq : ¬ L q ∧ ¬ F1 q
 qd : dv.ownBlock ≠ some q ∧ pv.ownBlock ≠ some q
 f1 : ∀ i, F1 i → dv.ownBlock ≠ some i ∧ pv.ownBlock ≠ some i
 od : dv.ownBlock = dv0.ownBlock ∨ ∃ i, dv.ownBlock = some i ∧ w0.heap.size ≤ i
 op : pv.ownBlock = pv0.ownBlock ∨ ∃ i, pv.ownBlock = some i ∧ w0.heap.size ≤ i
variable {q p : Nat} {g : Bool} {m : PutM}
theorem FilS.below {w0 w w' : World} {nv lv dv pv dv0 pv0 : Value} (h : FilS w0 w q p L F1 g m t nv lv dv pv dv0 pv0) (b : Below w.heap.size w w') : FilS w0 w' q p L F1 g m t nv lv dv pv dv0 pv0 :=
 have k : Keep (fun _ => False) w w' := Below.keeps b
 ⟨h.k.trans (Below.keeps b), h.b.below b h.b.lt, h.d.keep k (fun _ _ => id) (fun _ _ => id) (fun _ _ => id), h.p.below b, h.nq, h.qd, h.f1, h.od, h.op⟩
theorem FilS.set {w0 w : World} {t t' : FilT} {nv lv lv' dv pv dv0 pv0 : Value} (h : FilS w0 w q p L F1 g m t nv lv dv pv dv0 pv0) (i : Nat) (v : Value) (hv : (filV q nv g t lv dv pv).set i v = filV q nv g t' lv' dv pv)
  (hd : FilD w L t' lv' dv pv) : FilS w0 (w.setCell ⟨q, i, none⟩ v) q p L F1 g m t' nv lv' dv pv dv0 pv0 := by
 have ks : Keep (fun i => i = q) w (w.setCell ⟨q, i, none⟩ v) := (Keep.refl (fun i => i = q) w).setCell (p := ⟨q, i, none⟩) (.inl rfl) _
 refine ⟨h.k.then ks (fun i _ hi => .inl hi), hv ▸ h.b.set i v, ?_, h.p.keep ks (fun i hi e => h.nq.2 (e ▸ hi)), h.nq, h.qd, h.f1, h.od, h.op⟩
 exact hd.keep ks (fun i hi e => h.nq.1 (e ▸ hi)) (fun i hi e => h.qd.1 (e ▸ hi)) (fun i hi e => h.qd.2 (e ▸ hi))
theorem FilS.left {w0 w : World} {nv lv dv pv dv0 pv0 : Value} (h : FilS w0 w q p L F1 g m t nv lv dv pv dv0 pv0) (V : Value) (hr : RdMs w L V t.left.tail) :
  FilS w0 (w.setCell ⟨q, 6, none⟩ V) q p L F1 g m { t with left := t.left.tail } nv V dv pv dv0 pv0 :=
 h.set 6 V rfl ⟨hr, h.d.od, h.d.op, h.d.nd, h.d.np, h.d.ll, fun x hx => h.d.ib x (List.mem_of_mem_tail hx), h.d.bb, h.d.bs, h.d.tr, by have := h.d.sm; simp only [List.length_tail]; omega⟩
theorem own_neD {B1 B2 E1 E2 s1 s2 n1 n2 : Nat} {v1 v2 : Value} {x1 x2 : List Value} (h1 : w.ownsRow B1 E1 s1 v1 n1 x1) (h2 : w.ownsRow B2 E2 s2 v2 n2 x2) (hE : E1 ≠ E2) {g : Nat} (hg : v1.ownBlock = some g) : v2.ownBlock ≠ some g := by
 intro hg2
 rcases h1.2 with ⟨rfl, _⟩ | ⟨g1, c1, u1, rfl, _, e1, _⟩
 ·cases hg
 rcases h2.2 with ⟨rfl, _⟩ | ⟨g2, c2, u2, rfl, _, e2, _⟩
 ·cases hg2
 have a1 : g1 = g := Option.some.inj hg
 have a2 : g2 = g := Option.some.inj hg2
 subst a1 a2
 rw [e1] at e2
 simp only [Option.some.injEq, Obj.cells.injEq] at e2
 exact hE e2.2.1
theorem FilS.pushD {w0 w w4 : World} {nv lv dv pv dv0 pv0 v4 : Value} (h : FilS w0 w q p L F1 g m t nv lv dv pv dv0 pv0) (e : Int) (hs : t.done.length + 1 + t.left.length ≤ 1099511627776)
  (k : Keep (fun i => dv.ownBlock = some i) w w4) (o : w4.ownsRow 0 28 1 v4 (t.done.length + 1) (t.done.map (.int .i64) ++ [.int .i64 e])) (ho : v4.ownBlock = dv.ownBlock ∨ ∃ i, v4.ownBlock = some i ∧ w.heap.size ≤ i) :
  FilS w0 (w4.setCell ⟨q, 8, none⟩ v4) q p L F1 g m { t with done := t.done ++ [e] } nv lv v4 pv dv0 pv0 := by
 have hq := h.b.lt
 have hnp : ∀ i, pv.ownBlock = some i → ¬ dv.ownBlock = some i := fun i hi => own_neD h.d.op h.d.od (by decide) hi
 have hob : ∀ i, i < w.heap.size → v4.ownBlock = some i → dv.ownBlock = some i := fun i hi hv => by
  rcases ho with e | ⟨j, e, hj⟩
  ·exact e ▸ hv
  ·rw [e] at hv
   cases hv
   omega
 have ks : Keep (fun i => i = q) w4 (w4.setCell ⟨q, 8, none⟩ v4) := (Keep.refl (fun i => i = q) w4).setCell (p := ⟨q, 8, none⟩) (.inl rfl) _
 have hq4 : v4.ownBlock ≠ some q := fun e => h.qd.1 (hob q hq e)
 have hL : ∀ i, L i → ¬ v4.ownBlock = some i := fun i hi e => h.d.nd i (hob i (h.d.ll i hi) e) hi
 have hf := h.p.2.1
 refine ⟨(h.k.then k (fun i hi e => ?_)).then ks (fun i _ hi => .inl hi), (h.b.keep k h.qd.1).set 8 v4, ?_, (h.p.keep k (fun i hi e => (h.f1 i hi).1 e)).keep ks (fun i hi e => h.nq.2 (e ▸ hi)), h.nq, ⟨hq4, h.qd.2⟩, fun i hi => ⟨fun e => (h.f1 i hi).1 (hob i (hf i hi) e), (h.f1 i hi).2⟩, ?_, h.op⟩
 ·rcases h.od with e' | ⟨j, e', hj⟩
  ·exact .inr (.inl (e' ▸ e))
  ·rw [e'] at e
   cases e
   omega
 ·refine ⟨(h.d.rl.keep k (fun i hi e => h.d.nd i e hi)).keep ks (fun i hi e => h.nq.1 (e ▸ hi)), ?_, ownsRow_keep (ownsRow_keep h.d.op k hnp) ks (fun i hi e => h.qd.2 (e ▸ hi)), fun i e hi => hL i hi e, h.d.np, fun i hi => Nat.lt_of_lt_of_le (h.d.ll i hi) (Nat.le_trans k.size ks.size), h.d.ib, h.d.bb, h.d.bs, h.d.tr, ⟨by simp only [List.length_append, List.length_singleton]; exact hs, by have := h.d.sm.2; simp only [List.length_append, List.length_singleton]; omega⟩⟩
  have := ownsRow_keep o ks (fun i hi e => hq4 (e ▸ hi))
  simpa [List.length_append] using this
 ·rcases ho with e' | ⟨j, e', hj⟩
  ·rw [e']
   exact h.od
  ·exact .inr ⟨j, e', Nat.le_trans h.k.size hj⟩
theorem FilS.pushP {w0 w w4 : World} {nv lv dv pv dv0 pv0 v4 : Value} (h : FilS w0 w q p L F1 g m t nv lv dv pv dv0 pv0) (e : Int) (hs : t.places.length < t.done.length)
  (k : Keep (fun i => pv.ownBlock = some i) w w4) (o : w4.ownsRow 0 2 1 v4 (t.places.length + 1) (t.places.map (.int .i64) ++ [.int .i64 e])) (ho : v4.ownBlock = pv.ownBlock ∨ ∃ i, v4.ownBlock = some i ∧ w.heap.size ≤ i) :
  FilS w0 (w4.setCell ⟨q, 9, none⟩ v4) q p L F1 g m { t with places := t.places ++ [e] } nv lv dv v4 dv0 pv0 := by
 have hq := h.b.lt
 have hnp : ∀ i, dv.ownBlock = some i → ¬ pv.ownBlock = some i := fun i hi => own_neD h.d.od h.d.op (by decide) hi
 have hob : ∀ i, i < w.heap.size → v4.ownBlock = some i → pv.ownBlock = some i := fun i hi hv => by
  rcases ho with e | ⟨j, e, hj⟩
  ·exact e ▸ hv
  ·rw [e] at hv
   cases hv
   omega
 have ks : Keep (fun i => i = q) w4 (w4.setCell ⟨q, 9, none⟩ v4) := (Keep.refl (fun i => i = q) w4).setCell (p := ⟨q, 9, none⟩) (.inl rfl) _
 have hq4 : v4.ownBlock ≠ some q := fun e => h.qd.2 (hob q hq e)
 have hL : ∀ i, L i → ¬ v4.ownBlock = some i := fun i hi e => h.d.np i (hob i (h.d.ll i hi) e) hi
 have hf := h.p.2.1
 refine ⟨(h.k.then k (fun i hi e => ?_)).then ks (fun i _ hi => .inl hi), (h.b.keep k h.qd.2).set 9 v4, ?_, (h.p.keep k (fun i hi e => (h.f1 i hi).2 e)).keep ks (fun i hi e => h.nq.2 (e ▸ hi)), h.nq, ⟨h.qd.1, hq4⟩, fun i hi => ⟨(h.f1 i hi).1, fun e => (h.f1 i hi).2 (hob i (hf i hi) e)⟩, h.od, ?_⟩
 ·rcases h.op with e' | ⟨j, e', hj⟩
  ·exact .inr (.inr (e' ▸ e))
  ·rw [e'] at e
   cases e
   omega
 ·refine ⟨(h.d.rl.keep k (fun i hi e => h.d.np i e hi)).keep ks (fun i hi e => h.nq.1 (e ▸ hi)), ownsRow_keep (ownsRow_keep h.d.od k hnp) ks (fun i hi e => h.qd.1 (e ▸ hi)), ?_, h.d.nd, fun i e hi => hL i hi e, fun i hi => Nat.lt_of_lt_of_le (h.d.ll i hi) (Nat.le_trans k.size ks.size), h.d.ib, h.d.bb, h.d.bs, h.d.tr, ⟨h.d.sm.1, by simp only [List.length_append, List.length_singleton]; omega⟩⟩
  have := ownsRow_keep o ks (fun i hi e => hq4 (e ▸ hi))
  simpa [List.length_append] using this
 ·rcases ho with e' | ⟨j, e', hj⟩
  ·rw [e']
   exact h.op
  ·exact .inr ⟨j, e', Nat.le_trans h.k.size hj⟩
def FilE (w : World) (q p : Nat) (L F1 : Nat → Prop) (g : Bool) (m : PutM) (t : FilT) (nv dv pv : Value) (w' : World) : Prop :=
 Keep (fun i => i = q ∨ dv.ownBlock = some i ∨ pv.ownBlock = some i) w w' ∧ ∃ lv' dv' pv', Blk w' q (filV q nv g (t.en m) lv' dv' pv') ∧ FilD w' L (t.en m) lv' dv' pv' ∧ PutF w' F1 p m ∧ (dv'.ownBlock = dv.ownBlock ∨ ∃ i, dv'.ownBlock = some i ∧ w.heap.size ≤ i) ∧ (pv'.ownBlock = pv.ownBlock ∨ ∃ i, pv'.ownBlock = some i ∧ w.heap.size ≤ i)
theorem FilS.e {w w' : World} {t t' : FilT} {nv lv' dv' pv' dv pv : Value} (h : FilS w w' q p L F1 g m t' nv lv' dv' pv' dv pv) (ht : t.en m = t') : FilE w q p L F1 g m t nv dv pv w' := by
 subst ht
 exact ⟨h.k, lv', dv', pv', h.b, h.d, h.p, h.od, h.op⟩
set_option maxHeartbeats 2000000 in
theorem filEnded_full (hb : Blk w q (filV q nv g t lv dv pv)) (hd : FilD w L t lv dv pv) (hp : PutF w F1 p m) (hq : ¬ L q ∧ ¬ F1 q) (hdq : dv.ownBlock ≠ some q ∧ pv.ownBlock ≠ some q)
  (he : m.e = 5) (ht : 0 < t.tries) :
  Calls Tryz.prog 48 #[ptr q, ptr p] w fun e w' => e = .returned (.tuple #[]) ∧ FilE w q p L F1 g m t nv dv pv w' := by
 have hen : t.en m = { t with tries := t.tries - 1 } := if_pos ⟨he, ht⟩
 have HEN := Lib.hid hen
 have HD := Lib.hid hd
 have HP := Lib.hid hp
 have HB := Lib.hid hb
 have HQ := Lib.hid hq
 have hlt : q < w.heap.size := hb.lt
 clear hen hd hp hq
 obtain ⟨O, bv, ho, hi⟩ := HP.out.2.2
 have HI := Lib.hid hi
 unfold ptr
 go_enter Tryz.func48, Tryz.ntmps48
 go_wp2_with fail
 refine (pResult_any w HI.out.1).mono ?_
 rintro e w2 ⟨rfl, b2⟩
 have HB2 := Lib.hid (hb.below b2 hlt)
 have c7 : w2.cell? ⟨q, 7, none⟩ = some (.int .i64 t.tries) := Blk.cell HB2.out 7
 have f7 : w2.frozen? ⟨q, 7, none⟩ = false := HB2.out.frozen 7
 have B2 := Lib.hid b2
 have ht1 : ¬ t.tries ≤ 0 := by omega
 have hw1 : IntKind.i64.wrap (t.tries - 1) = t.tries - 1 := by rw [IntKind.wrap_i64]; have := HD.out.tr; omega
 rw [he]
 clear hb b2
 go_wp2
 refine bodyPost_ret (results_none rfl _ _ _) rfl ?_
 have ks : Keep (fun i => i = q) w2 (w2.setCell ⟨q, 7, none⟩ (.int .i64 (t.tries - 1))) := (Keep.refl (fun i => i = q) w2).setCell (p := ⟨q, 7, none⟩) (.inl rfl) _
 have k := ((Below.keeps B2.out).trans ks)
 unfold FilE
 rw [HEN.out]
 refine ⟨rfl, k.mono (fun i _ hi => .inl hi), lv, dv, pv, HB2.out.set 7 _, ?_, HP.out.keep k (fun i hi e => HQ.out.2 (e ▸ hi)), .inl rfl, .inl rfl⟩
 have hd := HD.out.keep k (fun i hi e => HQ.out.1 (e ▸ hi)) (fun i hi e => hdq.1 (e ▸ hi)) (fun i hi e => hdq.2 (e ▸ hi))
 exact ⟨hd.rl, hd.od, hd.op, hd.nd, hd.np, hd.ll, hd.ib, hd.bb, hd.bs, ⟨by show 0 ≤ t.tries - 1; omega, by show t.tries - 1 ≤ _; have := hd.tr; omega⟩, hd.sm⟩
set_option maxHeartbeats 4000000 in
theorem filEnded_done {x0 : Int × List Int} {r0 : List (Int × List Int)} (hb : Blk w q (filV q nv g t lv dv pv)) (hd : FilD w L t lv dv pv) (hp : PutF w F1 p m) (hq : ¬ L q ∧ ¬ F1 q) (hdq : dv.ownBlock ≠ some q ∧ pv.ownBlock ≠ some q)
  (hdf : ∀ i, F1 i → dv.ownBlock ≠ some i ∧ pv.ownBlock ≠ some i)
  (he : ¬ (m.e = 5 ∧ 0 < t.tries)) (hl : t.left = x0 :: r0) :
  Calls Tryz.prog 48 #[ptr q, ptr p] w fun e w' => e = .returned (.tuple #[]) ∧ FilE w q p L F1 g m t nv dv pv w' := by
 have hen : t.en m = { t with left := t.left.tail, done := t.done ++ [m.e], places := if m.e = 0 then t.places ++ [m.rv] else t.places } := if_neg he
 have HEN := Lib.hid hen
 have HD := Lib.hid hd
 have HP := Lib.hid hp
 have HB := Lib.hid hb
 have HQ := Lib.hid hq
 have hlt : q < w.heap.size := hb.lt
 clear hen hd hp hq
 obtain ⟨O, bv, ho, hi⟩ := HP.out.2.2
 have HI := Lib.hid hi
 have HL := Lib.hid hl
 rcases HD.out.rl with ⟨_, _, e1, e2, _⟩ | ⟨g0, off, cap, e1, e2, e3, e4, e5, e6⟩
 ·rw [hl] at e2
  cases e2
 have E6 := Lib.hid e6
 clear e6
 obtain ⟨n, hn⟩ : ∃ n, n = t.left.length := ⟨_, rfl⟩
 rw [← hn] at e1 e2
 have hn0 : 1 ≤ n := by rw [hn, hl]; simp
 have hn1 : (1 : Int) ≤ (n : Int) := by omega
 have hn2 : (n : Int) ≤ (cap : Int) := by omega
 have hn3 : 1 ≤ cap := by omega
 subst e1
 have HN := Lib.hid hn
 obtain ⟨j, hj1, hy0, hy1, hy2⟩ : ∃ j, Tryz.prog.info? 2 = some j ∧ j.zero = some (.int .i64 0) ∧ j.size = 1 ∧ j.bytes = 8 := ⟨_, rfl, rfl, rfl, rfl⟩
 obtain ⟨i, hi1, hz0, hz1, hz2⟩ : ∃ i, Tryz.prog.info? 28 = some i ∧ i.zero = some (.int .i64 0) ∧ i.size = 1 ∧ i.bytes = 8 := ⟨_, rfl, rfl, rfl, rfl⟩
 unfold ptr
 go_enter Tryz.func48, Tryz.ntmps48
 clear hn
 go_wp2_with fail
 refine (pResult_any w HI.out.1).mono ?_
 rintro e w2 ⟨rfl, b2⟩
 have HB2 := Lib.hid (hb.below b2 hlt)
 have c7 : w2.cell? ⟨q, 7, none⟩ = some (.int .i64 t.tries) := Blk.cell HB2.out 7
 have c6 : w2.cell? ⟨q, 6, none⟩ = some (.slice (some ⟨g0, off, none⟩) n cap) := Blk.cell HB2.out 6
 have f6 : w2.frozen? ⟨q, 6, none⟩ = false := HB2.out.frozen 6
 have HS2 : FilS w w2 q p L F1 g m t nv (.slice (some ⟨g0, off, none⟩) n cap) dv pv dv pv := ⟨Below.keeps b2, HB2.out, HD.out.keep (K := fun _ => False) (Below.keeps b2) (fun _ _ => id) (fun _ _ => id) (fun _ _ => id), HP.out.below b2, HQ.out, hdq, hdf, .inl rfl, .inl rfl⟩
 have HV := Lib.hid (fun V hr => HS2.left V hr)
 have RL2 := Lib.hid (HD.out.rl.keep (K := fun _ => False) (Below.keeps b2) (fun _ _ => id))
 have HR1 := Lib.hid (show cap = 1 → RdMs w2 L (.slice (some ⟨g0, off, none⟩) 0 0) t.left.tail from fun hc => by
  have : t.left.tail = [] := List.eq_nil_of_length_eq_zero (by rw [List.length_tail]; have := HN.out; omega)
  rw [this]
  exact .inr ⟨g0, off, 0, rfl, Nat.le_refl _, Nat.zero_le _, e4, Nat.lt_of_lt_of_le e5 b2.size, fun i x hx => by simp at hx⟩)
 have HR2 := Lib.hid (show RdMs w2 L (.slice (some ⟨g0, off + 2, none⟩) (n - 1) (cap - 1)) t.left.tail from by
  have hN := HN.out
  refine .inr ⟨g0, off + 2, cap - 1, by rw [List.length_tail, hN], by rw [List.length_tail]; omega, by omega, e4, Nat.lt_of_lt_of_le e5 b2.size, fun i x hx => ?_⟩
  rw [List.getElem?_tail] at hx
  obtain ⟨s0, sl, sc, h1, h2, h3, h4⟩ := E6.out (i + 1) x hx
  have B := b2
  refine ⟨s0, sl, sc, ?_, ?_, h3.below B, h4⟩
  ·rw [B.cell (p := ⟨g0, off + 2 + i * 2, none⟩) e5]
   rw [show off + 2 + i * 2 = off + (i + 1) * 2 by omega]
   exact h1
  ·rw [B.cell (p := ⟨g0, off + 2 + i * 2 + 1, none⟩) e5]
   rw [show off + 2 + i * 2 = off + (i + 1) * 2 by omega]
   exact h2)
 obtain ⟨da, dl, dc, rfl⟩ := own_isSl HD.out.od
 obtain ⟨pa, pl, pc, rfl⟩ := own_isSl HD.out.op
 have c8 : ∀ V, (w2.setCell ⟨q, 6, none⟩ V).cell? ⟨q, 8, none⟩ = some (.slice da dl dc) := fun V => Blk.cell (HB2.out.set 6 V) 8
 obtain ⟨ev, hev⟩ : ∃ ev, ev = m.e := ⟨_, rfl⟩
 obtain ⟨rv, hrv⟩ : ∃ rv, rv = m.rv := ⟨_, rfl⟩
 rw [← hev] at he ⊢
 rw [← hrv]
 have HEV := Lib.hid hev
 have HRV := Lib.hid hrv
 have LT2 := Lib.hid (Nat.lt_of_lt_of_le hlt b2.size)
 have SM := Lib.hid HD.out.sm
 have NB := Lib.hid (show ∀ V, Blk ((w2.setCell ⟨q, 6, none⟩ V).alloc (Obj.cells #[.int .i64 ev] 28)) w2.heap.size [.int .i64 ev] from fun V => by have := Blk.made (w2.setCell ⟨q, 6, none⟩ V) #[.int .i64 ev] 28; simpa using this)
 have OO := Lib.hid (show ∀ V, RdMs w2 L V t.left.tail → ((w2.setCell ⟨q, 6, none⟩ V).alloc (Obj.cells #[.int .i64 ev] 28)).ownsRow 0 28 1 (.slice da dl dc) t.done.length (t.done.map (.int .i64)) from fun V hr => ((HV.out V hr).below ((Below.refl _ _).alloc (Nat.le_refl _) _)).d.od)
 have HS2 := Lib.hid HS2
 clear hev hrv hb b2
 by_cases h5 : ev = 5
 ·have ht1 : ¬ 0 < t.tries := by omega
  have ht2 : decide (0 < t.tries) = false := decide_eq_false ht1
  subst h5
  by_cases hc1 : cap = 1
  ·have HC1 := Lib.hid hc1
   subst hc1
   go_wp2_with (refine list_app1 rfl (.tmp 39) (.tmp 41) 90 28 rfl Tryz.underlying90 hi1 hz0 hz1 hz2 rfl (by decide) (.slice da dl dc) t.done.length (t.done.map (.int .i64)) rfl (OO.out _ (HR1.out HC1.out)) w2.heap.size [.int .i64 5] rfl (NB.out _) rfl (by simp [Value.oneCell']) (by have := SM.out; omega) (by have := SM.out; unfold maxLen; omega) ?_)
   intro v4 w4 o4 g4 e4
   obtain ⟨za, zl, zc, rfl⟩ := own_isSl o4
   have hS := HV.out _ (HR1.out HC1.out)
   have k4 := (Below.keeps (M := fun i => (Value.slice da dl dc).ownBlock = some i) ((Below.refl _ (w2.setCell ⟨q, 6, none⟩ (.slice (some ⟨g0, off, none⟩) 0 0))).alloc (Nat.le_refl _) (Obj.cells #[.int .i64 5] 28))).trans (grown_keep g4)
   have HS4 := Lib.hid (hS.pushD 5 (by have := SM.out; have := HL.out; simp only [this, List.tail_cons, List.length_cons] at *; omega) k4 o4 (e4.imp id fun h => ⟨_, h, by simp⟩))
   have f8 : w4.frozen? ⟨q, 8, none⟩ = false := (hS.b.keep k4 hS.qd.1).frozen 8
   have c84 : w4.cell? ⟨q, 8, none⟩ = some (.slice da dl dc) := Blk.cell (hS.b.keep k4 hS.qd.1) 8
   have c94 : w4.cell? ⟨q, 9, none⟩ = some (.slice pa pl pc) := Blk.cell (hS.b.keep k4 hS.qd.1) 9
   have HEN := Lib.hid HEN.out
   clear hS k4 o4 g4 e4
   go_wp2
   all_goals (refine bodyPost_end (results_none rfl _ _ _) rfl ?_; refine ⟨rfl, HS4.out.e ?_⟩; rw [HEN.out, ← HEV.out, if_neg (by decide : ¬ (5 : Int) = 0)])
  ·have hc2 : ¬ cap - 1 = 0 := by omega
   go_wp2_with (refine list_app1 rfl (.tmp 39) (.tmp 41) 90 28 rfl Tryz.underlying90 hi1 hz0 hz1 hz2 rfl (by decide) (.slice da dl dc) t.done.length (t.done.map (.int .i64)) rfl (OO.out _ HR2.out) w2.heap.size [.int .i64 5] rfl (NB.out _) rfl (by simp [Value.oneCell']) (by have := SM.out; omega) (by have := SM.out; unfold maxLen; omega) ?_)
   intro v4 w4 o4 g4 e4
   obtain ⟨za, zl, zc, rfl⟩ := own_isSl o4
   have hS := HV.out _ HR2.out
   have k4 := (Below.keeps (M := fun i => (Value.slice da dl dc).ownBlock = some i) ((Below.refl _ (w2.setCell ⟨q, 6, none⟩ (.slice (some ⟨g0, off + 2, none⟩) (n - 1) (cap - 1)))).alloc (Nat.le_refl _) (Obj.cells #[.int .i64 5] 28))).trans (grown_keep g4)
   have HS4 := Lib.hid (hS.pushD 5 (by have := SM.out; have := HL.out; simp only [this, List.tail_cons, List.length_cons] at *; omega) k4 o4 (e4.imp id fun h => ⟨_, h, by simp⟩))
   have f8 : w4.frozen? ⟨q, 8, none⟩ = false := (hS.b.keep k4 hS.qd.1).frozen 8
   have c84 : w4.cell? ⟨q, 8, none⟩ = some (.slice da dl dc) := Blk.cell (hS.b.keep k4 hS.qd.1) 8
   have c94 : w4.cell? ⟨q, 9, none⟩ = some (.slice pa pl pc) := Blk.cell (hS.b.keep k4 hS.qd.1) 9
   have HEN := Lib.hid HEN.out
   clear hS k4 o4 g4 e4
   go_wp2
   all_goals (refine bodyPost_end (results_none rfl _ _ _) rfl ?_; refine ⟨rfl, HS4.out.e ?_⟩; rw [HEN.out, ← HEV.out, if_neg (by decide : ¬ (5 : Int) = 0)])
 ·by_cases hc1 : cap = 1
  ·have HC1 := Lib.hid hc1
   subst hc1
   go_wp2_with (refine list_app1 rfl (.tmp 39) (.tmp 41) 90 28 rfl Tryz.underlying90 hi1 hz0 hz1 hz2 rfl (by decide) (.slice da dl dc) t.done.length (t.done.map (.int .i64)) rfl (OO.out _ (HR1.out HC1.out)) w2.heap.size [.int .i64 ev] rfl (NB.out _) rfl (by simp [Value.oneCell']) (by have := SM.out; omega) (by have := SM.out; unfold maxLen; omega) ?_)
   intro v4 w4 o4 g4 e4
   obtain ⟨za, zl, zc, rfl⟩ := own_isSl o4
   have hS := HV.out _ (HR1.out HC1.out)
   have k4 := (Below.keeps (M := fun i => (Value.slice da dl dc).ownBlock = some i) ((Below.refl _ (w2.setCell ⟨q, 6, none⟩ (.slice (some ⟨g0, off, none⟩) 0 0))).alloc (Nat.le_refl _) (Obj.cells #[.int .i64 ev] 28))).trans (grown_keep g4)
   have HS4 := Lib.hid (hS.pushD ev (by have := SM.out; have := HL.out; simp only [this, List.tail_cons, List.length_cons] at *; omega) k4 o4 (e4.imp id fun h => ⟨_, h, by simp⟩))
   have f8 : w4.frozen? ⟨q, 8, none⟩ = false := (hS.b.keep k4 hS.qd.1).frozen 8
   have c84 : w4.cell? ⟨q, 8, none⟩ = some (.slice da dl dc) := Blk.cell (hS.b.keep k4 hS.qd.1) 8
   have c94 : w4.cell? ⟨q, 9, none⟩ = some (.slice pa pl pc) := Blk.cell (hS.b.keep k4 hS.qd.1) 9
   have HEN := Lib.hid HEN.out
   clear hS k4 o4 g4 e4
   by_cases hz : ev = 0
   ·subst hz
    have HJ := Lib.hid (HS4.out.below ((Below.refl _ (w4.setCell ⟨q, 8, none⟩ (.slice za zl zc))).alloc (Nat.le_refl _) (Obj.cells #[.int .i64 rv] 2))).d.op
    have NP := Lib.hid (show Blk ((w4.setCell ⟨q, 8, none⟩ (.slice za zl zc)).alloc (Obj.cells #[.int .i64 rv] 2)) w4.heap.size [.int .i64 rv] from by have := Blk.made (w4.setCell ⟨q, 8, none⟩ (.slice za zl zc)) #[.int .i64 rv] 2; simpa using this)
    go_wp2_with (refine list_app1 rfl (.tmp 51) (.tmp 53) 143 2 rfl Tryz.underlying143 hj1 hy0 hy1 hy2 rfl (by decide) (.slice pa pl pc) t.places.length (t.places.map (.int .i64)) rfl HJ.out w4.heap.size [.int .i64 rv] rfl NP.out rfl (by simp [Value.oneCell']) (by have := SM.out; omega) (by have := SM.out; unfold maxLen; omega) ?_)
    intro v6 w6 o6 g6 e6
    obtain ⟨ya, yl, yc, rfl⟩ := own_isSl o6
    have k6 := (Below.keeps (M := fun i => (Value.slice pa pl pc).ownBlock = some i) ((Below.refl _ (w4.setCell ⟨q, 8, none⟩ (.slice za zl zc))).alloc (Nat.le_refl _) (Obj.cells #[.int .i64 rv] 2))).trans (grown_keep g6)
    have HS6 := Lib.hid (HS4.out.pushP rv (by have := SM.out; simp only [List.length_append, List.length_singleton]; omega) k6 o6 (e6.imp id fun h => ⟨_, h, by simp⟩))
    have f9 : w6.frozen? ⟨q, 9, none⟩ = false := (HS4.out.b.keep k6 HS4.out.qd.2).frozen 9
    have c96 : w6.cell? ⟨q, 9, none⟩ = some (.slice pa pl pc) := Blk.cell (HS4.out.b.keep k6 HS4.out.qd.2) 9
    clear k6 o6 g6 e6
    go_wp2
    all_goals (refine bodyPost_end (results_none rfl _ _ _) rfl ?_; refine ⟨rfl, HS6.out.e ?_⟩; rw [HEN.out, ← HEV.out, ← HRV.out, if_pos rfl])
   ·go_wp2
    all_goals (refine bodyPost_end (results_none rfl _ _ _) rfl ?_; refine ⟨rfl, HS4.out.e ?_⟩; rw [HEN.out, ← HEV.out, if_neg hz])
  ·have hc2 : ¬ cap - 1 = 0 := by omega
   go_wp2_with (refine list_app1 rfl (.tmp 39) (.tmp 41) 90 28 rfl Tryz.underlying90 hi1 hz0 hz1 hz2 rfl (by decide) (.slice da dl dc) t.done.length (t.done.map (.int .i64)) rfl (OO.out _ HR2.out) w2.heap.size [.int .i64 ev] rfl (NB.out _) rfl (by simp [Value.oneCell']) (by have := SM.out; omega) (by have := SM.out; unfold maxLen; omega) ?_)
   intro v4 w4 o4 g4 e4
   obtain ⟨za, zl, zc, rfl⟩ := own_isSl o4
   have hS := HV.out _ HR2.out
   have k4 := (Below.keeps (M := fun i => (Value.slice da dl dc).ownBlock = some i) ((Below.refl _ (w2.setCell ⟨q, 6, none⟩ (.slice (some ⟨g0, off + 2, none⟩) (n - 1) (cap - 1)))).alloc (Nat.le_refl _) (Obj.cells #[.int .i64 ev] 28))).trans (grown_keep g4)
   have HS4 := Lib.hid (hS.pushD ev (by have := SM.out; have := HL.out; simp only [this, List.tail_cons, List.length_cons] at *; omega) k4 o4 (e4.imp id fun h => ⟨_, h, by simp⟩))
   have f8 : w4.frozen? ⟨q, 8, none⟩ = false := (hS.b.keep k4 hS.qd.1).frozen 8
   have c84 : w4.cell? ⟨q, 8, none⟩ = some (.slice da dl dc) := Blk.cell (hS.b.keep k4 hS.qd.1) 8
   have c94 : w4.cell? ⟨q, 9, none⟩ = some (.slice pa pl pc) := Blk.cell (hS.b.keep k4 hS.qd.1) 9
   have HEN := Lib.hid HEN.out
   clear hS k4 o4 g4 e4
   by_cases hz : ev = 0
   ·subst hz
    have HJ := Lib.hid (HS4.out.below ((Below.refl _ (w4.setCell ⟨q, 8, none⟩ (.slice za zl zc))).alloc (Nat.le_refl _) (Obj.cells #[.int .i64 rv] 2))).d.op
    have NP := Lib.hid (show Blk ((w4.setCell ⟨q, 8, none⟩ (.slice za zl zc)).alloc (Obj.cells #[.int .i64 rv] 2)) w4.heap.size [.int .i64 rv] from by have := Blk.made (w4.setCell ⟨q, 8, none⟩ (.slice za zl zc)) #[.int .i64 rv] 2; simpa using this)
    go_wp2_with (refine list_app1 rfl (.tmp 51) (.tmp 53) 143 2 rfl Tryz.underlying143 hj1 hy0 hy1 hy2 rfl (by decide) (.slice pa pl pc) t.places.length (t.places.map (.int .i64)) rfl HJ.out w4.heap.size [.int .i64 rv] rfl NP.out rfl (by simp [Value.oneCell']) (by have := SM.out; omega) (by have := SM.out; unfold maxLen; omega) ?_)
    intro v6 w6 o6 g6 e6
    obtain ⟨ya, yl, yc, rfl⟩ := own_isSl o6
    have k6 := (Below.keeps (M := fun i => (Value.slice pa pl pc).ownBlock = some i) ((Below.refl _ (w4.setCell ⟨q, 8, none⟩ (.slice za zl zc))).alloc (Nat.le_refl _) (Obj.cells #[.int .i64 rv] 2))).trans (grown_keep g6)
    have HS6 := Lib.hid (HS4.out.pushP rv (by have := SM.out; simp only [List.length_append, List.length_singleton]; omega) k6 o6 (e6.imp id fun h => ⟨_, h, by simp⟩))
    have f9 : w6.frozen? ⟨q, 9, none⟩ = false := (HS4.out.b.keep k6 HS4.out.qd.2).frozen 9
    have c96 : w6.cell? ⟨q, 9, none⟩ = some (.slice pa pl pc) := Blk.cell (HS4.out.b.keep k6 HS4.out.qd.2) 9
    clear k6 o6 g6 e6
    go_wp2
    all_goals (refine bodyPost_end (results_none rfl _ _ _) rfl ?_; refine ⟨rfl, HS6.out.e ?_⟩; rw [HEN.out, ← HEV.out, ← HRV.out, if_pos rfl])
   ·go_wp2
    all_goals (refine bodyPost_end (results_none rfl _ _ _) rfl ?_; refine ⟨rfl, HS4.out.e ?_⟩; rw [HEN.out, ← HEV.out, if_neg hz])
def filC : ChP putMac where
 τ := FilT
 mo := fun t => (t.mo, t)
 en := fun m t => t.en m
 fu := fun t => t.left.length + 2
 ok := fun t => t.left ≠ []
theorem putInit_ne (c : PutC) : (PutC.init c).e ≠ 5 := by
 show c.e0 ≠ 5
 unfold PutC.e0
 split
 ·split <;> decide
 ·decide
theorem fil_mo_nil (h : t.left = []) : filC.mo t = (none, t) := by
 show (t.mo, t) = ((none, t) : Option PutM × FilT)
 unfold FilT.mo
 simp only [h]
theorem fil_mo_cons {x : Int × List Int} {r : List (Int × List Int)} (h : t.left = x :: r) : filC.mo t = (some (PutC.init ⟨t.b, t.s, x.1, x.2⟩), t) := by
 show (t.mo, t) = ((some (PutC.init ⟨t.b, t.s, x.1, x.2⟩), t) : Option PutM × FilT)
 unfold FilT.mo
 simp only [h]
theorem fil_settle (n : Nat) : ∀ t : FilT, t.left.length ≤ n → filC.fin (filC.settle n (filC.mo t)) := by
 induction n with
 | zero => exact fun t h => filC.fin_mo 0 (fil_mo_nil (List.eq_nil_of_length_eq_zero (by omega))) (filC.fin_none 0 t)
 | succ n ih =>
  intro t h
  cases hl : t.left with
  | nil => exact filC.fin_mo _ (fil_mo_nil hl) (filC.fin_none _ t)
  | cons x r =>
   refine filC.fin_mo _ (fil_mo_cons hl) ?_
   by_cases hv : (PutC.init ⟨t.b, t.s, x.1, x.2⟩).live = true
   ·exact filC.fin_live _ _ _ hv
   ·refine filC.fin_dead _ _ _ (Bool.eq_false_iff.2 hv) (ih _ ?_)
    show (t.en _).left.length ≤ n
    unfold FilT.en
    rw [if_neg (fun hc => putInit_ne _ hc.1)]
    show t.left.tail.length ≤ n
    rw [hl] at h ⊢
    simpa using h
theorem fil_enough : filC.Enough where
 all := fun m t _ => by
  show filC.fin (filC.settle (FilT.left t).length.succ.succ (some m, t))
  by_cases hv : PutM.live m = true
  ·exact filC.fin_live _ m t hv
  ·refine filC.fin_dead _ m t (Bool.eq_false_iff.2 hv) (fil_settle _ _ ?_)
   show (FilT.en t m).left.length ≤ _
   unfold FilT.en
   split
   ·show (FilT.left t).length ≤ _
    omega
   ·show (FilT.left t).tail.length ≤ _
    simp only [List.length_tail]
    omega
 mo := fun t => fil_settle _ _ (by show (FilT.left t).length ≤ (FilT.left t).length + 2; omega)
theorem filEnded_any (hb : Blk w q (filV q nv g t lv dv pv)) (hd : FilD w L t lv dv pv) (hp : PutF w F1 p m) (hq : ¬ L q ∧ ¬ F1 q) (hdq : dv.ownBlock ≠ some q ∧ pv.ownBlock ≠ some q)
  (hdf : ∀ i, F1 i → dv.ownBlock ≠ some i ∧ pv.ownBlock ≠ some i) (hl : t.left ≠ []) :
  Calls Tryz.prog 48 #[ptr q, ptr p] w fun e w' => e = .returned (.tuple #[]) ∧ FilE w q p L F1 g m t nv dv pv w' := by
 by_cases he : m.e = 5 ∧ 0 < t.tries
 ·exact filEnded_full hb hd hp hq hdq he.1 he.2
 ·cases h : t.left with
  | nil => exact absurd h hl
  | cons x r => exact filEnded_done hb hd hp hq hdq hdf he h
theorem FilP.put {q : Nat} {L F1 F2 : Nat → Prop} (h : FilP w q L F1 f nv lv dv pv) (cur : Option PutM) (nv' : Value) (hc : FilC w F2 nv' cur) (hd : ∀ i, F2 i → i < w.heap.size ∧ ¬ FilO q L F1 dv pv i) :
  FilP ((w.setCell ⟨q, 0, none⟩ nv').setCell ⟨q, 3, none⟩ (.bool cur.isSome)) q L F2 ⟨cur, f.t⟩ nv' lv dv pv := by
 have ks : Keep (fun i => i = q) w ((w.setCell ⟨q, 0, none⟩ nv').setCell ⟨q, 3, none⟩ (.bool cur.isSome)) := ((Keep.refl (fun i => i = q) w).setCell (p := ⟨q, 0, none⟩) (.inl rfl) _).setCell (p := ⟨q, 3, none⟩) (.inl rfl) _
 have hO : ∀ i, F2 i → i ≠ q ∧ ¬ L i ∧ dv.ownBlock ≠ some i ∧ pv.ownBlock ≠ some i := fun i hi => ⟨fun e => (hd i hi).2 (.inl e), fun e => (hd i hi).2 (.inr (.inl e)), fun e => (hd i hi).2 (.inr (.inr (.inl e))), fun e => (hd i hi).2 (.inr (.inr (.inr (.inl e))))⟩
 exact ⟨(h.blk.set 0 nv').set 3 (.bool cur.isSome), h.d.keep ks (fun i hi e => h.nq.1 (e ▸ hi)) (fun i hi e => h.qd.1 (e ▸ hi)) (fun i hi e => h.qd.2 (e ▸ hi)), hc.keep ks (fun i hi e => (hO i hi).1 e), ⟨h.nq.1, fun e => (hO q e).1 rfl⟩, h.qd, fun i hi => ⟨Nat.lt_of_lt_of_le (hd i hi).1 ks.size, (hO i hi).2⟩⟩
def FilQ (w : World) (q : Nat) (F : Nat → Prop) (cur : Option PutM) (t : FilT) : Prop := ∃ L F1 nv lv dv pv, FilP w q L F1 ⟨cur, t⟩ nv lv dv pv ∧ (∀ i, FilO q L F1 dv pv i → F i) ∧ ∀ i, F i → i < w.heap.size
def filK : ChK where
 C := putFamS
 c := filC
 mor := 47
 enf := 48
 enm := enFilMore
 ene := enFilEnded
 xok := fun x => inU x.v
 xan := fun _ _ hx => ⟨hx.v0, hx.v1⟩
 xtk := fun {w F q s x s0 sl sc} h hl hx hr => by
  refine (pTake_f x s0 sl sc w h hx).mono ?_
  rintro e w' ⟨rfl, F', h1, h2, h3⟩
  exact ⟨rfl, F', h1, h2, h3⟩
 a1 := fun q _ => #[ptr q]
 a2 := fun _ _ => #[]
 P := FilQ
 dom := fun {w q F cur t} ⟨L, F1, nv, lv, dv, pv, h, hO, hF⟩ => ⟨hO q (.inl rfl), hF⟩
 mono := fun {w q cur t F F'} ⟨L, F1, nv, lv, dv, pv, h, hO, hF⟩ h1 h2 => ⟨L, F1, nv, lv, dv, pv, h, fun i hi => h1 i (hO i hi), h2⟩
 keep := fun {w w' q F cur t K} ⟨L, F1, nv, lv, dv, pv, h, hO, hF⟩ k hd => ⟨L, F1, nv, lv, dv, pv, h.keep k (hd q (hO q (.inl rfl))) (fun i hi => hd i (hO i (.inr (.inl hi)))) (fun i hi => hd i (hO i (.inr (.inr (.inl hi))))) (fun i hi => hd i (hO i (.inr (.inr (.inr (.inl hi)))))) (fun i hi => hd i (hO i (.inr (.inr (.inr (.inr hi)))))), hO, fun i hi => Nat.lt_of_lt_of_le (hF i hi) k.size⟩
 cells := fun {w q F cur t} ⟨L, F1, nv, lv, dv, pv, h, hO, hF⟩ => by
  obtain ⟨c0, c1, c2, c3, _⟩ := h.cells
  exact ⟨nv, 0, c0, c1, c2, c3, h.blk.frozen 0, h.blk.frozen 3⟩
 mach := fun {w q F m t nv0} ⟨L, F1, nv, lv, dv, pv, h, hO, hF⟩ hc => by
  obtain ⟨c0, _⟩ := h.cells
  rw [c0] at hc
  obtain rfl : nv = nv0 := Option.some.inj hc
  obtain ⟨p, e, hp⟩ := h.c
  refine ⟨p, F1, e, hp, fun i hi => ⟨hO i (.inr (.inr (.inr (.inr hi)))), fun e => h.nq.2 (e ▸ hi)⟩, ?_⟩
  intro w' m' F1' k hp' hg
  have h1 : ∀ i, L i → ¬ F1 i := fun i hi hf => (h.f1 i hf).2.1 hi
  have h2 : ∀ i, dv.ownBlock = some i → ¬ F1 i := fun i hi hf => (h.f1 i hf).2.2.1 hi
  have h3 : ∀ i, pv.ownBlock = some i → ¬ F1 i := fun i hi hf => (h.f1 i hf).2.2.2 hi
  have hp2 : PutF w' F1' p m' := hp'
  refine ⟨L, F1', nv, lv, dv, pv, ⟨h.blk.keep k h.nq.2, h.d.keep k h1 h2 h3, ⟨p, e, hp2⟩, ⟨h.nq.1, fun hi => ?_⟩, h.qd, fun i hi => ⟨hp2.2.1 i hi, ?_⟩⟩, ?_, ?_⟩
  ·rcases hg q hi with h4 | h4
   ·exact h.nq.2 h4
   ·have := h.blk.lt
    omega
  ·rcases hg i hi with h4 | h4
   ·exact (h.f1 i h4).2
   ·exact ⟨fun hl => by have := h.d.ll i hl; omega, fun hl => by have := (World.ownsRow.lt h.d.od i hl).2; omega, fun hl => by have := (World.ownsRow.lt h.d.op i hl).2; omega⟩
  ·rintro i (hi | hi | hi | hi | hi)
   ·exact .inl (hO i (.inl hi))
   ·exact .inl (hO i (.inr (.inl hi)))
   ·exact .inl (hO i (.inr (.inr (.inl hi))))
   ·exact .inl (hO i (.inr (.inr (.inr (.inl hi)))))
   ·exact .inr hi
  ·rintro i (hi | hi)
   ·exact Nat.lt_of_lt_of_le (hF i hi) k.size
   ·exact hp2.2.1 i hi
 more := fun {w q F cur t} ⟨L, F1, nv, lv, dv, pv, h, hO, hF⟩ => by
  refine (filMore_any h).mono ?_
  rintro e w' ⟨b, hx⟩
  refine ⟨Below.keeps b, ⟨L, F1, nv, lv, dv, pv, h.below b, hO, fun i hi => Nat.lt_of_lt_of_le (hF i hi) b.size⟩, ?_⟩
  rcases hx with hx | ⟨m, p, h1, h2, h3⟩
  ·exact .inl hx
  ·exact .inr ⟨m, p, (fun i => w.heap.size ≤ i ∧ i < w'.heap.size), h1, h2, h3, fun i hi => hi.1, fun e => by
    have h1 : (FilT.mo t) = some m := h1
    have : FilT.mo t = none := by unfold FilT.mo; rw [show FilT.left t = [] from e]
    rw [this] at h1
    cases h1⟩
 ended := fun {w q F m t p bx} ⟨L, F1, nv, lv, dv, pv, h, hO, hF⟩ ok hc _ => by
  obtain ⟨c0, _⟩ := h.cells
  rw [c0] at hc
  obtain rfl : nv = ptr p := Option.some.inj hc
  obtain ⟨p', e, hp⟩ := h.c
  obtain rfl : p = p' := by unfold ptr at e; injection e with e; injection e with e; injection e
  show Calls Tryz.prog 48 (#[ptr q] ++ #[ptr p] ++ #[]) w _
  rw [show (#[ptr q] ++ #[ptr p] ++ #[] : Array Value) = #[ptr q, ptr p] from rfl]
  refine Calls.mono (filEnded_any (g := true) h.blk h.d hp h.nq h.qd (fun i hi => (h.f1 i hi).2.2) ok) ?_
  rintro e w' ⟨rfl, k, lv', dv', pv', hb, hd, hp2, ho1, ho2⟩
  have z := k.size
  refine ⟨rfl, Blk.cell hb 0, Blk.cell hb 2, FilO q L F1 dv' pv', ⟨L, F1, ptr p, lv', dv', pv', ⟨hb, hd, ⟨p, rfl, hp2⟩, h.nq, ?_, ?_⟩, fun i hi => hi, ?_⟩, ?_, ?_⟩
  ·refine ⟨?_, ?_⟩
   ·rcases ho1 with e | ⟨j, e, hj⟩
    ·rw [e]; exact h.qd.1
    ·rw [e]; intro hh; cases hh; have := h.blk.lt; omega
   ·rcases ho2 with e | ⟨j, e, hj⟩
    ·rw [e]; exact h.qd.2
    ·rw [e]; intro hh; cases hh; have := h.blk.lt; omega
  ·intro i hi
   have hlt := hp.2.1 i hi
   refine ⟨by omega, (h.f1 i hi).2.1, ?_, ?_⟩
   ·rcases ho1 with e | ⟨j, e, hj⟩
    ·rw [e]; exact (h.f1 i hi).2.2.1
    ·rw [e]; intro hh; cases hh; omega
   ·rcases ho2 with e | ⟨j, e, hj⟩
    ·rw [e]; exact (h.f1 i hi).2.2.2
    ·rw [e]; intro hh; cases hh; omega
  ·rintro i (hi | hi | hi | hi | hi)
   ·rw [hi]; exact hb.lt
   ·exact hd.ll i hi
   ·exact (World.ownsRow.lt hd.od i hi).2
   ·exact (World.ownsRow.lt hd.op i hi).2
   ·exact hp2.2.1 i hi
  ·rintro i (hi | hi | hi | hi | hi)
   ·exact .inl (hO i (.inl hi))
   ·exact .inl (hO i (.inr (.inl hi)))
   ·rcases ho1 with e | ⟨j, e, hj⟩
    ·exact .inl (hO i (.inr (.inr (.inl (e ▸ hi)))))
    ·rw [e] at hi; cases hi; exact .inr hj
   ·rcases ho2 with e | ⟨j, e, hj⟩
    ·exact .inl (hO i (.inr (.inr (.inr (.inl (e ▸ hi))))))
    ·rw [e] at hi; cases hi; exact .inr hj
   ·exact .inl (hO i (.inr (.inr (.inr (.inr hi)))))
  ·refine k.mono ?_
   rintro i _ (hi | hi | hi)
   ·exact hO i (.inl hi)
   ·exact hO i (.inr (.inr (.inl hi)))
   ·exact hO i (.inr (.inr (.inr (.inl hi))))
 setN := fun {w q F cur t} ⟨L, F1, nv, lv, dv, pv, h, hO, hF⟩ => by
  have h' := h.put (F2 := fun _ => False) none (.pointer none) rfl (fun i hi => hi.elim)
  refine ⟨L, _, _, lv, dv, pv, h', ?_, fun i hi => by have := hF i hi; simpa using this⟩
  rintro i (hi | hi | hi | hi | hi)
  ·exact hO i (.inl hi)
  ·exact hO i (.inr (.inl hi))
  ·exact hO i (.inr (.inr (.inl hi)))
  ·exact hO i (.inr (.inr (.inr (.inl hi))))
  ·exact hi.elim
 setS := fun {w q F cur t m p F2} ⟨L, F1, nv, lv, dv, pv, h, hO, hF⟩ hp hd => by
  have hp2 : PutF w F2 p m := hp
  have h' := h.put (F2 := F2) (some m) (ptr p) ⟨p, rfl, hp2⟩ (fun i hi => ⟨hp2.2.1 i hi, fun ho => hd i hi (hO i ho)⟩)
  refine ⟨L, F2, _, lv, dv, pv, h', ?_, ?_⟩
  ·rintro i (hi | hi | hi | hi | hi)
   ·exact .inl (hO i (.inl hi))
   ·exact .inl (hO i (.inr (.inl hi)))
   ·exact .inl (hO i (.inr (.inr (.inl hi))))
   ·exact .inl (hO i (.inr (.inr (.inr (.inl hi)))))
   ·exact .inr hi
  ·rintro i (hi | hi)
   ·have := hF i hi; simpa using this
   ·have := hp2.2.1 i hi; simpa using this
end Go.Proofs.YtggjhleomocojaaGreat
end
