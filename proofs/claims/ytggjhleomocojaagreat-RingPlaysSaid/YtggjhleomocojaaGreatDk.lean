/- Chains of machines, one behind the other: as plain machines, and what must be known of an owner in memory. Conditions: none. -/
import Derived.Test.YtggjhleomocojaaGreatQb
namespace Go.Proofs.YtggjhleomocojaaGreat
set_option maxRecDepth 100000
open Go.RowKit
set_option linter.unusedVariables false
set_option linter.unusedSimpArgs false
theorem aaZ_wf : aaZ.wf := ⟨fun _ h => (List.not_mem_nil h).elim, by decide, by decide, by decide, by decide, by decide⟩
structure ChP (M : Mac) where
 τ : Type
 mo : τ → Option M.σ × τ
 en : M.σ → τ → τ
 fu : τ → Nat
 ok : τ → Prop
def ChP.settle {M : Mac} (c : ChP M) : Nat → Option M.σ × c.τ → Option M.σ × c.τ
 | 0, f => f
 | _ + 1, (none, t) => (none, t)
 | n + 1, (some m, t) => if M.live m then (some m, t) else c.settle n (c.mo (c.en m t))
def ChP.fin {M : Mac} (c : ChP M) (f : Option M.σ × c.τ) : Prop := ∀ m, f.1 = some m → M.live m = true
def ChP.okay {M : Mac} (c : ChP M) (f : Option M.σ × c.τ) : Prop := f.1.isSome = true → c.ok f.2
def ChP.start {M : Mac} (c : ChP M) (t : c.τ) : Option M.σ × c.τ := c.settle (c.fu t) (c.mo t)
def ChP.want {M : Mac} (c : ChP M) (f : Option M.σ × c.τ) : AA := match f.1 with
 | none => aaZ
 | some m => M.want m
def ChP.step {M : Mac} (c : ChP M) (f : Option M.σ × c.τ) (x : AN) : Option M.σ × c.τ := match f with
 | (none, t) => (none, t)
 | (some m, t) => c.settle (c.fu t) (some (M.step m x), t)
def ChP.mac {M : Mac} (c : ChP M) : Mac := ⟨Option M.σ × c.τ, fun f => f.1.isSome, c.want, c.step⟩
variable {M : Mac}
theorem ChP.settle_none (c : ChP M) (n : Nat) (t : c.τ) : c.settle n (none, t) = (none, t) := by cases n <;> rfl
theorem ChP.settle_live (c : ChP M) (n : Nat) (m : M.σ) (t : c.τ) (h : M.live m = true) : c.settle n (some m, t) = (some m, t) := by
 cases n with
 | zero => rfl
 | succ n => exact if_pos h
theorem ChP.settle_dead (c : ChP M) (n : Nat) (m : M.σ) (t : c.τ) (h : M.live m = false) : c.settle (n + 1) (some m, t) = c.settle n (c.mo (c.en m t)) := if_neg (by rw [h]; exact Bool.false_ne_true)
theorem ChP.okay_none (c : ChP M) (t : c.τ) : c.okay (none, t) := fun h => by cases h
theorem ChP.fin_none (c : ChP M) (n : Nat) (t : c.τ) : c.fin (c.settle n (none, t)) := by
 rw [c.settle_none]
 intro m h
 cases h
theorem ChP.fin_live (c : ChP M) (n : Nat) (m : M.σ) (t : c.τ) (h : M.live m = true) : c.fin (c.settle n (some m, t)) := by
 rw [c.settle_live _ _ _ h]
 intro m' h'
 cases h'
 exact h
theorem ChP.fin_dead (c : ChP M) (n : Nat) (m : M.σ) (t : c.τ) (h : M.live m = false) (hf : c.fin (c.settle n (c.mo (c.en m t)))) : c.fin (c.settle (n + 1) (some m, t)) := by
 rw [c.settle_dead _ _ _ h]
 exact hf
theorem ChP.fin_mo (c : ChP M) (n : Nat) {t : c.τ} {f : Option M.σ × c.τ} (h : c.mo t = f) (hf : c.fin (c.settle n f)) : c.fin (c.settle n (c.mo t)) := h ▸ hf
structure ChP.Enough {M : Mac} (c : ChP M) : Prop where
 all : ∀ m t, c.ok t → c.fin (c.settle (c.fu t) (some m, t))
 mo : ∀ t, c.fin (c.settle (c.fu t) (c.mo t))
theorem ChP.fin_step (c : ChP M) (he : c.Enough) (f : Option M.σ × c.τ) (x : AN) (h : c.fin f) (ho : c.okay f) : c.fin (c.step f x) := by
 obtain ⟨cur, t⟩ := f
 cases cur with
 | none => exact h
 | some m => exact he.all _ _ (ho rfl)
structure ChK where
 C : Fam
 c : ChP C.M
 mor : FuncId
 enf : FuncId
 enm : En mor
 ene : En enf
 xok : AN → Prop
 xan : ∀ {w F q s x}, C.inv w F q s → C.M.live s = true → AN.ok (C.M.want s) x → xok x
 xtk : ∀ {w F q s x s0 sl sc}, C.inv w F q s → C.M.live s = true → xok x → RdB w (.slice s0 sl sc) x.b →
  Calls Tryz.prog (C.ft s) #[.pointer (some ⟨q, 0, none⟩), .agg #[.int .u64 x.v, .bool x.d, .slice s0 sl sc]] w fun e w' => e = .returned (.tuple #[]) ∧ ∃ F', C.inv w' F' q (C.M.step s x) ∧ (∀ i, F' i → F i ∨ w.heap.size ≤ i) ∧ Keep F w w'
 a1 : Nat → Nat → Array Value
 a2 : Nat → Nat → Array Value
 P : World → Nat → (Nat → Prop) → Option C.M.σ → c.τ → Prop
 dom : ∀ {w q F cur t}, P w q F cur t → F q ∧ ∀ i, F i → i < w.heap.size
 mono : ∀ {w q cur t} {F F' : Nat → Prop}, P w q F cur t → (∀ i, F i → F' i) → (∀ i, F' i → i < w.heap.size) → P w q F' cur t
 keep : ∀ {w w' q F cur t} {K : Nat → Prop}, P w q F cur t → Keep K w w' → (∀ i, F i → ¬ K i) → P w' q F cur t
 cells : ∀ {w q F cur t}, P w q F cur t → ∃ nv bx, w.cell? ⟨q, 0, none⟩ = some nv ∧ w.cell? ⟨q, 1, none⟩ = some (.func (.func mor) #[ptr q] #[]) ∧ w.cell? ⟨q, 2, none⟩ = some (.func (.func enf) (a1 q bx) (a2 q bx)) ∧ w.cell? ⟨q, 3, none⟩ = some (.bool cur.isSome) ∧
  w.frozen? ⟨q, 0, none⟩ = false ∧ w.frozen? ⟨q, 3, none⟩ = false
 mach : ∀ {w q F m t nv}, P w q F (some m) t → w.cell? ⟨q, 0, none⟩ = some nv → ∃ p F1, nv = ptr p ∧ C.inv w F1 p m ∧ (∀ i, F1 i → F i ∧ i ≠ q) ∧
  ∀ w' m' F1', Keep F1 w w' → C.inv w' F1' p m' → (∀ i, F1' i → F1 i ∨ w.heap.size ≤ i) → P w' q (fun i => F i ∨ F1' i) (some m') t
 more : ∀ {w q F cur t}, P w q F cur t → Calls Tryz.prog mor #[ptr q] w fun e w' => Keep F w w' ∧ P w' q F cur (c.mo t).2 ∧
  (((c.mo t).1 = none ∧ e = .returned (.tuple #[.pointer none, .bool false])) ∨ ∃ m p F2, (c.mo t).1 = some m ∧ e = .returned (.tuple #[ptr p, .bool true]) ∧ C.inv w' F2 p m ∧ (∀ i, F2 i → w.heap.size ≤ i) ∧ c.ok (c.mo t).2)
 ended : ∀ {w q F m t p bx}, P w q F (some m) t → c.ok t → w.cell? ⟨q, 0, none⟩ = some (ptr p) → w.cell? ⟨q, 2, none⟩ = some (.func (.func enf) (a1 q bx) (a2 q bx)) →
  Calls Tryz.prog enf (a1 q bx ++ #[ptr p] ++ a2 q bx) w fun e w' => e = .returned (.tuple #[]) ∧ w'.cell? ⟨q, 0, none⟩ = some (ptr p) ∧ w'.cell? ⟨q, 2, none⟩ = some (.func (.func enf) (a1 q bx) (a2 q bx)) ∧ ∃ F', P w' q F' (some m) (c.en m t) ∧ (∀ i, F' i → F i ∨ w.heap.size ≤ i) ∧ Keep F w w'
 setN : ∀ {w q F cur t}, P w q F cur t → P ((w.setCell ⟨q, 0, none⟩ (.pointer none)).setCell ⟨q, 3, none⟩ (.bool false)) q F none t
 setS : ∀ {w q F cur t m p F2}, P w q F cur t → C.inv w F2 p m → (∀ i, F2 i → ¬ F i) → P ((w.setCell ⟨q, 0, none⟩ (ptr p)).setCell ⟨q, 3, none⟩ (.bool true)) q (fun i => F i ∨ F2 i) (some m) t
theorem ChK.below (K : ChK) {w w' : World} {q : Nat} {F : Nat → Prop} {cur : Option K.C.M.σ} {t : K.c.τ} (h : K.P w q F cur t) (b : Below w.heap.size w w') : K.P w' q F cur t :=
 K.keep h (Below.keeps (M := fun _ => False) b) (fun _ _ => id)
def Mac.Q (M : Mac) : Mac := ⟨Nat × M.σ, fun s => M.live s.2, fun s => M.want s.2, fun s x => (s.1, M.step s.2 x)⟩
def Fam.Q (C : Fam) : Fam where
 M := C.M.Q
 inv := fun w F q s => q = s.1 ∧ C.inv w F q s.2
 ty := fun s => C.ty s.2
 fn := fun s => C.fn s.2
 ft := fun s => C.ft s.2
 mn := fun s b w => C.mn s.2 b w
 mt := fun s b w => C.mt s.2 b w
 en := fun s args w => C.en s.2 args w
 et := fun s args w => C.et s.2 args w
 ts := fun s x => C.ts s.2 x
 dom := fun h => C.dom h.2
 mono := fun h h1 h2 => ⟨h.1, C.mono h.2 h1 h2⟩
 keep := fun h k hd => ⟨h.1, C.keep h.2 k hd⟩
 wf := fun h => C.wf h.2
 next := fun h => C.next h.2
 take := fun {w F q s x s0 sl sc} h hl hx hr => by
  refine (C.take h.2 hl hx hr).mono ?_
  rintro e w' ⟨rfl, F', h1, h2, h3⟩
  exact ⟨rfl, F', ⟨h.1, h1⟩, h2, h3⟩
def putFamS : Fam where
 M := putMac
 inv := fun w F q s => PutF w F q s
 ty := fun _ => 97
 fn := fun _ => 214
 ft := fun _ => 215
 mn := fun _ b w => pM_next b w
 mt := fun _ b w => pM_take b w
 en := fun _ args w => enPN args w
 et := fun _ args w => enPT args w
 ts := fun _ _ => rfl
 dom := fun h => ⟨h.1, h.2.1⟩
 mono := fun h h1 h2 => h.mono h1 h2
 keep := fun h k hd => h.keep k hd
 wf := fun {w F q s} h => by
  obtain ⟨_, _, O, bv, hO, hI⟩ := h
  exact hI.fine.wf
 next := fun {w F q s} h => by
  obtain ⟨_, _, O, bv, hO, hI⟩ := h
  exact pNext_any w hI
 take := fun {w F q s x s0 sl sc} h hl hx hr => by
  refine (pTake_f x s0 sl sc w h ⟨hx.v0, hx.v1⟩).mono ?_
  rintro e w' ⟨rfl, F', h1, h2, h3⟩
  exact ⟨rfl, F', h1, h2, h3⟩
end Go.Proofs.YtggjhleomocojaaGreat
