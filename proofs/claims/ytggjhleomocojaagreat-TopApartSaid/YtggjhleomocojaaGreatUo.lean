/- The seven actors of TopApart in memory: a row of machines under way, their world, its picks, what stays. Conditions: as each says. -/
import Derived.Test.YtggjhleomocojaaGreatUe
import Derived.Test.YtggjhleomocojaaGreatYw
import Derived.Test.YtggjhleomocojaaGreatNf
import Derived.Test.YtggjhleomocojaaGreatNv
namespace Go.Proofs.YtggjhleomocojaaGreat
set_option maxRecDepth 100000
open Go.RowKit
set_option linter.unusedVariables false
set_option linter.unusedSimpArgs false
def apFam : Fam := Fam.Sum (Fam.Sum filFam draFam) (Fam.Sum casFam relFam)
def apQ : Fam := Fam.Q apFam
abbrev ApQS : Type := Nat × ApS
def apF (s : apQ.M.σ) : apM.σ := (s : ApQS).2
theorem apHom : Mac.Hom apQ.M apM apF := ⟨fun _ => rfl, fun _ => rfl, fun _ _ => rfl⟩
def apK (y : ApS) : Nat := match y with
 | .inl (.inl _) => 0
 | .inl (.inr _) => 1
 | .inr (.inl _) => 2
 | .inr (.inr _) => 3
def apG (s : apQ.M.σ) : Nat × Nat := ((s : ApQS).1, apK (s : ApQS).2)
theorem apG_step (s : apQ.M.σ) (x : AN) : apG (apQ.M.step s x) = apG s := by
 have h : ∀ z : ApQS, apG (apQ.M.step z x) = apG z := by
  rintro ⟨q, (y | y) | (y | y)⟩ <;> rfl
 exact h s
theorem apK_1 {y : ApS} (h : apK y = 1) : ∃ d, y = .inl (.inr d) := by
 rcases y with (y | y) | (y | y)
 ·cases h
 ·exact ⟨y, rfl⟩
 ·cases h
 ·cases h
theorem apK_3 {y : ApS} (h : apK y = 3) : ∃ x, y = .inr (.inr x) := by
 rcases y with (y | y) | (y | y)
 ·cases h
 ·cases h
 ·cases h
 ·exact ⟨y, rfl⟩
def apQS (bs : List Int) (r c : Bool) (FL : List (Option PutM × FilT)) (d : Option GetM × DraT) (s : Option SenM × CasT) (x : Option HeaM × RelT) (qs : Nat → Nat) : SW apQ.M.σ := ⟨bs, 0, (List.range 7).map fun i => ⟨(apAt r c FL d s x i).map (fun y => ((qs i, y) : ApQS)), false⟩, 0, []⟩
theorem apQS_map (bs : List Int) (r c : Bool) (FL : List (Option PutM × FilT)) (d : Option GetM × DraT) (s : Option SenM × CasT) (x : Option HeaM × RelT) (qs : Nat → Nat) : mapS apF (apQS bs r c FL d s x qs) = apS bs r c FL d s x := by
 unfold mapS apQS apS
 dsimp only
 rw [List.map_map]
 congr 1
 apply List.map_congr_left
 intro i _
 show mapA apF ⟨(apAt r c FL d s x i).map (fun y => ((qs i, y) : ApQS)), false⟩ = _
 cases apAt r c FL d s x i <;> rfl
theorem pks_add (M : Mac) (js : List Nat) (j : Nat) (S : SW M.σ) : M.pks (js ++ [j]) S = (M.pick (M.pks js S) 0 (j : Int) 0).1 := by
 unfold Mac.pks
 rw [List.foldl_append]
 rfl
structure ApAt (wm wr : World) (κm κ : Nat → Kd) (W p c : Nat) (av tv : Value) (ab : Nat → Nat) (n : Nat) (S0 S : SW apQ.M.σ) (js : List Nat) : Prop where
 wo : WoIn apQ wr κ W p c av tv ab S
 eq : S = apQ.M.pks js S0
 kd : ∀ i, i < wm.heap.size → κ i = κm i
 kp : Keep (fun i => κm i ≠ .no) wm wr
 c0 : 0 ≤ S.cnt
 c1 : S.cnt ≤ n
 tr : S.tr.length ≤ n
theorem ApAt.pick {wm wr w' : World} {κm κ : Nat → Kd} {W p c : Nat} {av tv : Value} {ab : Nat → Nat} {n : Nat} {S0 S : SW apQ.M.σ} {js : List Nat} {e : Ending} (h : ApAt wm wr κm κ W p c av tv ab n S0 S js) {j : Nat} (hp : PickPost apQ wr κ W p c av tv ab (apQ.M.pick S 0 j 0) e w') :
  ∃ κ' tv', ApAt wm w' κm κ' W p c av tv' ab (n + 1) S0 (apQ.M.pick S 0 j 0).1 (js ++ [j]) := by
 obtain ⟨_, _, _, _, _, _, _, _, _, κ', tv', hw, hk, _, kp⟩ := hp
 obtain ⟨t1, _, t3, t4⟩ := pick_facts apQ.M S 0 j 0
 have hz := h.kp.size
 exact ⟨κ', tv', hw, by rw [pks_add, ← h.eq], fun i hi => (hk i (by omega)).trans (h.kd i hi), h.kp.then kp (fun i hi hn => by rw [h.kd i hi] at hn; exact hn), by have := h.c0; omega, by have := h.c1; omega, by have := h.tr; omega⟩
structure ApIn (w : World) (U : Nat → Prop) (T : SW apM.σ) (r c : Bool) (p cb qd qx : Nat) : Prop where
 buf : ∃ cnt, Buf w p cb cnt T.bs
 up : U p ∧ U cb
 dra : r = true → ∃ (F : Nat → Prop) (d : Option GetM × DraT) (e : Bool), T.acts[3]? = some ⟨some (Sum.inl (Sum.inr d) : ApS), e⟩ ∧ draFam.inv w F qd d ∧ ∀ i, F i → U i
 rel : c = true → ∃ (F : Nat → Prop) (x : Option HeaM × RelT) (e : Bool), T.acts[5]? = some ⟨some (Sum.inr (Sum.inr x) : ApS), e⟩ ∧ relFam.inv w F qx x ∧ ∀ i, F i → U i
variable {w w' : World}
theorem ApIn.keep {U K : Nat → Prop} {T : SW apM.σ} {r c : Bool} {p cb qd qx : Nat} (h : ApIn w U T r c p cb qd qx) (k : Keep K w w') (hK : ∀ i, U i → ¬ K i) : ApIn w' U T r c p cb qd qx := by
 refine ⟨?_, h.up, fun e => ?_, fun e => ?_⟩
 ·obtain ⟨cnt, hb⟩ := h.buf
  exact ⟨cnt, hb.keep k (hK _ h.up.1) (hK _ h.up.2)⟩
 ·obtain ⟨F, d, e, h1, h2, h3⟩ := h.dra e
  exact ⟨F, d, e, h1, draFam.keep h2 k (fun i hi => hK i (h3 i hi)), h3⟩
 ·obtain ⟨F, x, e, h1, h2, h3⟩ := h.rel e
  exact ⟨F, x, e, h1, relFam.keep h2 k (fun i hi => hK i (h3 i hi)), h3⟩
theorem ApIn.mono {w : World} {U U' : Nat → Prop} {T : SW apM.σ} {r c : Bool} {p cb qd qx : Nat} (h : ApIn w U T r c p cb qd qx) (hU : ∀ i, U i → U' i) : ApIn w U' T r c p cb qd qx := by
 refine ⟨h.buf, ⟨hU _ h.up.1, hU _ h.up.2⟩, fun e => ?_, fun e => ?_⟩
 ·obtain ⟨F, d, e, h1, h2, h3⟩ := h.dra e
  exact ⟨F, d, e, h1, h2, fun i hi => hU i (h3 i hi)⟩
 ·obtain ⟨F, x, e, h1, h2, h3⟩ := h.rel e
  exact ⟨F, x, e, h1, h2, fun i hi => hU i (h3 i hi)⟩
theorem tags_at {S S0 : SW apQ.M.σ} (h : tags apG S = tags apG S0) {i q k : Nat} (h0 : (tags apG S0)[i]? = some (some (q, k))) : ∃ (y : ApS) (e : Bool), S.acts[i]? = some ⟨some ((q, y) : ApQS), e⟩ ∧ apK y = k := by
 rw [← h] at h0
 have h0 : (S.acts.map (fun a => a.m.map apG))[i]? = some (some (q, k)) := h0
 rw [List.getElem?_map] at h0
 obtain ⟨a, ha, h1⟩ := Option.map_eq_some_iff.1 h0
 obtain ⟨m, e⟩ := a
 obtain ⟨z, hz, h2⟩ := Option.map_eq_some_iff.1 h1
 have hz : m = some z := hz
 subst hz
 have hzz : ∀ z : ApQS, apG z = (q, k) → z.1 = q ∧ apK z.2 = k := fun z hz => by
  injection (show (z.1, apK z.2) = (q, k) from hz) with a b
  exact ⟨a, b⟩
 obtain ⟨a1, a2⟩ := hzz z h2
 refine ⟨(z : ApQS).2, e, ha.trans ?_, a2⟩
 rw [← a1]
 rfl
variable {FL : List (Option PutM × FilT)} {d : Option GetM × DraT} {x : Option HeaM × RelT} {qs : Nat → Nat}
theorem ApAt.done {wm wr : World} {κm κ : Nat → Kd} {W p c : Nat} {av tv : Value} {ab : Nat → Nat} {n : Nat} {bs : List Int} {r cc : Bool} {s : Option SenM × CasT} {S : SW apQ.M.σ} {js : List Nat} (h : ApAt wm wr κm κ W p c av tv ab n (apQS bs r cc FL d s x qs) S js) {lo : Nat} (hlo : ∀ i, κm i ≠ .no → lo ≤ i) (hlm : lo ≤ wm.heap.size) :
  ApIn wr (fun i => lo ≤ i ∧ i < wr.heap.size) (apM.pks js (apS bs r cc FL d s x)) r cc p c (qs 3) (qs 5) := by
 have hT : apM.pks js (apS bs r cc FL d s x) = mapS apF S := by rw [h.eq, ← apHom.pks, apQS_map]
 have hk : ∀ i, κ i ≠ .no → lo ≤ i ∧ i < wr.heap.size := fun i hi => by
  have := h.wo.all i hi
  by_cases hm : i < wm.heap.size
  ·exact ⟨hlo i (by rw [← h.kd i hm]; exact hi), this⟩
  ·exact ⟨by omega, this⟩
 have htg : tags apG S = tags apG (apQS bs r cc FL d s x qs) := by
  rw [h.eq]
  exact pks_tags apG_step js _
 have hact : ∀ (i : Nat) (y : ApS) (e : Bool) (q : Nat), S.acts[i]? = some ⟨some ((q, y) : ApQS), e⟩ → (mapS apF S).acts[i]? = some ⟨some y, e⟩ ∧ apFam.inv wr (fun k => κ k = .ma i) q y := fun i y e q hi => by
  refine ⟨?_, ?_⟩
  ·show (S.acts.map (mapA apF))[i]? = _
   rw [List.getElem?_map, hi]
   rfl
  ·obtain ⟨_, mv, _, q', _, e2, hv⟩ := h.wo.act i _ hi
   have e2 : q' = q := e2
   subst e2
   exact hv
 rw [hT]
 refine ⟨⟨S.cnt, h.wo.buf⟩, ⟨hk p (by rw [h.wo.kp]; nofun), hk c (by rw [h.wo.kc]; nofun)⟩, fun e => ?_, fun e => ?_⟩
 ·subst e
  obtain ⟨y, e, hy, hk1⟩ := tags_at (i := 3) (q := qs 3) (k := 1) htg rfl
  obtain ⟨d', rfl⟩ := apK_1 hk1
  obtain ⟨a1, a2⟩ := hact 3 _ _ _ hy
  exact ⟨fun k => κ k = Kd.ma 3, d', e, a1, a2, fun i hi => hk i (by rw [hi]; nofun)⟩
 ·subst e
  obtain ⟨y, e, hy, hk1⟩ := tags_at (i := 5) (q := qs 5) (k := 3) htg rfl
  obtain ⟨x', rfl⟩ := apK_3 hk1
  obtain ⟨a1, a2⟩ := hact 5 _ _ _ hy
  exact ⟨fun k => κ k = Kd.ma 5, x', e, a1, a2, fun i hi => hk i (by rw [hi]; nofun)⟩
structure ApMs (w : World) (lo : Nat) (mk : Nat → Option ApS) (qs : Nat → Nat) (Fs : Nat → Nat → Prop) : Prop where
 inv : ∀ i y, mk i = some y → apFam.inv w (Fs i) (qs i) y
 dj : ∀ i j b, Fs i b → Fs j b → i = j
 lt : ∀ i b, Fs i b → lo ≤ b ∧ b < w.heap.size ∧ i < 7
def upF {α : Type} (f : Nat → α) (i : Nat) (a : α) : Nat → α := fun j => if j = i then a else f j
theorem upF_eq {α : Type} (f : Nat → α) (i : Nat) (a : α) : upF f i a i = a := if_pos rfl
theorem upF_ne {α : Type} (f : Nat → α) {i j : Nat} (a : α) (h : j ≠ i) : upF f i a j = f j := if_neg h
variable {Fs : Nat → Nat → Prop}
theorem ApMs.keep {lo : Nat} {mk : Nat → Option ApS} {K : Nat → Prop} (h : ApMs w lo mk qs Fs) (k : Keep K w w') (hK : ∀ b, K b → b < lo) : ApMs w' lo mk qs Fs :=
 ⟨fun i y e => apFam.keep (h.inv i y e) k (fun b hb hk => by have := (h.lt i b hb).1; have := hK b hk; omega), h.dj, fun i b hb => by have := h.lt i b hb; have := k.size; omega⟩
theorem ApMs.add {lo : Nat} {mk : Nat → Option ApS} (h : ApMs w lo mk qs Fs) (b : Below w.heap.size w w') {i : Nat} (hi : i < 7) {y : ApS} {q : Nat} {F : Nat → Prop} (hv : apFam.inv w' F q y) (hF : ∀ b, F b → w.heap.size ≤ b) (hlo : lo ≤ w.heap.size) : ApMs w' lo (upF mk i (some y)) (upF qs i q) (upF Fs i F) := by
 have hk := h.keep (K := fun _ => False) (Below.keeps b) (fun _ => False.elim)
 refine ⟨fun j z e => ?_, fun j k b hj hk' => ?_, fun j b hb => ?_⟩
 ·by_cases hj : j = i
  ·subst hj
   rw [upF_eq] at e
   cases e
   rw [upF_eq, upF_eq]
   exact hv
  ·rw [upF_ne _ _ hj] at e
   rw [upF_ne _ _ hj, upF_ne _ _ hj]
   exact hk.inv j z e
 ·by_cases h1 : j = i <;> by_cases h2 : k = i
  ·omega
  ·subst h1
   rw [upF_eq] at hj
   rw [upF_ne _ _ h2] at hk'
   have := hF b hj
   have := (h.lt k b hk').2.1
   omega
  ·subst h2
   rw [upF_eq] at hk'
   rw [upF_ne _ _ h1] at hj
   have := hF b hk'
   have := (h.lt j b hj).2.1
   omega
  ·rw [upF_ne _ _ h1] at hj
   rw [upF_ne _ _ h2] at hk'
   exact h.dj j k b hj hk'
 ·by_cases h1 : j = i
  ·subst h1
   rw [upF_eq] at hb
   exact ⟨by have := hF b hb; omega, (apFam.dom hv).2 b hb, hi⟩
  ·rw [upF_ne _ _ h1] at hb
   exact hk.lt j b hb
def apV (o : Option ApS) (q : Nat) : Value := match o with
 | none => .nilIface
 | some y => .iface (apFam.ty y) (ptr q)
def rowV (ms : Nat → Option ApS) (qs : Nat → Nat) : List Value := (List.range 7).map fun j => apV (ms j) (qs j)
theorem rowV_at (ms : Nat → Option ApS) (qs : Nat → Nat) {i : Nat} (hi : i < 7) : (rowV ms qs)[i]? = some (apV (ms i) (qs i)) := by
 unfold rowV
 rw [List.getElem?_map, List.getElem?_range hi]
 rfl
theorem rowV_ext {ms ms' : Nat → Option ApS} {qs qs' : Nat → Nat} (h : ∀ j, j < 7 → apV (ms j) (qs j) = apV (ms' j) (qs' j)) : rowV ms qs = rowV ms' qs' := by
 unfold rowV
 apply List.map_congr_left
 intro j hj
 exact h j (List.mem_range.1 hj)
theorem rowV_set {ms : Nat → Option ApS} {i : Nat} (hi : i < 7) (y : ApS) : (rowV ms qs).set i (.iface (apFam.ty y) (ptr (qs i))) = rowV (upF ms i (some y)) qs := by
 apply List.ext_getElem?
 intro j
 have hl : (rowV ms qs).length = 7 := by simp [rowV]
 by_cases h1 : i = j
 ·subst h1
  rw [List.getElem?_set_self (by omega), rowV_at _ _ hi, upF_eq]
  rfl
 ·rw [List.getElem?_set_ne h1]
  by_cases h2 : j < 7
  ·rw [rowV_at _ _ h2, rowV_at _ _ h2, upF_ne _ _ (fun e => h1 e.symm)]
  ·rw [List.getElem?_eq_none_iff.2 (by omega), List.getElem?_eq_none_iff.2 (by simp [rowV]; omega)]
structure ApRow (w : World) (lo g : Nat) (ms mk : Nat → Option ApS) (qs : Nat → Nat) (Fs : Nat → Nat → Prop) : Prop where
 m : ApMs w lo mk qs Fs
 b : Blk w g (rowV ms qs)
 gl : g < lo
 lw : lo ≤ w.heap.size
variable {lo g : Nat} {ms mk : Nat → Option ApS}
theorem ApRow.below (h : ApRow w lo g ms mk qs Fs) (b : Below w.heap.size w w') : ApRow w' lo g ms mk qs Fs :=
 ⟨h.m.keep (K := fun _ => False) (Below.keeps b) (fun _ => False.elim), h.b.below b h.b.lt, h.gl, Nat.le_trans h.lw b.size⟩
theorem ApRow.add (h : ApRow w lo g ms mk qs Fs) (b : Below w.heap.size w w') {i : Nat} (hi : i < 7) (hn : ms i = none) {y : ApS} {q : Nat} {F : Nat → Prop} (hv : apFam.inv w' F q y) (hF : ∀ b, F b → w.heap.size ≤ b) : ApRow w' lo g ms (upF mk i (some y)) (upF qs i q) (upF Fs i F) := by
 refine ⟨h.m.add b hi hv hF h.lw, ?_, h.gl, Nat.le_trans h.lw b.size⟩
 rw [rowV_ext (ms' := ms) (qs' := qs) (fun j hj => ?_)]
 ·exact h.b.below b h.b.lt
 ·by_cases e : j = i
  ·subst e
   rw [hn]
   rfl
  ·rw [upF_ne _ _ e]
theorem ApRow.put {w : World} (h : ApRow w lo g ms mk qs Fs) {i : Nat} (hi : i < 7) (y : ApS) : ApRow (w.setCell ⟨g, i, none⟩ (.iface (apFam.ty y) (ptr (qs i)))) lo g (upF ms i (some y)) mk qs Fs := by
 have ks : Keep (fun b => b = g) w (w.setCell ⟨g, i, none⟩ (.iface (apFam.ty y) (ptr (qs i)))) := (Keep.refl (fun b => b = g) w).setCell (p := ⟨g, i, none⟩) (.inl rfl) _
 exact ⟨h.m.keep ks (fun b hb => by rw [hb]; exact h.gl), (rowV_set hi y) ▸ h.b.set i _, h.gl, Nat.le_trans h.lw ks.size⟩
theorem ApRow.to {w : World} {ms mk ms' mk' : Nat → Option ApS} (h : ApRow w lo g ms mk qs Fs) (h1 : ∀ j, j < 7 → ms' j = ms j) (h2 : ∀ j y, mk' j = some y → mk j = some y) : ApRow w lo g ms' mk' qs Fs :=
 ⟨⟨fun i y e => h.m.inv i y (h2 i y e), h.m.dj, h.m.lt⟩, (rowV_ext (ms := ms) (ms' := ms') (qs := qs) (qs' := qs) (fun j hj => by rw [h1 j hj])) ▸ h.b, h.gl, h.lw⟩
def msF (r : Bool) (FL : List (Option PutM × FilT)) (i j : Nat) : Option ApS := if r = true ∧ j < i then (FL[j]?).map (fun f => .inl (.inl f)) else none
def mkF (r : Bool) (FL : List (Option PutM × FilT)) (i : Nat) (d : Option GetM × DraT) (x : Option HeaM × RelT) (j : Nat) : Option ApS := if j = 3 then some (.inl (.inr d)) else if j = 5 then some (.inr (.inr x)) else msF r FL i j
theorem msF_ge {r : Bool} {i j : Nat} (h : i ≤ j) : msF r FL i j = none := if_neg (by omega)
theorem msF_skip (FL : List (Option PutM × FilT)) (i j : Nat) : msF false FL i j = none := if_neg (by simp)
theorem ApRow.next {i : Nat} (h : ApRow w lo g (msF true FL i) (mkF true FL i d x) qs Fs) (hi : i < 3) (b : Below w.heap.size w w') {f : Option PutM × FilT} (hf : FL[i]? = some f) {q : Nat} {F : Nat → Prop} (hv : filFam.inv w' F q f) (hF : ∀ b, F b → w.heap.size ≤ b) :
  ApRow (w'.setCell ⟨g, i, none⟩ (.iface 63 (ptr q))) lo g (msF true FL (i + 1)) (mkF true FL (i + 1) d x) (upF qs i q) (upF Fs i F) := by
 have h1 := h.add b (i := i) (by omega) (msF_ge (Nat.le_refl _)) (y := .inl (.inl f)) (q := q) (F := F) hv hF
 have h2 := h1.put (i := i) (by omega) (.inl (.inl f))
 rw [upF_eq] at h2
 refine h2.to (fun j hj => ?_) (fun j y e => ?_)
 ·by_cases e : j = i
  ·subst e
   rw [upF_eq]
   unfold msF
   rw [if_pos ⟨rfl, by omega⟩, hf]
   rfl
  ·rw [upF_ne _ _ e]
   unfold msF
   by_cases h9 : j < i
   ·rw [if_pos ⟨rfl, by omega⟩, if_pos ⟨rfl, h9⟩]
   ·rw [if_neg (by omega), if_neg (by omega)]
 ·by_cases e1 : j = i
  ·subst e1
   rw [upF_eq]
   unfold mkF msF at e
   rw [if_neg (show ¬ j = 3 by omega), if_neg (show ¬ j = 5 by omega), if_pos ⟨rfl, by omega⟩, hf] at e
   exact e
  ·rw [upF_ne _ _ e1]
   unfold mkF at e ⊢
   by_cases h3 : j = 3
   ·rw [if_pos h3] at e ⊢
    exact e
   rw [if_neg h3] at e ⊢
   by_cases h5 : j = 5
   ·rw [if_pos h5] at e ⊢
    exact e
   rw [if_neg h5] at e ⊢
   unfold msF at e ⊢
   by_cases h9 : j < i
   ·rw [if_pos ⟨rfl, by omega⟩] at e
    rw [if_pos ⟨rfl, h9⟩]
    exact e
   ·rw [if_neg (by omega)] at e
    cases e
theorem ApRow.skip {w : World} {i k : Nat} (h : ApRow w lo g (msF false FL i) (mkF false FL i d x) qs Fs) : ApRow w lo g (msF false FL k) (mkF false FL k d x) qs Fs :=
 h.to (fun j _ => by rw [msF_skip, msF_skip]) (fun j y e => by
  unfold mkF at e ⊢
  rw [msF_skip] at e ⊢
  exact e)
theorem apNew {w : World} {p c g lo lo0 : Nat} {bs : List Int} {r cc : Bool} {s : Option SenM × CasT} (hB : Buf w p c 0 bs) (hR : ApRow w lo g (apAt r cc FL d s x) (apAt r cc FL d s x) qs Fs) (hp : lo0 ≤ p ∧ p < lo) (hc : lo0 ≤ c ∧ c < lo) :
  Calls Tryz.prog 11 #[.pointer (some ⟨p, 0, none⟩), .slice (some ⟨g, 0, none⟩) 7 7] w fun e w' => ∃ W κ av ab, e = .returned (.pointer (some ⟨W, 0, none⟩)) ∧ ApAt w' w' κ κ W p c av nilSl ab 0 (apQS bs r cc FL d s x qs) (apQS bs r cc FL d s x qs) [] ∧ (∀ i, κ i ≠ .no → lo0 ≤ i) ∧ Below w.heap.size w w' := by
 have hA : Apart w p c 7 Fs := ⟨hR.m.dj, fun i hi => by have := (hR.m.lt i p hi).1; omega, fun i hi => by have := (hR.m.lt i c hi).1; omega, fun i b hb => (hR.m.lt i b hb).2⟩
 have hlw := hR.lw
 refine (rowNew apQ (mv := fun i => apV (apAt r cc FL d s x i) (qs i)) (ms := (List.range 7).map fun i => (apAt r cc FL d s x i).map (fun y => ((qs i, y) : ApQS))) (off := 0) (g := g) (n := 7) (lc := 7) hB hA (by simp) (by decide) (by decide) (Nat.le_refl _) (by unfold maxLen; omega) ?_ ?_ ?_).mono ?_
 ·intro i hi
  rw [Nat.zero_add, hR.b.cell i]
  exact rowV_at _ _ hi
 ·intro i hi
  show (apV (apAt r cc FL d s x i) (qs i)).oneCell' = true
  cases apAt r cc FL d s x i <;> rfl
 ·intro i m hi
  have hi : ((List.range 7).map fun i => (apAt r cc FL d s x i).map (fun y => ((qs i, y) : ApQS)))[i]? = some m := hi
  rw [List.getElem?_map] at hi
  obtain ⟨k, hk, rfl⟩ := Option.map_eq_some_iff.1 hi
  obtain ⟨hk1, hk2⟩ := List.getElem?_eq_some_iff.1 hk
  rw [List.getElem_range] at hk2
  subst hk2
  cases he : apAt r cc FL d s x i with
  | none => rfl
  | some y => exact ⟨qs i, rfl, rfl, hR.m.inv i y he⟩
 ·rintro e w' ⟨W, κ, av, ab, rfl, hW, hκ, hWs, bb⟩
  have e0 : ((List.range 7).map fun i => (apAt r cc FL d s x i).map (fun y => ((qs i, y) : ApQS))).map (fun m => (⟨m, false⟩ : Ac apQ.M.σ)) = (List.range 7).map fun i => (⟨(apAt r cc FL d s x i).map (fun y => ((qs i, y) : ApQS)), false⟩ : Ac apQ.M.σ) := List.map_map ..
  refine ⟨W, κ, av, ab, rfl, ⟨?_, rfl, fun _ _ => rfl, Below.keeps (Below.refl _ _), Int.le_refl 0, Int.le_refl 0, Nat.le_refl _⟩, fun i hi => ?_, bb⟩
  ·unfold apQS
   rw [← e0]
   exact hW
  ·by_cases hb : i < w.heap.size
   ·rcases (hκ i hb).2 hi with h | h | ⟨j, h⟩
    ·omega
    ·omega
    ·have := (hR.m.lt j i h).1
     omega
   ·omega
end Go.Proofs.YtggjhleomocojaaGreat
