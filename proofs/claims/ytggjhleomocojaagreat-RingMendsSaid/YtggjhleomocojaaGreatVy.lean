/- A drainer, and a mender, over a ring on which nobody puts any more. No program in sight. Conditions: none. -/
import Derived.Test.YtggjhleomocojaaGreatVx
import Derived.Test.YtggjhleomocojaaGreatDs
import Derived.Test.YtggjhleomocojaaGreatDt
namespace Go.Proofs.YtggjhleomocojaaGreat
open Go.RowKit
set_option linter.unusedVariables false
theorem get_init_live {c : GetC} (h : c.ok = true) : (GetC.init c).live = true := by unfold GetC.init; rw [h]; rfl
theorem dra_mo0 {t : DraT} (h : t.times < 1) : DraT.mo t = ((none, t) : Option GetM × DraT) := if_pos h
theorem dra_mo1 {t : DraT} (h : ¬ t.times < 1) : DraT.mo t = ((some (GetC.init ⟨t.b, t.s, t.most⟩), { t with times := t.times - 1 }) : Option GetM × DraT) := if_neg h
theorem dra_sl (n : Nat) (m : GetM) (t : DraT) (h : m.live = true) : draC.settle n ((some m, t) : Option GetM × DraT) = ((some m, t) : Option GetM × DraT) := by
 cases n with
 | zero => rfl
 | succ n => exact if_pos h
theorem dra_s0 (n : Nat) (t : DraT) : draC.settle n ((none, t) : Option GetM × DraT) = ((none, t) : Option GetM × DraT) := by cases n <;> rfl
theorem dra_sd (n : Nat) (m : GetM) (t : DraT) (h : m.live = false) : draC.settle (n + 1) ((some m, t) : Option GetM × DraT) = draC.settle n (DraT.mo { t with out := t.out ++ m.out }) := if_neg (by show ¬ m.live = true; rw [h]; decide)
theorem dra_stay (t : DraT) (hok : (⟨t.b, t.s, t.most⟩ : GetC).ok = true) (n : Nat) : draC.settle n (DraT.mo t) = DraT.mo t := by
 by_cases h : t.times < 1
 ·rw [dra_mo0 h]
  exact dra_s0 n t
 ·rw [dra_mo1 h]
  exact dra_sl n _ _ (get_init_live hok)
variable {b s : Nat}
theorem Fixing.drain {A0 : List (Slot × Nat)} (hs : ln A0 ≤ s) {r : Nat} : ∀ (n : Nat) {t : DraT} {st : Prop} {bs : List Int} {out : List (Int × List Int)}, Fixing b s A0 st bs out r → t.times = n → t.b = b → t.s = s → (⟨t.b, t.s, t.most⟩ : GetC).ok = true → ((msgs A0).length : Int) < t.most →
  ∃ (N : Nat) (bs' : List Int) (t' : DraT) (outs : List (Int × List Int)), Runs draC.mac (DraT.mo t : Option GetM × DraT) bs N ((none, t') : Option GetM × DraT) bs' ∧ N ≤ n * (s + s / 8 + 6) ∧ t'.out = t.out ++ outs ∧ Fixing b s A0 (st ∨ 0 < n) bs' (out ++ outs) r := by
 intro n
 induction n with
 | zero =>
  intro t st bs out h ht hb hs' hok hm
  refine ⟨0, bs, t, [], ?_, by omega, by rw [List.append_nil], ?_⟩
  ·rw [dra_mo0 (by omega)]
   exact .refl _ _
  ·rw [List.append_nil]
   obtain ⟨A, k, H, h1, h2, h3, h4, h5, h6, h7, h8⟩ := h.ex
   exact ⟨A, k, H, h1, h2, h3, h4, h5, h6, h7, fun q => q.elim h8 (fun q => absurd q (Nat.lt_irrefl 0))⟩
 | succ n ih =>
  intro t st bs out h ht hb hs' hok hm
  obtain ⟨m, bs1, g', hrun, hfin, he0, hmm, hfx⟩ := h.get hs ⟨t.b, t.s, t.most⟩ hb hs' hok hm
  obtain ⟨t1, ht1⟩ : ∃ t1 : DraT, t1 = { t with times := t.times - 1 } := ⟨_, rfl⟩
  obtain ⟨t2, ht2⟩ : ∃ t2 : DraT, t2 = { t1 with out := t1.out ++ g'.out } := ⟨_, rfl⟩
  have hok2 : (⟨t2.b, t2.s, t2.most⟩ : GetC).ok = true := by rw [ht2, ht1]; exact hok
  obtain ⟨N, bs', t', outs, q1, q2, q3, q4⟩ := ih (t := t2) hfx (by rw [ht2, ht1]; show t.times - 1 = _; omega) (by rw [ht2, ht1]; exact hb) (by rw [ht2, ht1]; exact hs') hok2 (by rw [ht2, ht1]; exact hm)
  have hlv := get_init_live hok
  have hc := chain_runs draC (t := t1) (show Runs getMac _ _ _ _ _ from hrun) hlv hfin (fun m2 h => dra_sl _ m2 t1 h)
  have e : draC.settle (draC.fu t1) ((some g', t1) : Option GetM × DraT) = DraT.mo t2 := by
   have h9 := dra_sd (t1.times.toNat + 1) g' t1 hfin
   rw [← ht2] at h9
   exact h9.trans (dra_stay t2 hok2 _)
  have hc' : Runs draC.mac ((some (GetC.init ⟨t.b, t.s, t.most⟩), t1) : Option GetM × DraT) bs m (DraT.mo t2) bs1 := by
   rw [← e]
   exact hc
  refine ⟨m + N, bs', t', g'.out ++ outs, ?_, ?_, ?_, ?_⟩
  ·rw [dra_mo1 (by omega), ← ht1]
   exact hc'.trans q1
  ·rw [Nat.add_mul]
   omega
  ·rw [q3, ht2, ht1, List.append_assoc]
  ·rw [← List.append_assoc]
   obtain ⟨A, k, H, h1, h2, h3, h4, h5, h6, h7, h8⟩ := q4.ex
   exact ⟨A, k, H, h1, h2, h3, h4, h5, h6, h7, fun _ => h8 (.inl trivial)⟩
theorem Fixing.mend {A0 : List (Slot × Nat)} {bs : List Int} {out : List (Int × List Int)} {r : Nat} (h : Fixing b s A0 True bs out r) (hs : ln A0 ≤ s) (hok : rgOk b s = true) :
  ∃ (N : Nat) (bs' : List Int) (t' : MenT), Runs menC.mac (MenT.mo ⟨b, s, 1, 0⟩ : Option FixM × MenT) bs N ((none, t') : Option FixM × MenT) bs' ∧ N ≤ 2 * s ∧ Fixing b s A0 False bs' out (r + 1) := by
 obtain ⟨m, bs1, m', hrun, hend, hmm, hfx⟩ := h.fix hs ⟨b, s⟩ rfl rfl hok
 have hlv : (FixC.init ⟨b, s⟩).live = true := by
  unfold FixC.init
  dsimp only
  rw [hok]
  rfl
 have hc := chain_runs menC (t := (⟨b, s, 0, 0⟩ : MenT)) (show Runs fixMac _ _ _ _ _ from hrun) hlv hend (fun m2 h => if_pos h)
 refine ⟨m, bs1, ⟨b, s, 0, IntKind.i64.wrap (0 + m'.n)⟩, ?_, hmm, hfx⟩
 have e : menC.settle (menC.fu (⟨b, s, 0, 0⟩ : MenT)) ((some m', (⟨b, s, 0, 0⟩ : MenT)) : Option FixM × MenT) = ((none, (⟨b, s, 0, IntKind.i64.wrap (0 + m'.n)⟩ : MenT)) : Option FixM × MenT) :=
  (if_neg (by show ¬ m'.live = true; rw [hend]; decide)).trans rfl
 have hc' : Runs menC.mac ((some (FixC.init ⟨b, s⟩), (⟨b, s, 0, 0⟩ : MenT)) : Option FixM × MenT) bs m ((none, (⟨b, s, 0, IntKind.i64.wrap (0 + m'.n)⟩ : MenT)) : Option FixM × MenT) bs1 := by
  rw [← e]
  exact hc
 exact hc'
theorem FilW.adds {bs : List Int} {A : List (Slot × Nat)} {k H : Nat} {F : List (List Int)} (tries : Int) : ∀ (l2 : List (List (Int × List Int))) {ls : List (List (Int × List Int))} {P : List PutM} {G : List (Nat × Nat)} {FL : List (Option PutM × FilT)}, FilW b s ls bs P G A k H F FL → (∀ l ∈ l2, ∀ x ∈ l, IsB x.2 ∧ x.1 ≤ 2147483647) →
  ∃ P' G', FilW b s (ls ++ l2) bs P' G' A k H F (FL ++ l2.map fun l => filNew0 (filT0 b s l tries))
 | [], ls, P, G, FL, h, _ => ⟨P, G, by rw [List.append_nil, List.map_nil, List.append_nil]; exact h⟩
 | l :: l2, ls, P, G, FL, h, hl => by
  obtain ⟨E, GE, h1⟩ := h.add l (hl l (List.mem_cons_self ..)) tries
  obtain ⟨P', G', h2⟩ := FilW.adds tries l2 h1 (fun l' hl' => hl l' (List.mem_cons_of_mem _ hl'))
  rw [List.append_assoc, List.append_assoc] at h2
  exact ⟨P', G', h2⟩
theorem FilW.made {N b s : Nat} (hs : s = 64 ∨ s = 128 ∨ s = 256 ∨ s = 512 ∨ s = 1024 ∨ s = 2048 ∨ s = 4096 ∨ s = 8192) (h8 : b % 8 = 0) (h : b + s + 24 ≤ N) (tries : Int) (ls : List (List (Int × List Int))) (hl : ∀ l ∈ ls, ∀ x ∈ l, IsB x.2 ∧ x.1 ≤ 2147483647) :
  ∃ P G, FilW b s ls (zs N) P G [] 0 0 [] (ls.map fun l => filNew0 (filT0 b s l tries)) := by
 have h0 : Inv b s (zs N) [] [] 0 0 [] := Inv.start hs h8 h (fun i m hm => by simp at hm)
 obtain ⟨P, G, h1⟩ := FilW.adds tries ls (FilW.start h0) hl
 exact ⟨P, G, by simpa using h1⟩
theorem pts_at (A : List (Slot × Nat)) (i : Nat) : (msgs A)[i]? = ((pts 0 A)[i]?).map fun x => (x.t, x.d) := by
 rw [← pts_msgs A 0, List.getElem?_map]
theorem pts_len (A : List (Slot × Nat)) : (pts 0 A).length = (msgs A).length := by
 rw [← pts_msgs A 0, List.length_map]
end Go.Proofs.YtggjhleomocojaaGreat
