/- The walk of the law RingputAlone (under way). Conditions: the numbers are in their kinds' ranges. -/
import Derived.Test.YtpicplkbblmbeaaRd
import Derived.Test.YtpicplkbblmbeaaOy
import Derived.Deep.CutRange
namespace Go.Proofs.Ytpicplkbblmbeaa
set_option maxRecDepth 100000
open Go.RowKit
set_option linter.unusedVariables false
set_option linter.unusedSimpArgs false
theorem leN_zs (n : Nat) : leN (zs n) = 0 := by
  induction n with
  | zero => rfl
  | succ n ih =>
    have e : zs (n + 1) = 0 :: zs n := rfl
    rw [e]
    show (0 : Int) + 256 * leN (zs n) = 0
    rw [ih]
    rfl
theorem rdN_zs (N a n : Nat) : rdN (zs N) a n = 0 := by
  unfold rdN
  rw [zs_drop, zs_take, leN_zs]
theorem blk_byte {w : World} {g : Nat} {l : List Int} (h : Blk w g (l.map (Value.int .u8))) (i : Nat) (hi : i < l.length) : w.cell? ⟨g, i, none⟩ = some (.int .u8 (gB l i)) := by
  rw [Blk.cell h i]
  simp [gB, hi]
theorem leB_at (v : Int) (n i : Nat) (h : i < n) : gB (leB v n) i = v / 2 ^ (8 * i) % 256 := by
  induction n generalizing v i with
  | zero => omega
  | succ n ih =>
    cases i with
    | zero =>
      show v % 256 = v / 2 ^ 0 % 256
      rw [Int.pow_zero, Int.ediv_one]
    | succ i =>
      have e : gB (leB v (n + 1)) (i + 1) = gB (leB (v / 256) n) i := rfl
      rw [e, ih _ i (by omega), show 8 * (i + 1) = 8 + 8 * i by omega, Int.pow_add, ← Int.ediv_ediv_of_nonneg (by decide)]
      rfl
theorem spl_set_next (cur ms : List Int) (a q : Nat) (h : a + ms.length ≤ cur.length) (hq : q < ms.length) : (spl cur a (ms.take q)).set (a + q) (gB ms q) = spl cur a (ms.take (q + 1)) := by
  have l1 : (ms.take q).length = q := by simp; omega
  have l2 : (ms.take (q + 1)).length = q + 1 := by simp; omega
  have n1 := spl_len cur a (ms.take q) (by omega)
  have n2 := spl_len cur a (ms.take (q + 1)) (by omega)
  apply gB_ext
  · rw [List.length_set, n1, n2]
  · intro i hi
    rw [List.length_set, n1] at hi
    by_cases e : a + q = i
    · subst e
      have : gB ((spl cur a (ms.take q)).set (a + q) (gB ms q)) (a + q) = gB ms q := by
        simp [gB, List.getD, n1, hi]
      rw [this, spl_in cur a _ (by omega) _ (by omega) (by omega), show a + q - a = q by omega, gB_takeR _ _ _ (by omega)]
    · have : gB ((spl cur a (ms.take q)).set (a + q) (gB ms q)) i = gB (spl cur a (ms.take q)) i := by
        simp [gB, List.getD, List.getElem?_set_ne e]
      rw [this]
      by_cases h1 : i < a
      · rw [spl_lt _ _ _ (by omega) _ h1, spl_lt _ _ _ (by omega) _ h1]
      · by_cases h2 : i < a + q
        · rw [spl_in _ _ _ (by omega) _ (by omega) (by omega), spl_in _ _ _ (by omega) _ (by omega) (by omega), gB_takeR _ _ _ (by omega), gB_takeR _ _ _ (by omega)]
        · rw [spl_ge _ _ _ (by omega) _ (by omega), spl_ge _ _ _ (by omega) _ (by omega)]
/-- What a put adds to what is awaited. -/
theorem alone_put {S : List (List Int)} {s N : Nat} {d : List Int} {h : Int} (hN : N = (d.length + 15) / 8 * 8) (ht : tot S ≤ s) (hf : tot S + N ≤ s) (hh : h = recS (8 + (d.length : Int)) 7) :
    spl (spl (S.flatten ++ zs (s - tot S)) (tot S) (leB h 8)) (tot S + 8) d = (S ++ [rcB (recS (8 + (d.length : Int)) 7) d N]).flatten ++ zs (s - tot (S ++ [rcB (recS (8 + (d.length : Int)) 7) d N])) := by
  have l8 := leB_length h 8
  have e0 : S.flatten.length = tot S := rfl
  have e1 : (S.flatten ++ zs (s - tot S)).take (tot S) = S.flatten := by rw [← e0, List.take_left]
  have e2 : (S.flatten ++ zs (s - tot S)).drop (tot S + 8) = zs (s - tot S - 8) := by
    rw [List.drop_append, List.drop_eq_nil_of_le (by omega), List.nil_append, zs_drop]
    congr 1
    omega
  have e3 : spl (S.flatten ++ zs (s - tot S)) (tot S) (leB h 8) = S.flatten ++ (leB h 8 ++ zs (s - tot S - 8)) := by
    unfold spl
    rw [e1, l8, e2]
  rw [e3]
  have e6 : (S.flatten ++ leB h 8).length = tot S + 8 := by rw [List.length_append, l8, e0]
  have e4 : (S.flatten ++ (leB h 8 ++ zs (s - tot S - 8))).take (tot S + 8) = S.flatten ++ leB h 8 := by
    rw [← List.append_assoc, List.take_append_of_le_length (by omega), List.take_of_length_le (by omega)]
  have e5 : (S.flatten ++ (leB h 8 ++ zs (s - tot S - 8))).drop (tot S + 8 + d.length) = zs (s - tot S - 8 - d.length) := by
    rw [← List.append_assoc, List.drop_append, List.drop_eq_nil_of_le (by omega), List.nil_append, zs_drop]
    congr 1
    omega
  unfold spl
  rw [e4, e5, tot_app, tot_one, rcB_len (by omega), List.flatten_append]
  unfold rcB
  rw [← hh]
  simp only [List.flatten_cons, List.flatten_nil, List.append_nil, List.append_assoc, zs_app]
  congr 4
  omega
/-- A ring of zeros. -/
theorem Rg.zero {N b s : Nat} (hs : 0 < s) (h : b + s + 24 ≤ N) : Rg (zs N) b s 0 [] := by
  refine ⟨hs, by rw [zs_len]; exact h, ?_, ?_, Nat.zero_le _, fun k hk => absurd hk (Nat.not_lt_zero _), fun k hk => absurd hk (Nat.not_lt_zero _), ?_, ?_⟩
  · intro x hx
    simp [zs] at hx
    omega
  · unfold un
    rw [zs_drop, zs_drop, zs_take, zs_take, zs_app]
    rw [tot_nil]
    show zs _ = [] ++ zs _
    rw [List.nil_append, Nat.zero_mod]
    congr 1
    omega
  · rw [rdN_zs, tot_nil]
    rfl
  · rw [rdN_zs]
    rfl
theorem Runs.len {M : Mac} {s s' : M.σ} {bs bs' : List Int} {n : Nat} (h : Runs M s bs n s' bs') : bs'.length = bs.length := by
  induction h with
  | refl => rfl
  | step h1 he _ ih => rw [ih, AA.out_len he]
/-- A put alone, whatever comes of it. -/
theorem alone_all (s : Nat) (hs : s = 64 ∨ s = 128 ∨ s = 256 ∨ s = 512) (d : List Int) (hd : IsB d) (bs : List Int) (S : List (List Int)) (h : Rg bs 16 s 0 S) (hcp : rdN bs (16 + s + 8) 8 = 0) (h8 : tot S % 8 = 0) (hbl : bs.length = 1024) :
    ∃ m' bs' r S', Runs putMac (PutC.init ⟨16, s, 7, d⟩) bs r m' bs' ∧ m'.live = false ∧ r ≤ 2000 ∧ bs'.length = 1024 ∧ Rg bs' 16 s 0 S' ∧ rdN bs' (16 + s + 8) 8 = 0 ∧ tot S' % 8 = 0 ∧
      ((s / 8 < d.length ∧ m'.e = 4 ∧ S' = S) ∨ (d.length ≤ s / 8 ∧ s < tot S + (d.length + 15) / 8 * 8 ∧ m'.e = 5 ∧ S' = S) ∨
       (d.length ≤ s / 8 ∧ tot S + (d.length + 15) / 8 * 8 ≤ s ∧ m'.e = 0 ∧ m'.rv = tot S ∧ S' = S ++ [rcB (recS (8 + d.length) 7) d ((d.length + 15) / 8 * 8)])) := by
  have hg : rgOk 16 s = true := by rcases hs with rfl | rfl | rfl | rfl <;> decide
  by_cases hl : d.length ≤ s / 8
  · have hok : (PutC.mk 16 s 7 d).ok = true := by
      unfold PutC.ok
      simp [hg]
      omega
    have hnd : (PutC.mk 16 s 7 d).nd = (((d.length + 15) / 8 * 8 : Nat) : Int) := by
      have := (PutC.nd_bd hok).1
      rw [this]
      simp
    by_cases hf : tot S + (d.length + 15) / 8 * 8 ≤ s
    · obtain ⟨bs', r, hr, hrn, hrg, hc⟩ := put_alone ⟨16, s, 7, d⟩ 16 s hok hd rfl rfl bs S h hcp h8 (by rw [hnd]; omega)
      have e1 : (PutC.mk 16 s 7 d).nd.toNat = (d.length + 15) / 8 * 8 := by rw [hnd]; omega
      have e2 : (PutC.mk 16 s 7 d).n = 8 + d.length := rfl
      rw [e1, e2] at hrg
      refine ⟨_, bs', r, _, hr, rfl, ?_, by rw [hr.len]; exact hbl, hrg, hc, ?_, .inr (.inr ⟨hl, hf, rfl, rfl, rfl⟩)⟩
      · have : r ≤ d.length + 6 := hrn
        omega
      · have h9 : 8 + d.length ≤ (d.length + 15) / 8 * 8 := by omega
        have h10 := rcB_len (hd := recS (8 + d.length) 7) h9
        rw [tot_app, tot_one]
        have h11 : (rcB (recS (8 + (d.length : Int)) 7) d ((d.length + 15) / 8 * 8)).length = (d.length + 15) / 8 * 8 := h10
        show (tot S + (rcB (recS (8 + (d.length : Int)) 7) d ((d.length + 15) / 8 * 8)).length) % 8 = 0
        rw [h11]
        omega
    · have hr := put_full ⟨16, s, 7, d⟩ 16 s hok rfl rfl bs S h hcp (by rw [hnd]; omega)
      exact ⟨_, bs, 3, S, hr, rfl, by omega, hbl, h, hcp, h8, .inr (.inl ⟨hl, by omega, rfl, rfl⟩)⟩
  · have hI : PutC.init ⟨16, s, 7, d⟩ = ⟨⟨16, s, 7, d⟩, .done, 0, 0, false, 4⟩ := by
      have hle : ¬ (d.length : Int) ≤ (s : Int) / 8 := by omega
      unfold PutC.init PutC.e0 PutC.ok
      simp [hg, hle]
    rw [hI]
    exact ⟨_, bs, 0, S, .refl _ _, rfl, by omega, hbl, h, hcp, h8, .inl ⟨by omega, rfl, rfl⟩⟩
set_option maxHeartbeats 4000000 in
theorem alone_main (bits : Int) (hbits : 0 ≤ bits ∧ bits ≤ 255) (t0 : Option Addr) (tc : Nat) (L : List BytV) (w : World) (hr : RdR w (.slice t0 L.length tc) 1 (L.map BytV.cs)) (hL : ∀ x ∈ L, BytV.Ok w x) (h40 : L.length ≤ 40) :
    Calls Try.prog 6 #[.int .u8 bits, .slice t0 L.length tc] w fun e w' => e = .returned (.bool true) ∧ Below w.heap.size w w' := by
  have HR := Lib.hid hr
  have HL := Lib.hid hL
  have hi40 : ¬ (40 : Int) < (L.length : Int) := by omega
  clear hr hL
  go_enter Try.func6, Try.ntmps6
  go_wp2_with fail
  refine (fixed07_any _).mono ?_
  rintro e w1 ⟨rfl, b1⟩
  have z1 := b1.size
  have B1 := Lib.hid b1
  clear b1
  go_upto_region 5 with fail
  go_cut [5] from 24 to 27 (fun rp wx => ∃ s : Nat, rp = .pointer (some ⟨w1.heap.size, 0, none⟩) ∧ (s = 64 ∨ s = 128 ∨ s = 256 ∨ s = 512) ∧ Blk wx w1.heap.size [.int .i64 16, .int .i64 s] ∧ Below w1.heap.size w1 wx ∧ w1.heap.size < wx.heap.size)
  case first =>
    have ht : bits.tmod 4 = bits % 4 := Int.tmod_eq_emod_of_nonneg hbits.1
    have hc : bits % 4 = 0 ∨ bits % 4 = 1 ∨ bits % 4 = 2 ∨ bits % 4 = 3 := by omega
    rcases hc with hc | hc | hc | hc
    · rw [hc] at ht
      go_wp2_with fail
      go_meet
      exact ⟨64, rfl, by omega, Blk.made w1 #[.int .i64 16, .int .i64 64] _, (Below.refl _ _).alloc (Nat.le_refl _) _, by simp⟩
    · rw [hc] at ht
      go_wp2_with fail
      go_meet
      exact ⟨128, rfl, by omega, Blk.made w1 #[.int .i64 16, .int .i64 128] _, (Below.refl _ _).alloc (Nat.le_refl _) _, by simp⟩
    · rw [hc] at ht
      go_wp2_with fail
      go_meet
      exact ⟨256, rfl, by omega, Blk.made w1 #[.int .i64 16, .int .i64 256] _, (Below.refl _ _).alloc (Nat.le_refl _) _, by simp⟩
    · rw [hc] at ht
      go_wp2_with fail
      go_meet
      exact ⟨512, rfl, by omega, Blk.made w1 #[.int .i64 16, .int .i64 512] _, (Below.refl _ _).alloc (Nat.le_refl _) _, by simp⟩
  case rest =>
    obtain ⟨s, rfl, hs, hB, bb, lb⟩ := hcut
    obtain ⟨i0, hi, hz0, hz1, hz2⟩ := info_parts u8info
    have X2 := Lib.hid hB
    have B2 := Lib.hid (B1.out.trans (bb.mono z1))
    have z2 := bb.size
    clear hB bb
    go_wp2_with fail
    refine (mNew_at 1024 128 _ (by decide) (by decide) (by decide)).mono ?_
    rintro e w3 ⟨p, c, rfl, hb3, hp, hc, b3⟩
    have z3 := b3.size
    have HB3 := Lib.hid hb3
    have X3 := Lib.hid (X2.out.below b3 lb)
    have B3 := Lib.hid (B2.out.trans (b3.mono (by omega)))
    have x1 := X3.out.cell 1
    simp only [List.getElem?_cons_zero, List.getElem?_cons_succ] at x1
    have lx3 : w1.heap.size < w3.heap.size := by omega
    have hs0 : (0 : Int) ≤ (s : Int) := by omega
    clear hb3 b3
    go_wp2_with (refine wpList_make_full _ rfl _ _ 26 rfl w3.heap.size 5 i0 (.int .u8 0) 1 Try.underlying26 hi hz0 hz1 _ _ _ _ s rfl rfl rfl rfl (by rw [hz2]; omega) (by unfold maxLen; omega) (Nat.le_refl _) ?_)
    intro w4 own4 hg4
    obtain ⟨hblk, _⟩ := own_blkK own4
    have b4 : Below w3.heap.size w3 w4 := (Below.refl _ _).grown hg4 (Nat.le_refl _) (fun k hk => by cases hk)
    rw [← rep_cells s] at hblk
    have z4 := b4.size
    have HW4 := Lib.hid hblk
    have HB4 := Lib.hid (HB3.out.belows b4)
    have X4 := Lib.hid (X3.out.below b4 lx3)
    have B4 := Lib.hid (B3.out.trans (b4.mono (by omega)))
    clear own4 hg4 hblk b4 x1
    go_wp2_with fail
    go_loopw [9, 37] (fun a i wr => ∃ (k : Nat) (bs : List Int) (cnt : Int) (S : List (List Int)), k ≤ L.length ∧ i = .int .i64 k ∧ a = .int .i64 (tot S : Int) ∧ Buf wr p c cnt bs ∧ 0 ≤ cnt ∧ cnt ≤ 1000000 * (k : Int) ∧ Rg bs 16 s 0 S ∧ rdN bs (16 + s + 8) 8 = 0 ∧ tot S % 8 = 0 ∧ bs.length = 1024 ∧
      Blk wr w3.heap.size ((S.flatten ++ zs (s - tot S)).map (Value.int .u8)) ∧ Blk wr w1.heap.size [.int .i64 16, .int .i64 s] ∧ Below w.heap.size w wr) (fun _ i _ => L.length - (intOf i).toNat)
    case atStart =>
      refine ⟨0, zs 1024, 0, [], by omega, rfl, rfl, HB4.out, by omega, by omega, Rg.zero (by omega) (by omega), rdN_zs _ _ _, rfl, zs_len _, ?_, X4.out, B4.out⟩
      rw [tot_nil]
      exact HW4.out
    case round =>
      clear HB4 X4 B4 HW4
      obtain ⟨k, bs, cnt, S, hk, rfl, rfl, hbuf, hc0, hc1, hrg, hcp, h8, hbl, hwant, hX, hbel⟩ := hrel
      have HBF := Lib.hid hbuf
      have HRG := Lib.hid hrg
      have HCP := Lib.hid hcp
      have HWT := Lib.hid hwant
      have HXX := Lib.hid hX
      have HBL := Lib.hid hbel
      have zr := hbel.size
      clear hbuf hrg hcp hwant hX hbel
      by_cases hkl : k < L.length
      · obtain ⟨x, hx⟩ : ∃ x, L[k]? = some x := ⟨_, List.getElem?_eq_getElem hkl⟩
        have hxm := HL.out x (List.mem_of_getElem? hx)
        obtain ⟨bk, off, cap, e1, hcell⟩ : ∃ bk off cap, (Value.slice t0 L.length tc) = .slice (some ⟨bk, off, none⟩) L.length cap ∧ w.cell? ⟨bk, off + k, none⟩ = some x.s := by
          rcases HR.out with ⟨e, e2⟩ | ⟨_, _, e, e2, _⟩ | ⟨bk, off, cap, e, _, _, hc⟩
          · have : L = [] := by simpa using e2
            rw [this] at hkl
            exact absurd hkl (Nat.not_lt_zero _)
          · have : L = [] := by simpa using e2
            rw [this] at hkl
            exact absurd hkl (Nat.not_lt_zero _)
          · rw [List.length_map] at e
            exact ⟨bk, off, cap, e, by have := hc k [x.s] (by rw [List.getElem?_map, hx]; rfl) 0 x.s rfl; simpa using this⟩
        cases e1
        obtain ⟨⟨sa, sn, scc, hsv⟩, hrd, hib⟩ := hxm
        rw [hsv] at hcell hrd
        have hcr := (HBL.out.cell (p := ⟨bk, off + k, none⟩) (World.block_lt_of_cell? w _ hcell)).trans hcell
        have hsn := rd_len hrd
        have HSN := Lib.hid hsn
        have RX0 := Lib.hid hrd
        have RX := Lib.hid (hrd.below HBL.out)
        have HIB := Lib.hid hib
        have y0 := HXX.out.cell 0
        have y1 := HXX.out.cell 1
        have lx := HXX.out.lt
        simp only [List.getElem?_cons_zero, List.getElem?_cons_succ] at y0 y1
        have hki : (k : Int) < (L.length : Int) := by omega
        clear hcell hrd hsn hib hsv
        by_cases hbig : (2000 : Int) < (sn : Int)
        · go_wp2
          go_ret
          exact ⟨rfl, HBL.out⟩
        go_wp2_with fail
        refine (pNew_f 16 s 7 sa sn scc x.b _ RX.out (by have := HSN.out; omega) HIB.out (by decide) (by decide) (by omega) (by omega)).mono ?_
        rintro e w5 ⟨q, rfl, hq, hF, b5⟩
        have z5 := b5.size
        have HF5 := Lib.hid hF
        have HB5 := Lib.hid (HBF.out.belows b5)
        have HW5 := Lib.hid (HWT.out.below b5 HWT.out.lt)
        have HX5 := Lib.hid (HXX.out.below b5 lx)
        have RX5 := Lib.hid (RX.out.below b5)
        have B5 := Lib.hid (HBL.out.trans (b5.mono zr))
        have lp := HBF.out.hd.lt
        have lc := Blk.lt HBF.out.wd
        clear hF b5 y0 y1 hcr
        go_wp2_with fail
        obtain ⟨w6, hw6⟩ : ∃ w6, w6 = w5.alloc (Obj.cells #[.iface 68 (.pointer (some ⟨q, 0, none⟩))] 116) := ⟨_, rfl⟩
        have b6 : Below w5.heap.size w5 w6 := by rw [hw6]; exact (Below.refl _ _).alloc (Nat.le_refl _) _
        have hg6 : Blk w6 w5.heap.size [.iface 68 (.pointer (some ⟨q, 0, none⟩))] := by rw [hw6]; exact Blk.made w5 _ _
        have z6 : w5.heap.size < w6.heap.size := by rw [hw6]; simp
        have HB6 := Lib.hid (HB5.out.belows b6)
        have HF6 := Lib.hid (HF5.out.below b6)
        have HW6 := Lib.hid (HW5.out.below b6 HW5.out.lt)
        have HX6 := Lib.hid (HX5.out.below b6 HX5.out.lt)
        have RX6 := Lib.hid (RX5.out.below b6)
        have B6 := Lib.hid (B5.out.trans (b6.mono (by omega)))
        have HG6 := Lib.hid hg6
        rw [← hw6]
        clear hw6 b6 hg6 HB5 HF5 HW5 HX5 RX5 B5
        refine (soloNew putFam (F := fun i => wr.heap.size ≤ i ∧ i < w5.heap.size) (s := (q, PutC.init ⟨16, s, 7, x.b⟩)) HB6.out ⟨rfl, HF6.out⟩ (by omega) (by omega) HG6.out).mono ?_
        rintro e w7 ⟨W, κ, av, ab, rfl, hW, hκ, hWs, b7⟩
        have HW7 := Lib.hid hW
        have HK7 := Lib.hid hκ
        have B67 := Lib.hid b7
        have z7 := b7.size
        clear hW hκ b7
        go_wp2_with fail
        refine (soloRobin putFam (w0 := w6) HW7.out HK7.out B67.out (by omega) (by omega) 2000 (by decide) hc0 (by omega)).mono ?_
        rintro e w8 ⟨rfl, hS⟩
        obtain ⟨m', bs', r, S', hrun, hdead, hr2, hbl', hrg', hcp', h8', hcase⟩ := alone_all s hs x.b HIB.out bs S HRG.out HCP.out h8 hbl
        have hR := robin_runs (M := putMacQ) 2000 (Runs.q q hrun) hdead (by omega) cnt
        obtain ⟨F', hF', hp', hc', hs'⟩ := hS.put hR.2.1
        have hbuf := hS.buf
        have hb8 : Buf w8 p c (cnt + r) bs' := by
          have e1 : (putFam.M.robin 2000 ⟨bs, cnt, [⟨some (q, PutC.init ⟨16, s, 7, x.b⟩), false⟩], 0, []⟩).1.bs = bs' := hR.2.2.1
          have e2 : (putFam.M.robin 2000 ⟨bs, cnt, [⟨some (q, PutC.init ⟨16, s, 7, x.b⟩), false⟩], 0, []⟩).1.cnt = cnt + r := hR.2.2.2
          rw [e1, e2] at hbuf
          exact hbuf
        have HB8 := Lib.hid hb8
        have HF8 := Lib.hid hF'
        have K8 := Lib.hid hS.keep
        have HRG8 := Lib.hid hrg'
        have HCP8 := Lib.hid hcp'
        have HCS := Lib.hid hcase
        generalize (putFam.M.robin 2000 ⟨bs, cnt, [⟨some (q, PutC.init ⟨16, s, 7, x.b⟩), false⟩], 0, []⟩).2 = RN
        clear hS hR hF' hbuf hb8 hrg' hcp' hcase hrun
        go_wp2_with fail
        obtain ⟨_, _, O8, bv8, _, hI8⟩ := HF8.out
        refine (pResult_any w8 hI8.at_).mono ?_
        rintro e w9 ⟨rfl, b9⟩
        have lp3 := HB3.out.hd.lt
        have lc3 := Blk.lt HB3.out.wd
        have lw3 := HWT.out.lt
        have z8 := K8.out.size
        have z9 := b9.size
        have HB9 := Lib.hid (HB8.out.belows b9)
        have HW9 := Lib.hid (Blk.below (HW6.out.keep K8.out (by omega)) b9 (by omega))
        have HX9 := Lib.hid (Blk.below (HX6.out.keep K8.out (by omega)) b9 (by omega))
        have B9 := Lib.hid (B6.out.trans ((K8.out.below (B := w.heap.size) (by omega) (by intro k hk hh; have := HB3.out; omega)).trans (b9.mono (by omega))))
        have RX9 := Lib.hid (RX0.out.below B9.out)
        clear HB8 HW6 HX6 RX6 B6 HF6 HB6 HG6 HW7 HK7 B67 HF8
        go_wp2_with fail
        have hszV : szV (sn : Int) 8 8 = (((x.b.length + 15) / 8 * 8 : Nat) : Int) := by
          rw [alV8 (by omega) (by omega)]
          have := HSN.out
          omega
        refine (refRecordSize_any sn _).mono ?_
        rintro e w10 ⟨rfl, rfl⟩
        rw [hszV]
        obtain ⟨N, hN⟩ : ∃ N, N = (x.b.length + 15) / 8 * 8 := ⟨_, rfl⟩
        rw [← hN]
        have HN := Lib.hid hN
        have hcs := HCS.out
        rw [← hN] at hcs
        have ht8 : (s : Int).tdiv 8 = (s : Int) / 8 := Int.tdiv_eq_ediv_of_nonneg hs0
        have y1 := HX9.out.cell 1
        have lx9 : w1.heap.size < w9.heap.size := HX9.out.lt
        simp only [List.getElem?_cons_zero, List.getElem?_cons_succ] at y1
        clear hszV hN HCS
        rcases hcs with ⟨l1, e1, hS⟩ | ⟨l1, l2, e1, hS⟩ | ⟨l1, l2, e1, e2, hS⟩
        · have l1' : (s : Int) / 8 < (sn : Int) := by have := HSN.out; omega
          have HS := Lib.hid hS
          clear hS
          rw [e1]
          go_wp2_with fail
          go_roundw
          case rel => exact ⟨k + 1, bs', cnt + r, S, by omega, by go_num, rfl, HB9.out, by omega, by omega, HS.out ▸ HRG8.out, HCP8.out, h8, hbl', HW9.out, HX9.out, B9.out⟩
          case measure => simp [intOf]; omega
        · have l1' : ¬ (s : Int) / 8 < (sn : Int) := by have := HSN.out; omega
          have l2' : (s : Int) < (tot S : Int) + (N : Int) := by omega
          have W1 : IntKind.i64.wrap ((tot S : Int) + (N : Int)) = (tot S : Int) + (N : Int) := IntWalk.i64_in _ ⟨by omega, by have := HRG.out.fit; have := HN.out; have := HSN.out; omega⟩
          have HS := Lib.hid hS
          clear hS
          rw [e1]
          go_wp2_with fail
          go_roundw
          case rel => exact ⟨k + 1, bs', cnt + r, S, by omega, by go_num, rfl, HB9.out, by omega, by omega, HS.out ▸ HRG8.out, HCP8.out, h8, hbl', HW9.out, HX9.out, B9.out⟩
          case measure => simp [intOf]; omega
        · have l1' : ¬ (s : Int) / 8 < (sn : Int) := by have := HSN.out; omega
          have l2' : ¬ (s : Int) < (tot S : Int) + (N : Int) := by omega
          have hts : tot S ≤ s := HRG.out.fit
          have W1 : IntKind.i64.wrap ((tot S : Int) + (N : Int)) = (tot S : Int) + (N : Int) := IntWalk.i64_in _ ⟨by omega, by omega⟩
          have W2 : IntKind.i64.wrap (8 + (sn : Int)) = 8 + (sn : Int) := IntWalk.i64_in _ ⟨by omega, by omega⟩
          have W3 : IntKind.i32.wrap (8 + (sn : Int)) = 8 + (sn : Int) := IntWalk.i32_in _ ⟨by omega, by omega⟩
          have HS := Lib.hid hS
          clear hS
          rw [e1, e2]
          go_wp2_with fail
          refine (refRecord_any (8 + (sn : Int)) 7 _ (by omega) (by omega) (by omega) (by omega)).mono ?_
          rintro e w10 ⟨rfl, b10⟩
          have z10 := b10.size
          obtain ⟨h, hh⟩ : ∃ h, h = recS (8 + (sn : Int)) 7 := ⟨_, rfl⟩
          have hbd := recS_bdP (8 + (sn : Int)) 7
          rw [← hh] at hbd ⊢
          have HH := Lib.hid hh
          have HB10 := Lib.hid (HB9.out.belows b10)
          have HW10 := Lib.hid (HW9.out.below b10 HW9.out.lt)
          have HX10 := Lib.hid (HX9.out.below b10 HX9.out.lt)
          have RX10 := Lib.hid (RX9.out.below b10)
          have B10 := Lib.hid (B9.out.trans (b10.mono (by omega)))
          clear hh b10 HB9 HW9 HX9 RX9 B9 y1
          have h0 := hbd.1
          have h1 := hbd.2
          clear hbd
          go_wp2_with fail
          go_loopw [18, 92] (fun x18 j wl => ∃ q : Nat, q ≤ 8 ∧ j = .int .i64 q ∧ Blk wl w3.heap.size ((spl (S.flatten ++ zs (s - tot S)) (tot S) ((leB h 8).take q)).map (Value.int .u8)) ∧ Keep (· = w3.heap.size) w10 wl) (fun _ j _ => 8 - (intOf j).toNat)
          case atStart => exact ⟨0, by omega, rfl, by rw [List.take_zero, spl_nil]; exact HW10.out, Keep.refl _ _⟩
          case round =>
            obtain ⟨q, hq8, rfl, hgb, hkp⟩ := hrel
            by_cases hq : q < 8
            · have hll : (spl (S.flatten ++ zs (s - tot S)) (tot S) ((leB h 8).take q)).length = s := by
                have e1 : (S.flatten ++ zs (s - tot S)).length = s := by rw [List.length_append, zs_len]; show tot S + _ = _; omega
                rw [spl_len _ _ _ (by rw [e1]; simp [leB_length]; have := HN.out; omega), e1]
              have hcell := blk_byte hgb (tot S + q) (by rw [hll]; have := HN.out; omega)
              have hfroz := Blk.frozen hgb (tot S + q)
              have hglr := hgb.lt
              have HGB := Lib.hid hgb
              have HKP := Lib.hid hkp
              have HLL := Lib.hid hll
              clear hll
              have W4 : IntKind.i64.wrap ((tot S : Int) + (q : Int)) = (tot S : Int) + (q : Int) := IntWalk.i64_in _ ⟨by omega, by omega⟩
              have W5 : IntKind.u64.wrap (q : Int) = (q : Int) := IntWalk.u64_in _ ⟨by omega, by omega⟩
              have W6 : IntKind.u64.wrap (8 * (q : Int)) = 8 * (q : Int) := IntWalk.u64_in _ ⟨by omega, by omega⟩
              have hq' : (q : Int) < 8 := by omega
              have hix : (tot S : Int) + (q : Int) < (s : Int) := by have := HN.out; omega
              have hix' : tot S + q < s := by have := HN.out; omega
              clear hgb hkp
              go_wp2
              have hst := HGB.out.set (tot S + q) (.int .u8 (h / 2 ^ (8 * q) % 256))
              rw [← leB_at h 8 q hq, ← List.map_set, spl_set_next _ _ _ _ (by rw [leB_length]; have := HN.out; have e1 : (S.flatten ++ zs (s - tot S)).length = s := (by rw [List.length_append, zs_len]; show tot S + _ = _; omega); omega) (by rw [leB_length]; exact hq)] at hst
              go_roundw
              case rel => exact ⟨q + 1, by omega, by go_num, by rw [← leB_at h 8 q hq]; exact hst, HKP.out.setCell (p := ⟨w3.heap.size, tot S + q, none⟩) (.inl rfl) _⟩
              case measure => simp [intOf]; omega
            · obtain rfl : q = 8 := by omega
              rw [List.take_of_length_le (by rw [leB_length]; omega)] at hgb
              have zl := hkp.size
              have HWL := Lib.hid hgb
              have HBL2 := Lib.hid (HB10.out.keep hkp (by omega) (by omega))
              have HXL := Lib.hid (HX10.out.keep hkp (by omega))
              have RXL := Lib.hid (RX0.out.below (B10.out.trans (hkp.below (by omega) (fun k h1 h2 => by omega))))
              have BL := Lib.hid (B10.out.trans (hkp.below (B := w.heap.size) (by omega) (fun k h1 h2 => by omega)))
              have W7 : IntKind.i64.wrap ((tot S : Int) + 8) = (tot S : Int) + 8 := IntWalk.i64_in _ ⟨by omega, by omega⟩
              have k8 : (tot S : Int) + 8 ≤ (s : Int) := by have := HN.out; omega
              have k8' : tot S + 8 ≤ s := by omega
              have k9 : ¬ (s : Int) < (tot S : Int) + 8 := by omega
              clear hgb hkp HW10 HB10 HX10 RX10 B10
              have hln : (spl (S.flatten ++ zs (s - tot S)) (tot S) (leB h 8)).length = s := by
                have e1 : (S.flatten ++ zs (s - tot S)).length = s := by rw [List.length_append, zs_len]; show tot S + _ = _; omega
                rw [spl_len _ _ _ (by rw [e1, leB_length]; omega), e1]
              obtain ⟨cur, hcur⟩ : ∃ cur, cur = spl (S.flatten ++ zs (s - tot S)) (tot S) (leB h 8) := ⟨_, rfl⟩
              rw [← hcur] at hln HWL
              have HCUR := Lib.hid hcur
              clear hcur
              have HLN := Lib.hid hln
              have hb8 : tot S + 8 + x.b.length ≤ s := by have := HN.out; omega
              have HB8 := Lib.hid hb8
              clear hln hb8
              by_cases hcap : tot S + 8 = s
              · have HCAP := Lib.hid hcap
                have hc1 : (s = tot S + 8) = True := eq_true hcap.symm
                have hc2 : (tot S + 8 = s) = True := eq_true hcap
                have hc3 : (s - (tot S + 8) = 0) = True := eq_true (by omega)
                have hc4 : (s ≤ tot S + 8) = True := eq_true (by omega)
                clear hcap
                go_wp2_with (refine list_copy rfl (.tmp 110) (.tmp 111) rfl _ _ _ _ _ _ rfl rfl w3.heap.size (tot S + 8) _ x.b HWL.out RXL.out ?_ ?_ ?_ ?_)
                all_goals first
                  | (have := HB8.out; omega)
                  | (intro _; rfl)
                  | (refine List.eq_nil_of_length_eq_zero ?_; have := HB8.out; have := HCAP.out; omega)
                  | (intro h0 h9; exact absurd (List.eq_nil_of_length_eq_zero (by have := HB8.out; omega)) h0)
                  | (rw [HLN.out]; exact HB8.out)
                  | skip
                all_goals
                  intro w14 hg14 k14
                  have z14 := k14.size
                  have hb14 := HBL2.out.keep k14 (by omega) (by omega)
                  have hx14 := HXL.out.keep k14 (by omega)
                  have bel14 := BL.out.trans (k14.below (B := w.heap.size) (by omega) (fun k h1 h2 => by omega))
                  have hwant := hg14.out
                  rw [HCUR.out, alone_put (S := S) (d := x.b) (N := N) HN.out hts (by omega) (HH.out.trans (by rw [HSN.out]))] at hwant
                  have HB14 := Lib.hid hb14
                  have HX14 := Lib.hid hx14
                  have BEL14 := Lib.hid bel14
                  have HWA := Lib.hid hwant
                  clear hb14 hx14 bel14 hwant hg14 k14
                  go_wp2_with fail
                  go_roundw
                  case rel => exact ⟨k + 1, bs', cnt + r, S', by omega, by go_num, by rw [HS.out, tot_app, tot_one, rcB_len (by have := HN.out; omega)]; simp, HB14.out, by omega, by omega, HRG8.out, HCP8.out, h8', hbl', by rw [HS.out]; exact HWA.out, HX14.out, BEL14.out⟩
                  case measure => simp [intOf]; omega
              · have hc1 : (s = tot S + 8) = False := eq_false (fun e => hcap e.symm)
                have hc2 : (tot S + 8 = s) = False := eq_false hcap
                have hc3 : (s - (tot S + 8) = 0) = False := eq_false (by omega)
                have hc4 : (s ≤ tot S + 8) = False := eq_false (by omega)
                clear hcap
                go_wp2_with (refine list_copy rfl (.tmp 110) (.tmp 111) rfl _ _ _ _ _ _ rfl rfl w3.heap.size (tot S + 8) _ x.b HWL.out RXL.out ?_ ?_ ?_ ?_)
                all_goals first
                  | (have := HB8.out; omega)
                  | (intro _; rfl)
                  | (refine List.eq_nil_of_length_eq_zero ?_; have := HB8.out; omega)
                  | (intro h0 h9; exact absurd (List.eq_nil_of_length_eq_zero (by have := HB8.out; omega)) h0)
                  | (rw [HLN.out]; exact HB8.out)
                  | skip
                all_goals
                  intro w14 hg14 k14
                  have z14 := k14.size
                  have hb14 := HBL2.out.keep k14 (by omega) (by omega)
                  have hx14 := HXL.out.keep k14 (by omega)
                  have bel14 := BL.out.trans (k14.below (B := w.heap.size) (by omega) (fun k h1 h2 => by omega))
                  have hwant := hg14.out
                  rw [HCUR.out, alone_put (S := S) (d := x.b) (N := N) HN.out hts (by omega) (HH.out.trans (by rw [HSN.out]))] at hwant
                  have HB14 := Lib.hid hb14
                  have HX14 := Lib.hid hx14
                  have BEL14 := Lib.hid bel14
                  have HWA := Lib.hid hwant
                  clear hb14 hx14 bel14 hwant hg14 k14
                  go_wp2_with fail
                  go_roundw
                  case rel => exact ⟨k + 1, bs', cnt + r, S', by omega, by go_num, by rw [HS.out, tot_app, tot_one, rcB_len (by have := HN.out; omega)]; simp, HB14.out, by omega, by omega, HRG8.out, HCP8.out, h8', hbl', by rw [HS.out]; exact HWA.out, HX14.out, BEL14.out⟩
                  case measure => simp [intOf]; omega
      · obtain rfl : k = L.length := by omega
        have hwl : (S.flatten ++ zs (s - tot S)).length = s := by
          have h1 := HRG.out.fit
          rw [List.length_append, zs_len]
          show tot S + _ = _
          omega
        have hrd : RdB wr (.slice (some ⟨w3.heap.size, 0, none⟩) s s) (S.flatten ++ zs (s - tot S)) := by
          refine .inr (.inr ⟨w3.heap.size, 0, s, by rw [hwl], by rw [hwl]; exact Nat.le_refl _, by unfold maxLen; omega, fun i hi => ?_⟩)
          rw [Nat.zero_add]
          exact blk_byte HWT.out i hi
        have hrd1 := RdB.drewN 1 hrd
        have HRD := Lib.hid hrd1
        have y1 := HXX.out.cell 1
        have lx := HXX.out.lt
        simp only [List.getElem?_cons_zero, List.getElem?_cons_succ] at y1
        have V := conv_rd (w := wr.drew) 26 9 Try.underlying26 Try.underlying9 hrd1
        have W8 : IntKind.i64.wrap (16 + (s : Int)) = 16 + (s : Int) := IntWalk.i64_in _ ⟨by omega, by omega⟩
        have hfin : (bs.drop 16).take s = S.flatten ++ zs (s - tot S) := by
          have h1 := HRG.out.fl
          unfold un at h1
          rw [Nat.zero_mod, Nat.add_zero, Nat.sub_zero, List.take_zero, List.append_nil] at h1
          exact h1
        have HFIN := Lib.hid hfin
        clear hwl hrd hrd1 hfin
        go_wp2_with fail
        refine wp_region_held_drew (S := (fun w' => w'.cell? ⟨w1.heap.size, 1, none⟩ = some (.int .i64 s) ∧ (convert 26 9 (.slice (some ⟨w3.heap.size, 0, none⟩) s s)).run Try.prog w' = .ok (.string (strOfNums (S.flatten ++ zs (s - tot S)))) w')) (by kernel_rfl) ?_ (fun hHeld => ?_)
        · try dsimp only
          go_keep
        refine wpAnyH_take (i := 0) (v := ?_) rfl (by kernel_rfl) (by kernel_rfl) (by kernel_rfl) (fun _ _ _ h => h) (Or.inl ⟨by rfl, ?_⟩) (by assumption) ?_
        rotate_left
        · intro w0 hSw
          (try dsimp only at hSw)
          go_simp
          try with_reducible rfl
        try simp only [Act.put, List.getElem_toArray, List.getElem_cons_zero, List.getElem_cons_succ, List.setIfInBounds_toArray, List.set_cons_zero, List.set_cons_succ]
        refine wpAnyH_take (i := 1) (v := ?_) rfl (by kernel_rfl) (by kernel_rfl) (by kernel_rfl) (fun _ _ _ h => h) (Or.inl ⟨by rfl, ?_⟩) (by assumption) ?_
        rotate_left
        · intro w0 hSw
          (try dsimp only at hSw)
          go_simp
          try with_reducible rfl
        try simp only [Act.put, List.getElem_toArray, List.getElem_cons_zero, List.getElem_cons_succ, List.setIfInBounds_toArray, List.set_cons_zero, List.set_cons_succ]
        refine wpAnyH_take (i := 2) (v := ?_) rfl (by kernel_rfl) (by kernel_rfl) (by kernel_rfl) (fun _ _ _ h => h) (Or.inl ⟨by rfl, ?_⟩) (by assumption) ?_
        rotate_left
        · intro w0 hSw
          (try dsimp only at hSw)
          go_simp
          try with_reducible rfl
        try simp only [Act.put, List.getElem_toArray, List.getElem_cons_zero, List.getElem_cons_succ, List.setIfInBounds_toArray, List.set_cons_zero, List.set_cons_succ]
        refine wpAnyH_take (i := 3) (v := ?_) rfl (by kernel_rfl) (by kernel_rfl) (by kernel_rfl) (fun _ _ _ h => h) (Or.inl ⟨by rfl, ?_⟩) (by assumption) ?_
        rotate_left
        · intro w0 hSw
          (try dsimp only at hSw)
          go_simp
          try with_reducible rfl
        try simp only [Act.put, List.getElem_toArray, List.getElem_cons_zero, List.getElem_cons_succ, List.setIfInBounds_toArray, List.set_cons_zero, List.set_cons_succ]
        refine wpAnyH_take (i := 5) (v := ?_) rfl (by kernel_rfl) (by kernel_rfl) (by kernel_rfl) (fun _ _ _ h => h) (Or.inl ⟨by rfl, ?_⟩) (by assumption) ?_
        rotate_left
        · intro w0 hSw
          (try dsimp only at hSw)
          go_simp
          try with_reducible rfl
        try simp only [Act.put, List.getElem_toArray, List.getElem_cons_zero, List.getElem_cons_succ, List.setIfInBounds_toArray, List.set_cons_zero, List.set_cons_succ]
        refine wpAnyH_take (i := 6) (v := ?_) rfl (by kernel_rfl) (by kernel_rfl) (by kernel_rfl) (fun _ _ _ h => h) (Or.inl ⟨by rfl, ?_⟩) (by assumption) ?_
        rotate_left
        · intro w0 hSw
          (try dsimp only at hSw)
          go_simp
          try with_reducible rfl
        try simp only [Act.put, List.getElem_toArray, List.getElem_cons_zero, List.getElem_cons_succ, List.setIfInBounds_toArray, List.set_cons_zero, List.set_cons_succ]
        refine wpAnyH_take (i := 7) (v := ?_) rfl (by kernel_rfl) (by kernel_rfl) (by kernel_rfl) (fun _ _ _ h => h) (Or.inl ⟨by rfl, ?_⟩) (by assumption) ?_
        rotate_left
        · intro w0 hSw
          (try dsimp only at hSw)
          go_simp
          try with_reducible rfl
        try simp only [Act.put, List.getElem_toArray, List.getElem_cons_zero, List.getElem_cons_succ, List.setIfInBounds_toArray, List.set_cons_zero, List.set_cons_succ]
        refine wpAnyH_take (i := 10) (v := ?_) rfl (by kernel_rfl) (by kernel_rfl) (by kernel_rfl) (fun _ _ _ h => h) (Or.inl ⟨by rfl, ?_⟩) (by assumption) ?_
        rotate_left
        · intro w0 hSw
          (try dsimp only at hSw)
          go_simp
          try with_reducible rfl
        try simp only [Act.put, List.getElem_toArray, List.getElem_cons_zero, List.getElem_cons_succ, List.setIfInBounds_toArray, List.set_cons_zero, List.set_cons_succ]
        refine wpAnyH_take (i := 11) (v := ?_) rfl (by kernel_rfl) (by kernel_rfl) (by kernel_rfl) (fun _ _ _ h => h) (Or.inl ⟨by rfl, ?_⟩) (by assumption) ?_
        rotate_left
        · intro w0 hSw
          (try dsimp only at hSw)
          go_simp
          try with_reducible rfl
        try simp only [Act.put, List.getElem_toArray, List.getElem_cons_zero, List.getElem_cons_succ, List.setIfInBounds_toArray, List.set_cons_zero, List.set_cons_succ]
        refine wpAnyH_ready (rs := [4]) (by kernel_rfl) (by simp) ?_
        refine AllReadyH.cons rfl (fun K hK => ?_) AllReadyH.nil
        go_simp
        go_at_call 20
        refine (mBytes_any p c cnt bs _ (HBF.out.belows (bel_drewN 1 (Below.refl _ _)))).mono ?_
        rintro e w9 ⟨bv, rfl, o9, b9⟩
        obtain ⟨g, cp, cu, hbv, hgb, hgc, hncap, hcapm, hrest⟩ : ∃ g cp cu, bv = .slice (some ⟨g, 0, none⟩) bs.length cp ∧ w.heap.size ≤ g ∧ w9.heap[g]? = some (.cells cu 5 (0, 0)) ∧ bs.length ≤ cp ∧ cp ≤ maxLen ∧ True := by
          obtain ⟨o1, o2⟩ := o9
          rcases o2 with ⟨_, o2⟩ | ⟨g, cp, cu, e, o3, o4, o5, o6, _⟩
          · omega
          · exact ⟨g, cp, cu, e, by have := o3; simp at this; omega, o4, o5, o6, trivial⟩
        subst hbv
        have hsub : RdB w9 (.slice (some ⟨g, 16, none⟩) s (cp - 16)) ((bs.drop 16).take s) := by
          have hlen : ((bs.drop 16).take s).length = s := by simp; omega
          refine .inr (.inr ⟨g, 16, cp - 16, by rw [hlen], by omega, by omega, fun i hi => ?_⟩)
          rcases o9.rd with ⟨e, _⟩ | ⟨_, _, _, e, _⟩ | ⟨g', off', cap', e, _, _, hc⟩
          · cases e
          · rw [e] at hbl; cases hbl
          · cases e
            have := hc (16 + i) (by omega)
            rw [Nat.zero_add] at this
            rw [this, gB_takeR _ _ _ (by omega), gB_drop]
        have X9 := conv_rd (w := w9) 26 9 Try.underlying26 Try.underlying9 hsub
        have V9 := conv_rd (w := w9) 26 9 Try.underlying26 Try.underlying9 (HRD.out.below b9)
        have c9 := (b9.cell (p := ⟨w1.heap.size, 1, none⟩) (by simp; omega)).trans y1
        have HB9 := Lib.hid b9
        rw [HFIN.out] at X9
        clear hsub o9 b9 hgc hrest
        rw [hbl]
        go_wp2_with fail
        refine hK.out _ _ ?_ (fun hHeld => ?_)
        · try dsimp only
          go_keep
        clear hK K
        try simp only [Act.put, List.getElem_toArray, List.getElem_cons_zero, List.getElem_cons_succ, List.setIfInBounds_toArray, List.set_cons_zero, List.set_cons_succ]
        have hcp1 : 16 + (s : Int) ≤ (cp : Int) := by omega
        have hcp5 : 0 ≤ 16 + (s : Int) := by omega
        have hcp6 : (16 : Int) ≤ 16 + (s : Int) := by omega
        have hcp7 : max (16 + (s : Int)) 0 = 16 + (s : Int) := by omega
        have hcp8 : (16 + (s : Int)).toNat = 16 + s := by omega
        have hcp9 : 16 + s - 16 = s := by omega
        have hcp2 : 16 + s ≤ cp := by omega
        have hcp3 : ¬ cp = 16 := by omega
        have hcp4 : ¬ cp - 16 = 0 := by omega
        refine wpAnyH_take (i := 8) (v := ?_) rfl (by kernel_rfl) (by kernel_rfl) (by kernel_rfl) (fun _ _ _ h => h) (Or.inl ⟨by rfl, ?_⟩) (by assumption) ?_
        rotate_left
        · intro w0 hSw
          (try dsimp only at hSw)
          go_simp
          try with_reducible rfl
        try simp only [Act.put, List.getElem_toArray, List.getElem_cons_zero, List.getElem_cons_succ, List.setIfInBounds_toArray, List.set_cons_zero, List.set_cons_succ]
        refine wpAnyH_ready (rs := [9]) (by kernel_rfl) (by simp) ?_
        refine AllReadyH.cons rfl (fun K hK => ?_) AllReadyH.nil
        go_simp
        refine hK.out _ _ ?_ (fun hHeld => ?_)
        · try dsimp only
          go_keep
        clear hK K
        try simp only [Act.put, List.getElem_toArray, List.getElem_cons_zero, List.getElem_cons_succ, List.setIfInBounds_toArray, List.set_cons_zero, List.set_cons_succ]
        refine wpAnyH_take (i := 12) (v := ?_) rfl (by kernel_rfl) (by kernel_rfl) (by kernel_rfl) (fun _ _ _ h => h) (Or.inl ⟨by rfl, ?_⟩) (by assumption) ?_
        rotate_left
        · intro w0 hSw
          (try dsimp only at hSw)
          go_simp
          try with_reducible rfl
        try simp only [Act.put, List.getElem_toArray, List.getElem_cons_zero, List.getElem_cons_succ, List.setIfInBounds_toArray, List.set_cons_zero, List.set_cons_succ]
        refine wpAnyH_take (i := 13) (v := ?_) rfl (by kernel_rfl) (by kernel_rfl) (by kernel_rfl) (fun _ _ _ h => h) (Or.inl ⟨by rfl, ?_⟩) (by assumption) ?_
        rotate_left
        · intro w0 hSw
          (try dsimp only at hSw)
          go_simp
          try with_reducible rfl
        try simp only [Act.put, List.getElem_toArray, List.getElem_cons_zero, List.getElem_cons_succ, List.setIfInBounds_toArray, List.set_cons_zero, List.set_cons_succ]
        refine wpAnyH_take (i := 14) (v := ?_) rfl (by kernel_rfl) (by kernel_rfl) (by kernel_rfl) (fun _ _ _ h => h) (Or.inl ⟨by rfl, ?_⟩) (by assumption) ?_
        rotate_left
        · intro w0 hSw
          (try dsimp only at hSw)
          go_simp
          try with_reducible rfl
        try simp only [Act.put, List.getElem_toArray, List.getElem_cons_zero, List.getElem_cons_succ, List.setIfInBounds_toArray, List.set_cons_zero, List.set_cons_succ]
        refine wpAnyH_done (by kernel_rfl) ?_ _
        clear hHeld
        go_wp2
        go_ret
        exact ⟨rfl, ((bel_drewN 1 HBL.out).trans (HB9.out.mono (by simp; omega)))⟩
set_option maxHeartbeats 1000000 in
theorem alone_early (bits : Int) (t0 : Option Addr) (tn tc : Nat) (w : World) (h : (40 : Int) < (tn : Int)) :
    Calls Try.prog 6 #[.int .u8 bits, .slice t0 tn tc] w fun e w' => e = .returned (.bool true) ∧ Below w.heap.size w w' := by
  go_enter Try.func6, Try.ntmps6
  go_wp2_with fail
  refine (fixed07_any _).mono ?_
  rintro e w1 ⟨rfl, b1⟩
  go_wp2
  go_ret
  exact ⟨rfl, b1⟩
theorem u8_bdA {a : Int} (h : (Lit.int .u8 a).wf = true) : 0 ≤ a ∧ a ≤ 255 := by
  simpa [Lit.wf, IntKind.min, IntKind.max, IntKind.signed, IntKind.bits] using h
theorem alone_said (bits : Int) (wa : (Lit.int .u8 bits).wf = true) (v : Value) (L : List BytV) (w : World) (h : RdR w v 1 (L.map BytV.cs)) (hL : ∀ x ∈ L, BytV.Ok w x) :
    Calls Try.prog 6 #[.int .u8 bits, v] w fun e w' => e = .returned (.bool true) ∧ Below w.heap.size w w' := by
  obtain ⟨t0, tc, rfl⟩ : ∃ t0 tc, v = .slice t0 L.length tc := by
    rcases h with ⟨rfl, h2⟩ | ⟨a, cap, rfl, h2, _⟩ | ⟨b, off, cap, rfl, _⟩
    · have : L.length = 0 := by have := congrArg List.length h2; simpa using this
      exact ⟨none, 0, by rw [this]⟩
    · have : L.length = 0 := by have := congrArg List.length h2; simpa using this
      exact ⟨some a, cap, by rw [this]⟩
    · exact ⟨_, _, by rw [List.length_map]⟩
  by_cases h1 : (40 : Int) < (L.length : Int)
  · exact alone_early bits t0 L.length tc w h1
  · exact alone_main bits (u8_bdA wa) t0 tc L w h hL (by omega)
end Go.Proofs.Ytpicplkbblmbeaa
