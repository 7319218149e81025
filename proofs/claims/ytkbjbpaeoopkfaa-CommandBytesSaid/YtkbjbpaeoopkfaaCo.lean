/- Contracts of the closures of command.Parse. Conditions: the bytes are 32. -/
import Derived.Test.YtkbjbpaeoopkfaaCn
namespace Go.Proofs.Ytkbjbpaeoopkfaa
set_option maxRecDepth 100000
open Go.RowKit
set_option linter.unusedVariables false
/-- Four bytes' number with its sign, eight bytes' number with its sign, from a place on. -/
def fo (l : List Int) (i : Nat) : Int := wrap32 (leN ((l.drop i).take 4))
def ei (l : List Int) (i : Nat) : Int := wrap64 (leN ((l.drop i).take 8))
theorem part_rd {w : World} {b off cap : Nat} {l : List Int} (hc : l.length ≤ cap) (hm : cap ≤ maxLen) (h : ∀ i, i < l.length → w.cell? ⟨b, off + i, none⟩ = some (.int .u8 (gB l i))) (i n c : Nat) (hi : i + n ≤ l.length) (hn : n ≤ c) (hcm : c ≤ maxLen) :
    RdB w (.slice (some ⟨b, off + i, none⟩) n c) ((l.drop i).take n) := by
  refine RdB.cells (by simp; omega) hn hcm fun j hj => ?_
  rw [Nat.add_assoc, h (i + j) (by omega)]
  congr 2
  simp [gB, List.getD, hj]
theorem takes4 (l : List Int) (i : Nat) : ((l.drop i).take 4).take 8 = (l.drop i).take 4 := by rw [List.take_take]; rfl
theorem takes8 (l : List Int) (i : Nat) : ((l.drop i).take 8).take 8 = (l.drop i).take 8 := by rw [List.take_take]; rfl
theorem leN4 {l : List Int} (h : IsB l) (i : Nat) : 0 ≤ leN ((l.drop i).take 4) ∧ leN ((l.drop i).take 4) < 4294967296 := by
  have := leN_lt 4 _ (by simp; omega) ((h.drop i).take 4)
  exact ⟨this.1, by have := this.2; have e : (256 : Int) ^ 4 = 4294967296 := by decide
                    omega⟩
theorem leN8 {l : List Int} (h : IsB l) (i : Nat) : 0 ≤ leN ((l.drop i).take 8) ∧ leN ((l.drop i).take 8) < 18446744073709551616 := by
  have := leN_lt 8 _ (by simp; omega) ((h.drop i).take 8)
  exact ⟨this.1, by have := this.2; have e : (256 : Int) ^ 8 = 18446744073709551616 := by decide
                    omega⟩
set_option maxHeartbeats 1000000 in
theorem coFour_any (i B b off cap : Nat) (l : List Int) (w : World) (hl : l.length = 32) (hi : i + 4 ≤ 32) (hb : IsB l) (hc : 32 ≤ cap) (hm : cap ≤ maxLen)
    (hv : w.cell? ⟨B, 0, none⟩ = some (.slice (some ⟨b, off, none⟩) 32 cap)) (h : ∀ i, i < l.length → w.cell? ⟨b, off + i, none⟩ = some (.int .u8 (gB l i))) :
    Calls Try.prog 46 #[.int .i64 i, .pointer (some ⟨B, 0, none⟩)] w fun e w' => e = .returned (.int .i32 (fo l i)) ∧ w = w' := by
  have h4 := leN4 hb i
  have hr := part_rd (by omega) hm h i 4 (cap - i) (by omega) (by omega) (by omega)
  have HL := Lib.hid hl
  have HC := Lib.hid h
  have hne : ¬ cap = i := by omega
  unfold maxLen at hm
  clear h hl
  go_enter Try.func46, Try.ntmps46
  go_wp2_with fail
  refine (wNumber_any _ ((l.drop i).take 4) _ ?_ ((hb.drop i).take 4)).mono ?_
  · exact hr
  rintro e w' ⟨rfl, rfl⟩
  rw [takes4]
  go_wp2
  go_ret
  exact ⟨rfl, rfl⟩
set_option maxHeartbeats 1000000 in
theorem coEight_any (i B b off cap : Nat) (l : List Int) (w : World) (hl : l.length = 32) (hi : i + 8 ≤ 32) (hb : IsB l) (hc : 32 ≤ cap) (hm : cap ≤ maxLen)
    (hv : w.cell? ⟨B, 0, none⟩ = some (.slice (some ⟨b, off, none⟩) 32 cap)) (h : ∀ i, i < l.length → w.cell? ⟨b, off + i, none⟩ = some (.int .u8 (gB l i))) :
    Calls Try.prog 48 #[.int .i64 i, .pointer (some ⟨B, 0, none⟩)] w fun e w' => e = .returned (.int .i64 (ei l i)) ∧ w = w' := by
  have h4 := leN8 hb i
  have hr := part_rd (by omega) hm h i 8 (cap - i) (by omega) (by omega) (by omega)
  have HL := Lib.hid hl
  have HC := Lib.hid h
  have hne : ¬ cap = i := by omega
  unfold maxLen at hm
  clear h hl
  go_enter Try.func48, Try.ntmps48
  go_wp2_with fail
  refine (wNumber_any _ ((l.drop i).take 8) _ ?_ ((hb.drop i).take 8)).mono ?_
  · exact hr
  rintro e w' ⟨rfl, rfl⟩
  rw [takes8]
  go_wp2
  go_ret
  exact ⟨rfl, rfl⟩
/-- A command's fields out of bytes. -/
def pzOk (l : List Int) : Bool := decide (l.length = 32) && coOk (fo l 0) (fo l 4) (fo l 8) (fo l 12) (ei l 16) (ei l 24)
def pzV (l : List Int) : Value := if pzOk l = true then coV (fo l 0) (fo l 4) (fo l 8) (fo l 12) (ei l 16) (ei l 24) else coV 0 0 0 0 0 0
def pzE (l : List Int) : Int := if pzOk l = true then 0 else 8
set_option maxHeartbeats 1000000 in
/-- command.Parse at bytes that are not 32. -/
theorem coParse_no (v : Value) (l : List Int) (w : World) (h : RdB w v l) (hl : l.length ≠ 32) :
    Calls Try.prog 14 #[v] w fun e w' => e = .returned (.tuple #[pzV l, .int .i64 (pzE l)]) ∧ Below w.heap.size w w' := by
  have hp : pzOk l = false := by unfold pzOk; simp [hl]
  have HV := Lib.hid (show pzV l = coV 0 0 0 0 0 0 by unfold pzV; rw [hp]; rfl)
  have HE := Lib.hid (show pzE l = 8 by unfold pzE; rw [hp]; rfl)
  clear hp
  obtain ⟨a0, n, c, rfl, hn⟩ : ∃ a0 n c, v = .slice a0 n c ∧ n = l.length := by
    rcases h with ⟨rfl, rfl⟩ | ⟨a, cap, rfl, rfl, hm⟩ | ⟨b, off, cap, rfl, hc, hm, hcell⟩
    · exact ⟨_, _, _, rfl, rfl⟩
    · exact ⟨_, _, _, rfl, rfl⟩
    · exact ⟨_, _, _, rfl, rfl⟩
  have hnb : ((n : Int) != 32) = true := by simp; omega
  clear hn hl h
  go_enter Try.func14, Try.ntmps14
  go_wp2
  refine bodyPost_ret (v := .tuple #[coV 0 0 0 0 0 0, .int .i64 8]) ?_ rfl ⟨by rw [HV.out, HE.out], ?_⟩
  · rw [results_cell_tmp rfl]
    go_simp
    first | done | exact ⟨rfl, rfl⟩ | rfl
  · go_grown
set_option maxHeartbeats 1000000 in
/-- command.Parse -/
theorem coParse_row (b off cap : Nat) (l : List Int) (w : World) (hl : l.length = 32) (hb : IsB l) (hc : 32 ≤ cap) (hm : cap ≤ maxLen) (h : ∀ i, i < l.length → w.cell? ⟨b, off + i, none⟩ = some (.int .u8 (gB l i))) :
    Calls Try.prog 14 #[.slice (some ⟨b, off, none⟩) 32 cap] w fun e w' => e = .returned (.tuple #[pzV l, .int .i64 (pzE l)]) ∧ Below w.heap.size w w' := by
  have hbound := hl
  by_cases hok : coOk (fo l 0) (fo l 4) (fo l 8) (fo l 12) (ei l 16) (ei l 24) = true
  · have hp : pzOk l = true := by unfold pzOk; simp [hbound, hok]
    have HV := Lib.hid (show pzV l = coV (fo l 0) (fo l 4) (fo l 8) (fo l 12) (ei l 16) (ei l 24) by unfold pzV; rw [if_pos hp])
    have HE := Lib.hid (show pzE l = 0 by unfold pzE; rw [if_pos hp])
    have HO := Lib.hid (coE_ok hok)
    clear hp hok hbound
    have HL := Lib.hid hl
    have HC' := Lib.hid (show ∀ i, i < l.length → ((w.alloc (Obj.cells #[Value.slice (some ⟨b, off, none⟩) 32 cap] 22)).alloc (Obj.cells #[Value.int IntKind.i32 0, Value.int IntKind.i32 0, Value.int IntKind.i32 0, Value.int IntKind.i32 0, Value.int IntKind.i64 0, Value.int IntKind.i64 0] 25)).cell? ⟨b, off + i, none⟩ = some (.int .u8 (gB l i)) from fun i hi => by
      have := World.block_lt_of_cell? w _ (h i hi)
      have e : Below w.heap.size w ((w.alloc (Obj.cells #[Value.slice (some ⟨b, off, none⟩) 32 cap] 22)).alloc (Obj.cells #[Value.int IntKind.i32 0, Value.int IntKind.i32 0, Value.int IntKind.i32 0, Value.int IntKind.i32 0, Value.int IntKind.i64 0, Value.int IntKind.i64 0] 25)) := ((Below.refl _ _).alloc (Nat.le_refl _) _).alloc (by simp) _
      rw [e.cell (p := ⟨b, off + i, none⟩) this]
      exact h i hi)
    clear h hl
    go_enter Try.func14, Try.ntmps14
    go_wp2_with fail
    refine (coFour_any 0 w.heap.size b off cap l _ HL.out (by omega) hb hc hm (by go_simp) HC'.out).mono ?_
    rintro e w' ⟨rfl, rfl⟩
    go_wp2_with fail
    refine (coFour_any 4 w.heap.size b off cap l _ HL.out (by omega) hb hc hm (by go_simp) HC'.out).mono ?_
    rintro e w' ⟨rfl, rfl⟩
    go_wp2_with fail
    refine (coFour_any 8 w.heap.size b off cap l _ HL.out (by omega) hb hc hm (by go_simp) HC'.out).mono ?_
    rintro e w' ⟨rfl, rfl⟩
    go_wp2_with fail
    refine (coFour_any 12 w.heap.size b off cap l _ HL.out (by omega) hb hc hm (by go_simp) HC'.out).mono ?_
    rintro e w' ⟨rfl, rfl⟩
    go_wp2_with fail
    refine (coEight_any 16 w.heap.size b off cap l _ HL.out (by omega) hb hc hm (by go_simp) HC'.out).mono ?_
    rintro e w' ⟨rfl, rfl⟩
    go_wp2_with fail
    refine (coEight_any 24 w.heap.size b off cap l _ HL.out (by omega) hb hc hm (by go_simp) HC'.out).mono ?_
    rintro e w' ⟨rfl, rfl⟩
    go_wp2_with fail
    refine (coCheck_any (fo l 0) (fo l 4) (fo l 8) (fo l 12) (ei l 16) (ei l 24) _).mono ?_
    rintro e w1 ⟨rfl, b1⟩
    have z1 := b1.size
    simp at z1
    rw [HO.out]
    have e0 := b1.cell (p := ⟨w.heap.size + 1, 0, none⟩) (by simp)
    have e1 := b1.cell (p := ⟨w.heap.size + 1, 1, none⟩) (by simp)
    have e2 := b1.cell (p := ⟨w.heap.size + 1, 2, none⟩) (by simp)
    have e3 := b1.cell (p := ⟨w.heap.size + 1, 3, none⟩) (by simp)
    have e4 := b1.cell (p := ⟨w.heap.size + 1, 4, none⟩) (by simp)
    have e5 := b1.cell (p := ⟨w.heap.size + 1, 5, none⟩) (by simp)
    have g0 := b1.frozen (p := ⟨w.heap.size + 1, 0, none⟩) (by simp)
    have g1 := b1.frozen (p := ⟨w.heap.size + 1, 1, none⟩) (by simp)
    have g2 := b1.frozen (p := ⟨w.heap.size + 1, 2, none⟩) (by simp)
    have g3 := b1.frozen (p := ⟨w.heap.size + 1, 3, none⟩) (by simp)
    have g4 := b1.frozen (p := ⟨w.heap.size + 1, 4, none⟩) (by simp)
    have g5 := b1.frozen (p := ⟨w.heap.size + 1, 5, none⟩) (by simp)
    have c0 := b1.cell (p := ⟨w.heap.size + 2, 0, none⟩) (by simp)
    have c1 := b1.cell (p := ⟨w.heap.size + 2, 1, none⟩) (by simp)
    have c2 := b1.cell (p := ⟨w.heap.size + 2, 2, none⟩) (by simp)
    have c3 := b1.cell (p := ⟨w.heap.size + 2, 3, none⟩) (by simp)
    have c4 := b1.cell (p := ⟨w.heap.size + 2, 4, none⟩) (by simp)
    have c5 := b1.cell (p := ⟨w.heap.size + 2, 5, none⟩) (by simp)
    go_wp2
    refine bodyPost_ret (v := .tuple #[coV (fo l 0) (fo l 4) (fo l 8) (fo l 12) (ei l 16) (ei l 24), .int .i64 0]) ?_ rfl ⟨by rw [HV.out, HE.out], ?_⟩
    · rw [results_cell_tmp rfl]
      go_simp
      first | done | exact ⟨rfl, rfl⟩ | rfl
    · have q : Below w.heap.size w w1 := ((((Below.refl w.heap.size w).alloc (Nat.le_refl _) _).alloc (by simp) _).alloc (by simp; omega) _).trans (b1.mono (by simp; omega))
      repeat' (refine Below.setCell ?_ (by simp) _)
      exact q
  · have hok' : coOk (fo l 0) (fo l 4) (fo l 8) (fo l 12) (ei l 16) (ei l 24) = false := by simpa using hok
    have hp : pzOk l = false := by unfold pzOk; simp [hok']
    have HV := Lib.hid (show pzV l = coV 0 0 0 0 0 0 by unfold pzV; rw [hp]; rfl)
    have HE := Lib.hid (show pzE l = 8 by unfold pzE; rw [hp]; rfl)
    have HO := Lib.hid (coE_no hok')
    clear hp hok hok' hbound
    have HL := Lib.hid hl
    have HC' := Lib.hid (show ∀ i, i < l.length → ((w.alloc (Obj.cells #[Value.slice (some ⟨b, off, none⟩) 32 cap] 22)).alloc (Obj.cells #[Value.int IntKind.i32 0, Value.int IntKind.i32 0, Value.int IntKind.i32 0, Value.int IntKind.i32 0, Value.int IntKind.i64 0, Value.int IntKind.i64 0] 25)).cell? ⟨b, off + i, none⟩ = some (.int .u8 (gB l i)) from fun i hi => by
      have := World.block_lt_of_cell? w _ (h i hi)
      have e : Below w.heap.size w ((w.alloc (Obj.cells #[Value.slice (some ⟨b, off, none⟩) 32 cap] 22)).alloc (Obj.cells #[Value.int IntKind.i32 0, Value.int IntKind.i32 0, Value.int IntKind.i32 0, Value.int IntKind.i32 0, Value.int IntKind.i64 0, Value.int IntKind.i64 0] 25)) := ((Below.refl _ _).alloc (Nat.le_refl _) _).alloc (by simp) _
      rw [e.cell (p := ⟨b, off + i, none⟩) this]
      exact h i hi)
    clear h hl
    go_enter Try.func14, Try.ntmps14
    go_wp2_with fail
    refine (coFour_any 0 w.heap.size b off cap l _ HL.out (by omega) hb hc hm (by go_simp) HC'.out).mono ?_
    rintro e w' ⟨rfl, rfl⟩
    go_wp2_with fail
    refine (coFour_any 4 w.heap.size b off cap l _ HL.out (by omega) hb hc hm (by go_simp) HC'.out).mono ?_
    rintro e w' ⟨rfl, rfl⟩
    go_wp2_with fail
    refine (coFour_any 8 w.heap.size b off cap l _ HL.out (by omega) hb hc hm (by go_simp) HC'.out).mono ?_
    rintro e w' ⟨rfl, rfl⟩
    go_wp2_with fail
    refine (coFour_any 12 w.heap.size b off cap l _ HL.out (by omega) hb hc hm (by go_simp) HC'.out).mono ?_
    rintro e w' ⟨rfl, rfl⟩
    go_wp2_with fail
    refine (coEight_any 16 w.heap.size b off cap l _ HL.out (by omega) hb hc hm (by go_simp) HC'.out).mono ?_
    rintro e w' ⟨rfl, rfl⟩
    go_wp2_with fail
    refine (coEight_any 24 w.heap.size b off cap l _ HL.out (by omega) hb hc hm (by go_simp) HC'.out).mono ?_
    rintro e w' ⟨rfl, rfl⟩
    go_wp2_with fail
    refine (coCheck_any (fo l 0) (fo l 4) (fo l 8) (fo l 12) (ei l 16) (ei l 24) _).mono ?_
    rintro e w1 ⟨rfl, b1⟩
    have z1 := b1.size
    simp at z1
    rw [HO.out]
    have e0 := b1.cell (p := ⟨w.heap.size + 1, 0, none⟩) (by simp)
    have e1 := b1.cell (p := ⟨w.heap.size + 1, 1, none⟩) (by simp)
    have e2 := b1.cell (p := ⟨w.heap.size + 1, 2, none⟩) (by simp)
    have e3 := b1.cell (p := ⟨w.heap.size + 1, 3, none⟩) (by simp)
    have e4 := b1.cell (p := ⟨w.heap.size + 1, 4, none⟩) (by simp)
    have e5 := b1.cell (p := ⟨w.heap.size + 1, 5, none⟩) (by simp)
    have g0 := b1.frozen (p := ⟨w.heap.size + 1, 0, none⟩) (by simp)
    have g1 := b1.frozen (p := ⟨w.heap.size + 1, 1, none⟩) (by simp)
    have g2 := b1.frozen (p := ⟨w.heap.size + 1, 2, none⟩) (by simp)
    have g3 := b1.frozen (p := ⟨w.heap.size + 1, 3, none⟩) (by simp)
    have g4 := b1.frozen (p := ⟨w.heap.size + 1, 4, none⟩) (by simp)
    have g5 := b1.frozen (p := ⟨w.heap.size + 1, 5, none⟩) (by simp)
    go_wp2
    refine bodyPost_ret (v := .tuple #[coV 0 0 0 0 0 0, .int .i64 8]) ?_ rfl ⟨by rw [HV.out, HE.out], ?_⟩
    · rw [results_cell_tmp rfl]
      go_simp
      first | done | exact ⟨rfl, rfl⟩ | rfl
    · have q : Below w.heap.size w w1 := ((((Below.refl w.heap.size w).alloc (Nat.le_refl _) _).alloc (by simp) _).alloc (by simp; omega) _).trans (b1.mono (by simp; omega))
      repeat' (refine Below.setCell ?_ (by simp) _)
      exact q
/-- command.Parse, at whatever bytes. -/
theorem coParse_any (v : Value) (l : List Int) (w : World) (h : RdB w v l) (hb : IsB l) :
    Calls Try.prog 14 #[v] w fun e w' => e = .returned (.tuple #[pzV l, .int .i64 (pzE l)]) ∧ Below w.heap.size w w' := by
  by_cases hl : l.length = 32
  · rcases h with ⟨rfl, rfl⟩ | ⟨a, cap, rfl, rfl, hm⟩ | ⟨b, off, cap, rfl, hc, hm, hcell⟩
    · simp at hl
    · simp at hl
    · have := coParse_row b off cap l w hl hb (by omega) hm hcell
      rw [hl]
      exact this
  · exact coParse_no v l w h hl
end Go.Proofs.Ytkbjbpaeoopkfaa
