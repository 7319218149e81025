/- A fix in memory: its closures; New, Next, Take, Result; fixes as a family of machines. Conditions: as each says. -/
import Derived.Test.YtggjhleomocojaaGreatGo
import Derived.Test.YtggjhleomocojaaGreatKe
import Derived.Test.YtggjhleomocojaaGreatQb
namespace Go.Proofs.YtggjhleomocojaaGreat
set_option maxRecDepth 100000
open Go.RowKit
set_option linter.unusedVariables false
set_option linter.unusedSimpArgs false
def FixM.rest (m : FixM) : List Value := [.int .i64 m.c.b, .int .i64 m.c.s, .int .i64 m.first, .int .i64 m.last, .int .i64 m.n, .int .i64 m.e]
def FClo (w : World) (O : Nat → Prop) (q : Nat) (m : FixM) (t : Value) : Prop :=
 match m.pc with
 | .done => t = .nilFunc
 | .h0 => ∃ v1, Clo w O t 73 [v1] ∧ Clo w O v1 123 [ptr q, .int .i64 (m.c.b + m.c.s)]
 | .t0 h => ∃ v1, Clo w O t 73 [v1] ∧ Clo w O v1 124 [ptr q, .int .u64 h]
 | .lk => Clo w O t 73 [.func (.func 155) #[ptr q] #[]]
 | .ah a => ∃ v1, Clo w O t 73 [v1] ∧ Clo w O v1 171 [ptr q, .int .i64 a]
 | .bk a f => ∃ v1, Clo w O t 73 [v1] ∧ Clo w O v1 174 [ptr q, .int .i64 a, .int .i64 f]
 | .pd n => ∃ v1, Clo w O t 107 [v1] ∧ Clo w O v1 170 [.int .i64 n, ptr q]
def FixAt (w : World) (O : Nat → Prop) (q : Nat) (m : FixM) : Prop := ∃ t, Mch w q m.want.acc t m.rest ∧ FClo w O q m t
structure FixW (w : World) (O : Nat → Prop) (q : Nat) (m : FixM) : Prop where
 mch : Mch w q accZ .nilFunc m.rest
 nq : ¬ O q
 ok : rgOk m.c.b m.c.s = true
def FixM.pcOk (m : FixM) : Prop := match m.pc with
 | .done => True
 | .h0 => True
 | .t0 h => inU h
 | .lk => 0 ≤ m.first ∧ m.first < m.last ∧ m.last ≤ m.c.s
 | .ah a => (0 ≤ m.first ∧ m.first < m.last ∧ m.last ≤ m.c.s) ∧ m.first < a ∧ a < m.last
 | .bk a g => (0 ≤ m.first ∧ m.first < m.last ∧ m.last ≤ m.c.s) ∧ m.first ≤ a ∧ a < g ∧ g < m.last
 | .pd n => (0 ≤ m.first ∧ m.first < m.last ∧ m.last ≤ m.c.s) ∧ 0 < n ∧ n ≤ m.c.s - m.first
structure FixM.fine (m : FixM) : Prop where
 ok : m.live = true → rgOk m.c.b m.c.s = true
 pc : m.pcOk
structure FixI (w : World) (O : Nat → Prop) (q : Nat) (m : FixM) : Prop where
 at_ : FixAt w O q m
 nq : ¬ O q
 fine : m.fine
end Go.Proofs.YtggjhleomocojaaGreat
namespace Go.Proofs.YtggjhleomocojaaGreat
set_option maxRecDepth 100000
open Go.RowKit
set_option linter.unusedVariables false
set_option linter.unusedSimpArgs false
def FixF (w : World) (F : Nat → Prop) (q : Nat) (m : FixM) : Prop := F q ∧ (∀ i, F i → i < w.heap.size) ∧ ∃ O, (∀ i, O i → F i ∧ i ≠ q) ∧ FixI w O q m
end Go.Proofs.YtggjhleomocojaaGreat
