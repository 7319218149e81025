/- The law MetaPlaces walked, in parts: true, and nothing that was there has turned. Conditions: the arguments are in their kinds' ranges. -/
import Derived.Test.YtmlmchgigepleaaMxy
import Derived.Test.YtmlmchgigepleaaMxl
import Derived.Test.YtmlmchgigepleaaMxh
namespace Go.Proofs.Ytmlmchgigepleaa
open Go.RowKit
set_option linter.unusedVariables false
theorem metaPlaces_walk (b t m s i ss st : Int) (wb : (Lit.int .i64 b).wf = true) (wt : (Lit.int .i64 t).wf = true) (wm : (Lit.int .i64 m).wf = true) (ws : (Lit.int .i64 s).wf = true) (wi : (Lit.int .i32 i).wf = true) (wss : (Lit.int .i32 ss).wf = true) (wst : (Lit.int .i32 st).wf = true) (p : Int) (wp : (Lit.int .i64 p).wf = true) (j : Int) (wj : (Lit.int .i64 j).wf = true) (w : World) :
    Calls Try.prog 7 #[.agg #[.int .i64 b, .int .i64 t, .int .i64 m, .int .i64 s, .int .i32 i, .int .i32 ss, .int .i32 st], .int .i64 p, .int .i64 j] w fun e w' => e = .returned (.bool true) ∧ Below w.heap.size w w' := by
  by_cases hk : lgOk b t m s = true
  · by_cases pl : p < 0
    · by_cases jl : j < 0
      · exact metaPlaces_ll b t m s i ss st p j w (i64_bd wb).1 (i64_bd wb).2 (i64_bd wt).2 (i64_bd wt).1 (i64_bd wm).1 hk pl jl
      by_cases jh : s ≤ j
      · exact metaPlaces_lh b t m s i ss st p j w (i64_bd wb).1 (i64_bd wb).2 (i64_bd wt).2 (i64_bd wt).1 (i64_bd wm).1 hk pl jh
      · exact metaPlaces_ly b t m s i ss st p j w (i64_bd wb).1 (i64_bd wb).2 (i64_bd wt).2 (i64_bd wt).1 (i64_bd wm).1 hk pl (by omega) (by omega)
    by_cases ph : 3 ≤ p
    · by_cases jl : j < 0
      · exact metaPlaces_hl b t m s i ss st p j w (i64_bd wb).1 (i64_bd wb).2 (i64_bd wt).2 (i64_bd wt).1 (i64_bd wm).1 hk ph jl
      by_cases jh : s ≤ j
      · exact metaPlaces_hh b t m s i ss st p j w (i64_bd wb).1 (i64_bd wb).2 (i64_bd wt).2 (i64_bd wt).1 (i64_bd wm).1 hk ph jh
      · exact metaPlaces_hy b t m s i ss st p j w (i64_bd wb).1 (i64_bd wb).2 (i64_bd wt).2 (i64_bd wt).1 (i64_bd wm).1 hk ph (by omega) (by omega)
    · by_cases jl : j < 0
      · exact metaPlaces_yl b t m s i ss st p j w (i64_bd wb).1 (i64_bd wb).2 (i64_bd wt).2 (i64_bd wt).1 (i64_bd wm).1 hk (by omega) (by omega) jl
      by_cases jh : s ≤ j
      · exact metaPlaces_yh b t m s i ss st p j w (i64_bd wb).1 (i64_bd wb).2 (i64_bd wt).2 (i64_bd wt).1 (i64_bd wm).1 hk (by omega) (by omega) jh
      · exact metaPlaces_yy b t m s i ss st p j w (i64_bd wb).1 (i64_bd wb).2 (i64_bd wt).2 (i64_bd wt).1 (i64_bd wm).1 hk (by omega) (by omega) (by omega) (by omega)
  · exact metaPlaces_no b t m s i ss st p j w (i64_bd wb).1 (i64_bd wb).2 (i64_bd wt).2 (i64_bd wt).1 (i64_bd wm).1 (by simpa using hk)
end Go.Proofs.Ytmlmchgigepleaa
