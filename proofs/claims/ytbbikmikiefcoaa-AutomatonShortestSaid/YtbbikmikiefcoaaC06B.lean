/- C06B: what the row's functions are, as the evaluator tells them. No condition. -/
import Derived.Test.YtbbikmikiefcoaaC06
set_option linter.unusedVariables false
set_option linter.unusedSimpArgs false
set_option maxRecDepth 100000
set_option linter.unusedVariables false
namespace Go.Proofs.C06
open Go Go.Proofs.R
noncomputable def ancepslaw06_AutomatonRuns.f (p0 : Int) (p1 : Int) (p2 : (List (List Int))) (p3 : (List Bool)) (p4 : (List Int)) : Option (Bool × Unit) := (Go.Proofs.R.Einf Go.Proofs.C06.ctx).call 4 [(.agg [(.v (.int .i64) p0), (.v (.int .i64) p1), (.v (.sl (.sl (.int .i64))) p2), (.v (.sl .bool) p3)]), (.one (.v (.sl (.int .i64)) p4))]
noncomputable def ancepslaw06_AutomatonShortest.f (p0 : Int) (p1 : Int) (p2 : (List (List Int))) (p3 : (List Bool)) : Option (Bool × Unit) := (Go.Proofs.R.Einf Go.Proofs.C06.ctx).call 7 [(.agg [(.v (.int .i64) p0), (.v (.int .i64) p1), (.v (.sl (.sl (.int .i64))) p2), (.v (.sl .bool) p3)])]
noncomputable def ancepslaw06_AutomatonMinimal.f (p0 : Int) (p1 : Int) (p2 : (List (List Int))) (p3 : (List Bool)) (p4 : (List Int)) : Option (Bool × Unit) := (Go.Proofs.R.Einf Go.Proofs.C06.ctx).call 5 [(.agg [(.v (.int .i64) p0), (.v (.int .i64) p1), (.v (.sl (.sl (.int .i64))) p2), (.v (.sl .bool) p3)]), (.one (.v (.sl (.int .i64)) p4))]
noncomputable def ancepslaw06_AutomatonProduct.f (p0 : Int) (p1 : Int) (p2 : (List (List Int))) (p3 : (List Bool)) (p4 : Int) (p5 : Int) (p6 : (List (List Int))) (p7 : (List Bool)) (p8 : Int) (p9 : (List Int)) : Option (Bool × Unit) := (Go.Proofs.R.Einf Go.Proofs.C06.ctx).call 6 [(.agg [(.v (.int .i64) p0), (.v (.int .i64) p1), (.v (.sl (.sl (.int .i64))) p2), (.v (.sl .bool) p3), (.v (.int .i64) p4), (.v (.int .i64) p5), (.v (.sl (.sl (.int .i64))) p6), (.v (.sl .bool) p7), (.v (.int .i64) p8), (.v (.sl (.int .i64)) p9)])]
noncomputable def ancepslaw06_AutomatonSame.f (p0 : Int) (p1 : Int) (p2 : (List (List Int))) (p3 : (List Bool)) (p4 : Int) (p5 : Int) (p6 : (List (List Int))) (p7 : (List Bool)) : Option (Bool × Unit) := (Go.Proofs.R.Einf Go.Proofs.C06.ctx).call 8 [(.agg [(.v (.int .i64) p0), (.v (.int .i64) p1), (.v (.sl (.sl (.int .i64))) p2), (.v (.sl .bool) p3)]), (.agg [(.v (.int .i64) p4), (.v (.int .i64) p5), (.v (.sl (.sl (.int .i64))) p6), (.v (.sl .bool) p7)])]
noncomputable def ancepslaw06_awake.f : Option (Bool × Unit) := (Go.Proofs.R.Einf Go.Proofs.C06.ctx).call 12 []
noncomputable def ancepsref06_Few.f (p0 : Int) (p1 : Int) (p2 : (List (List Int))) (p3 : (List Bool)) : Option (Bool × Unit) := (Go.Proofs.R.Einf Go.Proofs.C06.ctx).call 17 [(.agg [(.v (.int .i64) p0), (.v (.int .i64) p1), (.v (.sl (.sl (.int .i64))) p2), (.v (.sl .bool) p3)])]
noncomputable def ancepslaw06_copied.f (p0 : Int) (p1 : Int) (p2 : (List (List Int))) (p3 : (List Bool)) : Option (Int × (Int × ((List (List Int)) × ((List Bool) × Unit)))) := (Go.Proofs.R.Einf Go.Proofs.C06.ctx).call 19 [(.agg [(.v (.int .i64) p0), (.v (.int .i64) p1), (.v (.sl (.sl (.int .i64))) p2), (.v (.sl .bool) p3)])]
noncomputable def automaton_Valid.f (p0 : Int) (p1 : Int) (p2 : (List (List Int))) (p3 : (List Bool)) : Option (Int × Unit) := (Go.Proofs.R.Einf Go.Proofs.C06.ctx).call 18 [(.agg [(.v (.int .i64) p0), (.v (.int .i64) p1), (.v (.sl (.sl (.int .i64))) p2), (.v (.sl .bool) p3)])]
noncomputable def ancepsref06_Valid.f (p0 : Int) (p1 : Int) (p2 : (List (List Int))) (p3 : (List Bool)) : Option (Int × Unit) := (Go.Proofs.R.Einf Go.Proofs.C06.ctx).call 20 [(.agg [(.v (.int .i64) p0), (.v (.int .i64) p1), (.v (.sl (.sl (.int .i64))) p2), (.v (.sl .bool) p3)])]
noncomputable def slices_Clone_int_int.f (p0 : (List Int)) : Option ((List Int) × Unit) := (Go.Proofs.R.Einf Go.Proofs.C06.ctx).call 22 [(.one (.v (.sl (.int .i64)) p0))]
noncomputable def automaton_Run.f (p0 : Int) (p1 : Int) (p2 : (List (List Int))) (p3 : (List Bool)) (p4 : (List Int)) : Option (Int × Unit) := (Go.Proofs.R.Einf Go.Proofs.C06.ctx).call 21 [(.agg [(.v (.int .i64) p0), (.v (.int .i64) p1), (.v (.sl (.sl (.int .i64))) p2), (.v (.sl .bool) p3)]), (.one (.v (.sl (.int .i64)) p4))]
noncomputable def ancepsref06_Run.f (p0 : Int) (p1 : Int) (p2 : (List (List Int))) (p3 : (List Bool)) (p4 : (List Int)) : Option (Int × Unit) := (Go.Proofs.R.Einf Go.Proofs.C06.ctx).call 23 [(.agg [(.v (.int .i64) p0), (.v (.int .i64) p1), (.v (.sl (.sl (.int .i64))) p2), (.v (.sl .bool) p3)]), (.one (.v (.sl (.int .i64)) p4))]
noncomputable def automaton_Accepts.f (p0 : Int) (p1 : Int) (p2 : (List (List Int))) (p3 : (List Bool)) (p4 : (List Int)) : Option (Bool × Unit) := (Go.Proofs.R.Einf Go.Proofs.C06.ctx).call 24 [(.agg [(.v (.int .i64) p0), (.v (.int .i64) p1), (.v (.sl (.sl (.int .i64))) p2), (.v (.sl .bool) p3)]), (.one (.v (.sl (.int .i64)) p4))]
noncomputable def ancepsref06_Accepts.f (p0 : Int) (p1 : Int) (p2 : (List (List Int))) (p3 : (List Bool)) (p4 : (List Int)) : Option (Bool × Unit) := (Go.Proofs.R.Einf Go.Proofs.C06.ctx).call 25 [(.agg [(.v (.int .i64) p0), (.v (.int .i64) p1), (.v (.sl (.sl (.int .i64))) p2), (.v (.sl .bool) p3)]), (.one (.v (.sl (.int .i64)) p4))]
noncomputable def automaton_Shortest.f (p0 : Int) (p1 : Int) (p2 : (List (List Int))) (p3 : (List Bool)) : Option ((List Int) × (Int × Unit)) := (Go.Proofs.R.Einf Go.Proofs.C06.ctx).call 29 [(.agg [(.v (.int .i64) p0), (.v (.int .i64) p1), (.v (.sl (.sl (.int .i64))) p2), (.v (.sl .bool) p3)])]
noncomputable def ancepsref06_Shortest.f (p0 : Int) (p1 : Int) (p2 : (List (List Int))) (p3 : (List Bool)) : Option ((List Int) × (Int × Unit)) := (Go.Proofs.R.Einf Go.Proofs.C06.ctx).call 30 [(.agg [(.v (.int .i64) p0), (.v (.int .i64) p1), (.v (.sl (.sl (.int .i64))) p2), (.v (.sl .bool) p3)])]
noncomputable def slices_Equal_int_int.f (p0 : (List Int)) (p1 : (List Int)) : Option (Bool × Unit) := (Go.Proofs.R.Einf Go.Proofs.C06.ctx).call 31 [(.one (.v (.sl (.int .i64)) p0)), (.one (.v (.sl (.int .i64)) p1))]
noncomputable def ancepslaw06_AutomatonShortest.l10 (p0 : Int) (p1 : Int) (p2 : Int) (p3 : (List (List Int))) (p4 : (List Bool)) (p5 : (List Int)) : Option (Bool × Unit) := Go.Proofs.R.loopAt Go.Proofs.C06.ctx (Go.Proofs.R.Einf Go.Proofs.C06.ctx) 7 10 (.mk [(1, (.one (.ref 7 0))), (3, (.one (.row 15))), (7, (.one (.v (.int .i64) p0)))] [(7, (.box 29 [(.v (.int .i64) p1), (.v (.int .i64) p2), (.v (.sl (.sl (.int .i64))) p3), (.v (.sl .bool) p4)])), (15, (.row 3 (.int .i64) p5 false))])
noncomputable def automaton_Minimal.f (p0 : Int) (p1 : Int) (p2 : (List (List Int))) (p3 : (List Bool)) : Option (Int × (Int × ((List (List Int)) × ((List Bool) × (Int × Unit))))) := (Go.Proofs.R.Einf Go.Proofs.C06.ctx).call 15 [(.agg [(.v (.int .i64) p0), (.v (.int .i64) p1), (.v (.sl (.sl (.int .i64))) p2), (.v (.sl .bool) p3)])]
noncomputable def ancepsref06_Minimal.f (p0 : Int) (p1 : Int) (p2 : (List (List Int))) (p3 : (List Bool)) : Option (Int × (Int × ((List (List Int)) × ((List Bool) × (Int × Unit))))) := (Go.Proofs.R.Einf Go.Proofs.C06.ctx).call 26 [(.agg [(.v (.int .i64) p0), (.v (.int .i64) p1), (.v (.sl (.sl (.int .i64))) p2), (.v (.sl .bool) p3)])]
noncomputable def ancepsref06_SameDFA.f (p0 : Int) (p1 : Int) (p2 : (List (List Int))) (p3 : (List Bool)) (p4 : Int) (p5 : Int) (p6 : (List (List Int))) (p7 : (List Bool)) : Option (Bool × Unit) := (Go.Proofs.R.Einf Go.Proofs.C06.ctx).call 14 [(.agg [(.v (.int .i64) p0), (.v (.int .i64) p1), (.v (.sl (.sl (.int .i64))) p2), (.v (.sl .bool) p3)]), (.agg [(.v (.int .i64) p4), (.v (.int .i64) p5), (.v (.sl (.sl (.int .i64))) p6), (.v (.sl .bool) p7)])]
noncomputable def ancepslaw06_small.f (p0 : Int) (p1 : Int) (p2 : (List (List Int))) (p3 : (List Bool)) (p4 : Int) (p5 : Int) (p6 : (List (List Int))) (p7 : (List Bool)) : Option (Bool × Unit) := (Go.Proofs.R.Einf Go.Proofs.C06.ctx).call 27 [(.agg [(.v (.int .i64) p0), (.v (.int .i64) p1), (.v (.sl (.sl (.int .i64))) p2), (.v (.sl .bool) p3)]), (.agg [(.v (.int .i64) p4), (.v (.int .i64) p5), (.v (.sl (.sl (.int .i64))) p6), (.v (.sl .bool) p7)])]
noncomputable def automaton_Product.f (p0 : Int) (p1 : Int) (p2 : (List (List Int))) (p3 : (List Bool)) (p4 : Int) (p5 : Int) (p6 : (List (List Int))) (p7 : (List Bool)) (p8 : Int) : Option (Int × (Int × ((List (List Int)) × ((List Bool) × (Int × Unit))))) := (Go.Proofs.R.Einf Go.Proofs.C06.ctx).call 13 [(.agg [(.v (.int .i64) p0), (.v (.int .i64) p1), (.v (.sl (.sl (.int .i64))) p2), (.v (.sl .bool) p3)]), (.agg [(.v (.int .i64) p4), (.v (.int .i64) p5), (.v (.sl (.sl (.int .i64))) p6), (.v (.sl .bool) p7)]), (.one (.v (.int .i64) p8))]
noncomputable def ancepsref06_Product.f (p0 : Int) (p1 : Int) (p2 : (List (List Int))) (p3 : (List Bool)) (p4 : Int) (p5 : Int) (p6 : (List (List Int))) (p7 : (List Bool)) (p8 : Int) : Option (Int × (Int × ((List (List Int)) × ((List Bool) × (Int × Unit))))) := (Go.Proofs.R.Einf Go.Proofs.C06.ctx).call 28 [(.agg [(.v (.int .i64) p0), (.v (.int .i64) p1), (.v (.sl (.sl (.int .i64))) p2), (.v (.sl .bool) p3)]), (.agg [(.v (.int .i64) p4), (.v (.int .i64) p5), (.v (.sl (.sl (.int .i64))) p6), (.v (.sl .bool) p7)]), (.one (.v (.int .i64) p8))]
noncomputable def automaton_Same.f (p0 : Int) (p1 : Int) (p2 : (List (List Int))) (p3 : (List Bool)) (p4 : Int) (p5 : Int) (p6 : (List (List Int))) (p7 : (List Bool)) : Option (Bool × (Int × Unit)) := (Go.Proofs.R.Einf Go.Proofs.C06.ctx).call 32 [(.agg [(.v (.int .i64) p0), (.v (.int .i64) p1), (.v (.sl (.sl (.int .i64))) p2), (.v (.sl .bool) p3)]), (.agg [(.v (.int .i64) p4), (.v (.int .i64) p5), (.v (.sl (.sl (.int .i64))) p6), (.v (.sl .bool) p7)])]
noncomputable def ancepsref06_Same.f (p0 : Int) (p1 : Int) (p2 : (List (List Int))) (p3 : (List Bool)) (p4 : Int) (p5 : Int) (p6 : (List (List Int))) (p7 : (List Bool)) : Option (Bool × (Int × Unit)) := (Go.Proofs.R.Einf Go.Proofs.C06.ctx).call 33 [(.agg [(.v (.int .i64) p0), (.v (.int .i64) p1), (.v (.sl (.sl (.int .i64))) p2), (.v (.sl .bool) p3)]), (.agg [(.v (.int .i64) p4), (.v (.int .i64) p5), (.v (.sl (.sl (.int .i64))) p6), (.v (.sl .bool) p7)])]
noncomputable def automaton_Difference.f (p0 : Int) (p1 : Int) (p2 : (List (List Int))) (p3 : (List Bool)) (p4 : Int) (p5 : Int) (p6 : (List (List Int))) (p7 : (List Bool)) : Option ((List Int) × (Int × Unit)) := (Go.Proofs.R.Einf Go.Proofs.C06.ctx).call 34 [(.agg [(.v (.int .i64) p0), (.v (.int .i64) p1), (.v (.sl (.sl (.int .i64))) p2), (.v (.sl .bool) p3)]), (.agg [(.v (.int .i64) p4), (.v (.int .i64) p5), (.v (.sl (.sl (.int .i64))) p6), (.v (.sl .bool) p7)])]
noncomputable def ancepsref06_Difference.f (p0 : Int) (p1 : Int) (p2 : (List (List Int))) (p3 : (List Bool)) (p4 : Int) (p5 : Int) (p6 : (List (List Int))) (p7 : (List Bool)) : Option ((List Int) × (Int × Unit)) := (Go.Proofs.R.Einf Go.Proofs.C06.ctx).call 35 [(.agg [(.v (.int .i64) p0), (.v (.int .i64) p1), (.v (.sl (.sl (.int .i64))) p2), (.v (.sl .bool) p3)]), (.agg [(.v (.int .i64) p4), (.v (.int .i64) p5), (.v (.sl (.sl (.int .i64))) p6), (.v (.sl .bool) p7)])]
noncomputable def automaton_Count.f (p0 : Int) (p1 : Int) (p2 : (List (List Int))) (p3 : (List Bool)) (p4 : Int) : Option (Int × (Int × Unit)) := (Go.Proofs.R.Einf Go.Proofs.C06.ctx).call 16 [(.agg [(.v (.int .i64) p0), (.v (.int .i64) p1), (.v (.sl (.sl (.int .i64))) p2), (.v (.sl .bool) p3)]), (.one (.v (.int .i64) p4))]
noncomputable def ancepsref06_Few.l5 (p0 : Int) (p1 : Int) (p2 : Int) (p3 : Int) (p4 : (List (List Int))) (p5 : (List Bool)) : Option (Bool × Unit) := Go.Proofs.R.loopAt Go.Proofs.C06.ctx (Go.Proofs.R.Einf Go.Proofs.C06.ctx) 17 5 (.mk [(1, (.one (.ref 7 0))), (3, (.one (.v (.int .i64) p0))), (4, (.one (.v (.int .i64) p1)))] [(7, (.box 29 [(.v (.int .i64) p2), (.v (.int .i64) p3), (.v (.sl (.sl (.int .i64))) p4), (.v (.sl .bool) p5)]))])
noncomputable def slices_Clone_bool_bool.f (p0 : (List Bool)) : Option ((List Bool) × Unit) := (Go.Proofs.R.Einf Go.Proofs.C06.ctx).call 50 [(.one (.v (.sl .bool) p0))]
noncomputable def ancepslaw06_copied.l3 (p0 : (List (List Int))) (p1 : Int) (p2 : Int) (p3 : Int) (p4 : Int) (p5 : Int) (p6 : Int) (p7 : (List (List Int))) (p8 : (List Bool)) (p9 : (List (List Int))) (p10 : (List Bool)) : Option (Int × (Int × ((List (List Int)) × ((List Bool) × Unit)))) := Go.Proofs.R.loopAt Go.Proofs.C06.ctx (Go.Proofs.R.Einf Go.Proofs.C06.ctx) 19 3 (.mk [(2, (.one (.ref 7 0))), (3, (.one (.ref 15 0))), (15, (.one (.v (.sl (.sl (.int .i64))) p0))), (16, (.one (.v (.int .i64) p1))), (17, (.one (.v (.int .i64) p2)))] [(7, (.box 29 [(.v (.int .i64) p3), (.v (.int .i64) p4), (.row 23), (.row 31)])), (15, (.box 29 [(.v (.int .i64) p5), (.v (.int .i64) p6), (.row 39), (.row 47)])), (23, (.row 40 (.sl (.int .i64)) p7 false)), (31, (.row 4 .bool p8 false)), (39, (.row 40 (.sl (.int .i64)) p9 false)), (47, (.row 4 .bool p10 false))])
noncomputable def automaton_Valid.l7 (p0 : (List (List Int))) (p1 : Int) (p2 : Int) (p3 : Int) (p4 : Int) (p5 : (List (List Int))) (p6 : (List Bool)) (p7 : Int) : Option (Int × Unit) := Go.Proofs.R.loopAt Go.Proofs.C06.ctx (Go.Proofs.R.Einf Go.Proofs.C06.ctx) 18 7 (.mk [(1, (.one (.ref 7 0))), (3, (.one (.ref 15 0))), (47, (.one (.v (.sl (.sl (.int .i64))) p0))), (48, (.one (.v (.int .i64) p1))), (49, (.one (.v (.int .i64) p2)))] [(7, (.box 29 [(.v (.int .i64) p3), (.v (.int .i64) p4), (.v (.sl (.sl (.int .i64))) p5), (.v (.sl .bool) p6)])), (15, (.box 3 [(.v (.int .i64) p7)]))])
noncomputable def ancepsref06_Valid.l7 (p0 : Int) (p1 : Int) (p2 : Int) (p3 : Int) (p4 : (List (List Int))) (p5 : (List Bool)) : Option (Int × Unit) := Go.Proofs.R.loopAt Go.Proofs.C06.ctx (Go.Proofs.R.Einf Go.Proofs.C06.ctx) 20 7 (.mk [(1, (.one (.ref 7 0))), (3, (.one (.v (.int .i64) p0))), (4, (.one (.v (.int .i64) p1)))] [(7, (.box 29 [(.v (.int .i64) p2), (.v (.int .i64) p3), (.v (.sl (.sl (.int .i64))) p4), (.v (.sl .bool) p5)]))])
noncomputable def automaton_Run.l5 (p0 : Int) (p1 : (List Int)) (p2 : Int) (p3 : Int) (p4 : Int) (p5 : Int) (p6 : (List (List Int))) (p7 : (List Bool)) : Option (Int × Unit) := Go.Proofs.R.loopAt Go.Proofs.C06.ctx (Go.Proofs.R.Einf Go.Proofs.C06.ctx) 21 5 (.mk [(2, (.one (.ref 7 0))), (5, (.one (.v (.int .i64) p0))), (13, (.one (.v (.sl (.int .i64)) p1))), (14, (.one (.v (.int .i64) p2))), (15, (.one (.v (.int .i64) p3)))] [(7, (.box 29 [(.v (.int .i64) p4), (.v (.int .i64) p5), (.v (.sl (.sl (.int .i64))) p6), (.v (.sl .bool) p7)]))])
noncomputable def ancepsref06_From.f (p0 : Int) (p1 : Int) (p2 : (List (List Int))) (p3 : (List Bool)) (p4 : Int) (p5 : (List Int)) : Option (Int × Unit) := (Go.Proofs.R.Einf Go.Proofs.C06.ctx).call 51 [(.agg [(.v (.int .i64) p0), (.v (.int .i64) p1), (.v (.sl (.sl (.int .i64))) p2), (.v (.sl .bool) p3)]), (.one (.v (.int .i64) p4)), (.one (.v (.sl (.int .i64)) p5))]
noncomputable def automaton_ends.f (p0 : Int) (p1 : Int) (p2 : (List (List Int))) (p3 : (List Bool)) (p4 : Int) : Option (Bool × Unit) := (Go.Proofs.R.Einf Go.Proofs.C06.ctx).call 45 [(.agg [(.v (.int .i64) p0), (.v (.int .i64) p1), (.v (.sl (.sl (.int .i64))) p2), (.v (.sl .bool) p3)]), (.one (.v (.int .i64) p4))]
noncomputable def slices_Equal_int_int.l4 (p0 : (List Int)) (p1 : (List Int)) (p2 : Int) (p3 : Int) : Option (Bool × Unit) := Go.Proofs.R.loopAt Go.Proofs.C06.ctx (Go.Proofs.R.Einf Go.Proofs.C06.ctx) 31 4 (.mk [(0, (.one (.v (.sl (.int .i64)) p0))), (1, (.one (.v (.sl (.int .i64)) p1))), (12, (.one (.v (.int .i64) p2))), (13, (.one (.v (.int .i64) p3)))] [])
noncomputable def automaton_minimal.f (p0 : Int) (p1 : Int) (p2 : (List (List Int))) (p3 : (List Bool)) : Option (Int × (Int × ((List (List Int)) × ((List Bool) × Unit)))) := (Go.Proofs.R.Einf Go.Proofs.C06.ctx).call 46 [(.agg [(.v (.int .i64) p0), (.v (.int .i64) p1), (.v (.sl (.sl (.int .i64))) p2), (.v (.sl .bool) p3)])]
noncomputable def ancepsref06_minimal.f (p0 : Int) (p1 : Int) (p2 : (List (List Int))) (p3 : (List Bool)) : Option (Int × (Int × ((List (List Int)) × ((List Bool) × Unit)))) := (Go.Proofs.R.Einf Go.Proofs.C06.ctx).call 52 [(.agg [(.v (.int .i64) p0), (.v (.int .i64) p1), (.v (.sl (.sl (.int .i64))) p2), (.v (.sl .bool) p3)])]
noncomputable def ancepsref06_SameDFA.l4 (p0 : Int) (p1 : Int) (p2 : Int) (p3 : (List (List Int))) (p4 : (List Bool)) (p5 : Int) (p6 : Int) (p7 : (List (List Int))) (p8 : (List Bool)) : Option (Bool × Unit) := Go.Proofs.R.loopAt Go.Proofs.C06.ctx (Go.Proofs.R.Einf Go.Proofs.C06.ctx) 14 4 (.mk [(2, (.one (.ref 7 0))), (3, (.one (.ref 15 0))), (5, (.one (.v (.int .i64) p0)))] [(7, (.box 29 [(.v (.int .i64) p1), (.v (.int .i64) p2), (.v (.sl (.sl (.int .i64))) p3), (.v (.sl .bool) p4)])), (15, (.box 29 [(.v (.int .i64) p5), (.v (.int .i64) p6), (.v (.sl (.sl (.int .i64))) p7), (.v (.sl .bool) p8)]))])
noncomputable def automaton_both.f (p0 : Int) (p1 : Int) (p2 : (List (List Int))) (p3 : (List Bool)) (p4 : Int) (p5 : Int) (p6 : (List (List Int))) (p7 : (List Bool)) : Option (Int × Unit) := (Go.Proofs.R.Einf Go.Proofs.C06.ctx).call 42 [(.agg [(.v (.int .i64) p0), (.v (.int .i64) p1), (.v (.sl (.sl (.int .i64))) p2), (.v (.sl .bool) p3)]), (.agg [(.v (.int .i64) p4), (.v (.int .i64) p5), (.v (.sl (.sl (.int .i64))) p6), (.v (.sl .bool) p7)])]
noncomputable def automaton_visits.f (p0 : Int) (p1 : Int) (p2 : (List (List Int))) (p3 : (List Bool)) (p4 : Int) (p5 : Int) (p6 : (List (List Int))) (p7 : (List Bool)) : Option ((List ((Int × Int) × (Int × Int))) × Unit) := (Go.Proofs.R.Einf Go.Proofs.C06.ctx).call 43 [(.agg [(.v (.int .i64) p0), (.v (.int .i64) p1), (.v (.sl (.sl (.int .i64))) p2), (.v (.sl .bool) p3)]), (.agg [(.v (.int .i64) p4), (.v (.int .i64) p5), (.v (.sl (.sl (.int .i64))) p6), (.v (.sl .bool) p7)])]
noncomputable def automaton_Product.l9 (p0 : Int) (p1 : Int) (p2 : Int) (p3 : Int) (p4 : Int) (p5 : (List (List Int))) (p6 : (List Bool)) (p7 : Int) (p8 : Int) (p9 : (List (List Int))) (p10 : (List Bool)) (p11 : Int) (p12 : Int) (p13 : (List ((Int × Int) × (Int × Int)))) (p14 : (List ((Int × Int) × Int))) (p15 : (List (List Int))) (p16 : (List Bool)) : Option (Int × (Int × ((List (List Int)) × ((List Bool) × (Int × Unit))))) := Go.Proofs.R.loopAt Go.Proofs.C06.ctx (Go.Proofs.R.Einf Go.Proofs.C06.ctx) 13 9 (.mk [(2, (.one (.v (.int .i64) p0))), (3, (.one (.ref 7 0))), (4, (.one (.ref 15 0))), (6, (.one (.ref 23 0))), (9, (.one (.row 31))), (10, (.one (.mp 39))), (43, (.one (.row 31))), (44, (.one (.v (.int .i64) p1))), (45, (.one (.v (.int .i64) p2)))] [(7, (.box 29 [(.v (.int .i64) p3), (.v (.int .i64) p4), (.v (.sl (.sl (.int .i64))) p5), (.v (.sl .bool) p6)])), (15, (.box 29 [(.v (.int .i64) p7), (.v (.int .i64) p8), (.v (.sl (.sl (.int .i64))) p9), (.v (.sl .bool) p10)])), (23, (.box 29 [(.v (.int .i64) p11), (.v (.int .i64) p12), (.row 47), (.row 55)])), (31, (.row 69 (.pair (.pair (.int .i64) (.int .i64)) (.pair (.int .i64) (.int .i64))) p13 false)), (39, (.mp 60 3 (.pair (.int .i64) (.int .i64)) (.int .i64) p14)), (47, (.row 40 (.sl (.int .i64)) p15 false)), (55, (.row 4 .bool p16 false))])
noncomputable def ancepsref06_both.f (p0 : Int) (p1 : Int) (p2 : (List (List Int))) (p3 : (List Bool)) (p4 : Int) (p5 : Int) (p6 : (List (List Int))) (p7 : (List Bool)) : Option (Int × Unit) := (Go.Proofs.R.Einf Go.Proofs.C06.ctx).call 53 [(.agg [(.v (.int .i64) p0), (.v (.int .i64) p1), (.v (.sl (.sl (.int .i64))) p2), (.v (.sl .bool) p3)]), (.agg [(.v (.int .i64) p4), (.v (.int .i64) p5), (.v (.sl (.sl (.int .i64))) p6), (.v (.sl .bool) p7)])]
noncomputable def ancepsref06_walk.f (p0 : Int) (p1 : Int) (p2 : (List (List Int))) (p3 : (List Bool)) (p4 : Int) (p5 : Int) (p6 : (List (List Int))) (p7 : (List Bool)) : Option ((List ((Int × Int) × (Int × Int))) × Unit) := (Go.Proofs.R.Einf Go.Proofs.C06.ctx).call 54 [(.agg [(.v (.int .i64) p0), (.v (.int .i64) p1), (.v (.sl (.sl (.int .i64))) p2), (.v (.sl .bool) p3)]), (.agg [(.v (.int .i64) p4), (.v (.int .i64) p5), (.v (.sl (.sl (.int .i64))) p6), (.v (.sl .bool) p7)])]
noncomputable def ancepsref06_Product.l9 (p0 : Int) (p1 : Int) (p2 : Int) (p3 : Int) (p4 : (List (List Int))) (p5 : (List Bool)) (p6 : Int) (p7 : Int) (p8 : (List (List Int))) (p9 : (List Bool)) (p10 : Int) (p11 : Int) (p12 : (List ((Int × Int) × (Int × Int)))) (p13 : (List ((Int × Int) × Int))) (p14 : (List (List Int))) (p15 : (List Bool)) : Option (Int × (Int × ((List (List Int)) × ((List Bool) × (Int × Unit))))) := Go.Proofs.R.loopAt Go.Proofs.C06.ctx (Go.Proofs.R.Einf Go.Proofs.C06.ctx) 28 9 (.mk [(2, (.one (.v (.int .i64) p0))), (3, (.one (.ref 7 0))), (4, (.one (.ref 15 0))), (6, (.one (.ref 23 0))), (9, (.one (.row 31))), (10, (.one (.mp 39))), (11, (.one (.v (.int .i64) p1)))] [(7, (.box 29 [(.v (.int .i64) p2), (.v (.int .i64) p3), (.v (.sl (.sl (.int .i64))) p4), (.v (.sl .bool) p5)])), (15, (.box 29 [(.v (.int .i64) p6), (.v (.int .i64) p7), (.v (.sl (.sl (.int .i64))) p8), (.v (.sl .bool) p9)])), (23, (.box 29 [(.v (.int .i64) p10), (.v (.int .i64) p11), (.row 47), (.row 55)])), (31, (.row 81 (.pair (.pair (.int .i64) (.int .i64)) (.pair (.int .i64) (.int .i64))) p12 false)), (39, (.mp 60 3 (.pair (.int .i64) (.int .i64)) (.int .i64) p13)), (47, (.row 40 (.sl (.int .i64)) p14 false)), (55, (.row 4 .bool p15 false))])
noncomputable def automaton_differ.f (p0 : Int) (p1 : Int) (p2 : (List (List Int))) (p3 : (List Bool)) (p4 : Int) (p5 : Int) (p6 : (List (List Int))) (p7 : (List Bool)) (p8 : (List ((Int × Int) × (Int × Int)))) : Option (Int × Unit) := (Go.Proofs.R.Einf Go.Proofs.C06.ctx).call 58 [(.agg [(.v (.int .i64) p0), (.v (.int .i64) p1), (.v (.sl (.sl (.int .i64))) p2), (.v (.sl .bool) p3)]), (.agg [(.v (.int .i64) p4), (.v (.int .i64) p5), (.v (.sl (.sl (.int .i64))) p6), (.v (.sl .bool) p7)]), (.one (.v (.sl (.pair (.pair (.int .i64) (.int .i64)) (.pair (.int .i64) (.int .i64)))) p8))]
noncomputable def automaton_word.f (p0 : (List ((Int × Int) × (Int × Int)))) (p1 : Int) : Option ((List Int) × Unit) := (Go.Proofs.R.Einf Go.Proofs.C06.ctx).call 59 [(.one (.v (.sl (.pair (.pair (.int .i64) (.int .i64)) (.pair (.int .i64) (.int .i64)))) p0)), (.one (.v (.int .i64) p1))]
noncomputable def ancepsref06_Difference.l6 (p0 : Int) (p1 : Int) (p2 : Int) (p3 : (List (List Int))) (p4 : (List Bool)) (p5 : Int) (p6 : Int) (p7 : (List (List Int))) (p8 : (List Bool)) (p9 : (List ((Int × Int) × (Int × Int)))) : Option ((List Int) × (Int × Unit)) := Go.Proofs.R.loopAt Go.Proofs.C06.ctx (Go.Proofs.R.Einf Go.Proofs.C06.ctx) 35 6 (.mk [(2, (.one (.ref 7 0))), (3, (.one (.ref 15 0))), (7, (.one (.row 23))), (8, (.one (.v (.int .i64) p0)))] [(7, (.box 29 [(.v (.int .i64) p1), (.v (.int .i64) p2), (.v (.sl (.sl (.int .i64))) p3), (.v (.sl .bool) p4)])), (15, (.box 29 [(.v (.int .i64) p5), (.v (.int .i64) p6), (.v (.sl (.sl (.int .i64))) p7), (.v (.sl .bool) p8)])), (23, (.row 81 (.pair (.pair (.int .i64) (.int .i64)) (.pair (.int .i64) (.int .i64))) p9 false))])
noncomputable def automaton_Count.l10 (p0 : Int) (p1 : (List Bool)) (p2 : Int) (p3 : Int) (p4 : Int) (p5 : Int) (p6 : (List (List Int))) (p7 : (List Bool)) (p8 : (List Int)) : Option (Int × (Int × Unit)) := Go.Proofs.R.loopAt Go.Proofs.C06.ctx (Go.Proofs.R.Einf Go.Proofs.C06.ctx) 16 10 (.mk [(1, (.one (.v (.int .i64) p0))), (2, (.one (.ref 7 0))), (7, (.one (.row 15))), (34, (.one (.v (.sl .bool) p1))), (35, (.one (.v (.int .i64) p2))), (36, (.one (.v (.int .i64) p3)))] [(7, (.box 29 [(.v (.int .i64) p4), (.v (.int .i64) p5), (.v (.sl (.sl (.int .i64))) p6), (.v (.sl .bool) p7)])), (15, (.row 73 (.int .u64) p8 false))])
noncomputable def slices_ContainsFunc_int_int.f (p0 : (List Int)) (p1 : Int) : Option (Bool × Unit) := (Go.Proofs.R.Einf Go.Proofs.C06.ctx).call 48 [(.one (.v (.sl (.int .i64)) p0)), (.one (.clo 49 [(.pref [(.v (.int .i64) p1)] 0)]))]
noncomputable def ancepsref06_Valid.l12 (p0 : Int) (p1 : Int) (p2 : Int) (p3 : Int) (p4 : Int) (p5 : (List (List Int))) (p6 : (List Bool)) : Option (Int × Unit) := Go.Proofs.R.loopAt Go.Proofs.C06.ctx (Go.Proofs.R.Einf Go.Proofs.C06.ctx) 20 12 (.mk [(1, (.one (.ref 7 0))), (3, (.one (.v (.int .i64) p0))), (4, (.one (.v (.int .i64) p1))), (5, (.one (.v (.int .i64) p2)))] [(7, (.box 29 [(.v (.int .i64) p3), (.v (.int .i64) p4), (.v (.sl (.sl (.int .i64))) p5), (.v (.sl .bool) p6)]))])
noncomputable def automaton_next.f (p0 : Int) (p1 : Int) (p2 : (List (List Int))) (p3 : (List Bool)) (p4 : Int) (p5 : Int) : Option (Int × Unit) := (Go.Proofs.R.Einf Go.Proofs.C06.ctx).call 44 [(.agg [(.v (.int .i64) p0), (.v (.int .i64) p1), (.v (.sl (.sl (.int .i64))) p2), (.v (.sl .bool) p3)]), (.one (.v (.int .i64) p4)), (.one (.v (.int .i64) p5))]
noncomputable def ancepsref06_From.l2 (p0 : Int) (p1 : (List Int)) (p2 : Int) (p3 : Int) (p4 : Int) (p5 : (List (List Int))) (p6 : (List Bool)) : Option (Int × Unit) := Go.Proofs.R.loopAt Go.Proofs.C06.ctx (Go.Proofs.R.Einf Go.Proofs.C06.ctx) 51 2 (.mk [(1, (.one (.v (.int .i64) p0))), (2, (.one (.v (.sl (.int .i64)) p1))), (3, (.one (.ref 7 0))), (7, (.one (.v (.int .i64) p2)))] [(7, (.box 29 [(.v (.int .i64) p3), (.v (.int .i64) p4), (.v (.sl (.sl (.int .i64))) p5), (.v (.sl .bool) p6)]))])
noncomputable def automaton_classes.f (p0 : Int) (p1 : Int) (p2 : (List (List Int))) (p3 : (List Bool)) : Option ((List Int) × Unit) := (Go.Proofs.R.Einf Go.Proofs.C06.ctx).call 66 [(.agg [(.v (.int .i64) p0), (.v (.int .i64) p1), (.v (.sl (.sl (.int .i64))) p2), (.v (.sl .bool) p3)])]
noncomputable def automaton_minimal.l11 (p0 : Int) (p1 : Int) (p2 : Int) (p3 : (List (List Int))) (p4 : (List Bool)) (p5 : Int) (p6 : Int) (p7 : Int) (p8 : Int) (p9 : (List Int)) (p10 : (List (Int × Int))) (p11 : (List Int)) (p12 : (List (List Int))) (p13 : (List Bool)) (p14 : (List (List Int))) (p15 : (List Bool)) : Option (Int × (Int × ((List (List Int)) × ((List Bool) × Unit)))) := Go.Proofs.R.loopAt Go.Proofs.C06.ctx (Go.Proofs.R.Einf Go.Proofs.C06.ctx) 46 11 (.mk [(1, (.one (.ref 7 0))), (2, (.one (.ref 15 0))), (3, (.one (.ref 23 0))), (4, (.one (.row 31))), (5, (.one (.mp 39))), (6, (.one (.row 47))), (7, (.one (.v (.int .i64) p0)))] [(7, (.box 29 [(.v (.int .i64) p1), (.v (.int .i64) p2), (.v (.sl (.sl (.int .i64))) p3), (.v (.sl .bool) p4)])), (15, (.box 29 [(.v (.int .i64) p5), (.v (.int .i64) p6), (.row 55), (.row 63)])), (23, (.box 29 [(.v (.int .i64) p7), (.v (.int .i64) p8), (.row 71), (.row 79)])), (31, (.row 3 (.int .i64) p9 false)), (39, (.mp 3 3 (.int .i64) (.int .i64) p10)), (47, (.row 3 (.int .i64) p11 false)), (55, (.row 40 (.sl (.int .i64)) p12 false)), (63, (.row 4 .bool p13 false)), (71, (.row 40 (.sl (.int .i64)) p14 false)), (79, (.row 4 .bool p15 false))])
noncomputable def ancepsref06_classes.f (p0 : Int) (p1 : Int) (p2 : (List (List Int))) (p3 : (List Bool)) : Option ((List Int) × Unit) := (Go.Proofs.R.Einf Go.Proofs.C06.ctx).call 68 [(.agg [(.v (.int .i64) p0), (.v (.int .i64) p1), (.v (.sl (.sl (.int .i64))) p2), (.v (.sl .bool) p3)])]
noncomputable def ancepsref06_minimal.l9 (p0 : Int) (p1 : Int) (p2 : Int) (p3 : (List (List Int))) (p4 : (List Bool)) (p5 : Int) (p6 : Int) (p7 : Int) (p8 : Int) (p9 : (List Int)) (p10 : (List Int)) (p11 : (List (Int × Int))) (p12 : (List (List Int))) (p13 : (List Bool)) (p14 : (List (List Int))) (p15 : (List Bool)) : Option (Int × (Int × ((List (List Int)) × ((List Bool) × Unit)))) := Go.Proofs.R.loopAt Go.Proofs.C06.ctx (Go.Proofs.R.Einf Go.Proofs.C06.ctx) 52 9 (.mk [(1, (.one (.ref 7 0))), (2, (.one (.ref 15 0))), (3, (.one (.ref 23 0))), (4, (.one (.row 31))), (5, (.one (.row 39))), (6, (.one (.mp 47))), (7, (.one (.v (.int .i64) p0)))] [(7, (.box 29 [(.v (.int .i64) p1), (.v (.int .i64) p2), (.v (.sl (.sl (.int .i64))) p3), (.v (.sl .bool) p4)])), (15, (.box 29 [(.v (.int .i64) p5), (.v (.int .i64) p6), (.row 55), (.row 63)])), (23, (.box 29 [(.v (.int .i64) p7), (.v (.int .i64) p8), (.row 71), (.row 79)])), (31, (.row 3 (.int .i64) p9 false)), (39, (.row 3 (.int .i64) p10 false)), (47, (.mp 3 3 (.int .i64) (.int .i64) p11)), (55, (.row 40 (.sl (.int .i64)) p12 false)), (63, (.row 4 .bool p13 false)), (71, (.row 40 (.sl (.int .i64)) p14 false)), (79, (.row 4 .bool p15 false))])
noncomputable def ancepsref06_Equal.f (p0 : (List Int)) (p1 : (List Int)) : Option (Bool × Unit) := (Go.Proofs.R.Einf Go.Proofs.C06.ctx).call 47 [(.one (.v (.sl (.int .i64)) p0)), (.one (.v (.sl (.int .i64)) p1))]
noncomputable def ancepsref06_SameDFA.l9 (p0 : Int) (p1 : Int) (p2 : Int) (p3 : (List (List Int))) (p4 : (List Bool)) (p5 : Int) (p6 : Int) (p7 : (List (List Int))) (p8 : (List Bool)) : Option (Bool × Unit) := Go.Proofs.R.loopAt Go.Proofs.C06.ctx (Go.Proofs.R.Einf Go.Proofs.C06.ctx) 14 9 (.mk [(2, (.one (.ref 7 0))), (3, (.one (.ref 15 0))), (6, (.one (.v (.int .i64) p0)))] [(7, (.box 29 [(.v (.int .i64) p1), (.v (.int .i64) p2), (.v (.sl (.sl (.int .i64))) p3), (.v (.sl .bool) p4)])), (15, (.box 29 [(.v (.int .i64) p5), (.v (.int .i64) p6), (.v (.sl (.sl (.int .i64))) p7), (.v (.sl .bool) p8)]))])
noncomputable def automaton_visits.l4 (p0 : Int) (p1 : Int) (p2 : Int) (p3 : (List (List Int))) (p4 : (List Bool)) (p5 : Int) (p6 : Int) (p7 : (List (List Int))) (p8 : (List Bool)) (p9 : (List ((Int × Int) × (Int × Int)))) (p10 : (List ((Int × Int) × Bool))) : Option ((List ((Int × Int) × (Int × Int))) × Unit) := Go.Proofs.R.loopAt Go.Proofs.C06.ctx (Go.Proofs.R.Einf Go.Proofs.C06.ctx) 43 4 (.mk [(2, (.one (.ref 7 0))), (3, (.one (.ref 15 0))), (5, (.one (.row 23))), (6, (.one (.mp 31))), (7, (.one (.v (.int .i64) p0)))] [(7, (.box 29 [(.v (.int .i64) p1), (.v (.int .i64) p2), (.v (.sl (.sl (.int .i64))) p3), (.v (.sl .bool) p4)])), (15, (.box 29 [(.v (.int .i64) p5), (.v (.int .i64) p6), (.v (.sl (.sl (.int .i64))) p7), (.v (.sl .bool) p8)])), (23, (.row 69 (.pair (.pair (.int .i64) (.int .i64)) (.pair (.int .i64) (.int .i64))) p9 false)), (31, (.mp 60 4 (.pair (.int .i64) (.int .i64)) .bool p10))])
noncomputable def automaton_Product.l15 (p0 : Int) (p1 : Int) (p2 : Int) (p3 : Int) (p4 : Int) (p5 : (List (List Int))) (p6 : (List Bool)) (p7 : Int) (p8 : Int) (p9 : (List (List Int))) (p10 : (List Bool)) (p11 : Int) (p12 : Int) (p13 : (List ((Int × Int) × Int))) (p14 : Int) (p15 : Int) (p16 : (List ((Int × Int) × (Int × Int)))) (p17 : (List (List Int))) (p18 : (List Bool)) (p19 : (List (List Int))) (p20 : (List Bool)) : Option (Int × (Int × ((List (List Int)) × ((List Bool) × (Int × Unit))))) := Go.Proofs.R.loopAt Go.Proofs.C06.ctx (Go.Proofs.R.Einf Go.Proofs.C06.ctx) 13 15 (.mk [(2, (.one (.v (.int .i64) p0))), (3, (.one (.ref 7 0))), (4, (.one (.ref 15 0))), (6, (.one (.ref 23 0))), (10, (.one (.mp 31))), (13, (.one (.ref 39 0))), (58, (.one (.row 47))), (59, (.one (.v (.int .i64) p1))), (60, (.one (.v (.int .i64) p2)))] [(7, (.box 29 [(.v (.int .i64) p3), (.v (.int .i64) p4), (.v (.sl (.sl (.int .i64))) p5), (.v (.sl .bool) p6)])), (15, (.box 29 [(.v (.int .i64) p7), (.v (.int .i64) p8), (.v (.sl (.sl (.int .i64))) p9), (.v (.sl .bool) p10)])), (23, (.box 29 [(.v (.int .i64) p11), (.v (.int .i64) p12), (.row 55), (.row 63)])), (31, (.mp 60 3 (.pair (.int .i64) (.int .i64)) (.int .i64) p13)), (39, (.box 29 [(.v (.int .i64) p14), (.v (.int .i64) p15), (.row 71), (.row 79)])), (47, (.row 69 (.pair (.pair (.int .i64) (.int .i64)) (.pair (.int .i64) (.int .i64))) p16 false)), (55, (.row 40 (.sl (.int .i64)) p17 false)), (63, (.row 4 .bool p18 false)), (71, (.row 40 (.sl (.int .i64)) p19 false)), (79, (.row 4 .bool p20 false))])
noncomputable def ancepsref06_walk.l4 (p0 : Int) (p1 : Int) (p2 : Int) (p3 : (List (List Int))) (p4 : (List Bool)) (p5 : Int) (p6 : Int) (p7 : (List (List Int))) (p8 : (List Bool)) (p9 : (List ((Int × Int) × (Int × Int)))) (p10 : (List ((Int × Int) × Bool))) : Option ((List ((Int × Int) × (Int × Int))) × Unit) := Go.Proofs.R.loopAt Go.Proofs.C06.ctx (Go.Proofs.R.Einf Go.Proofs.C06.ctx) 54 4 (.mk [(2, (.one (.ref 7 0))), (3, (.one (.ref 15 0))), (5, (.one (.row 23))), (6, (.one (.mp 31))), (7, (.one (.v (.int .i64) p0)))] [(7, (.box 29 [(.v (.int .i64) p1), (.v (.int .i64) p2), (.v (.sl (.sl (.int .i64))) p3), (.v (.sl .bool) p4)])), (15, (.box 29 [(.v (.int .i64) p5), (.v (.int .i64) p6), (.v (.sl (.sl (.int .i64))) p7), (.v (.sl .bool) p8)])), (23, (.row 81 (.pair (.pair (.int .i64) (.int .i64)) (.pair (.int .i64) (.int .i64))) p9 false)), (31, (.mp 60 4 (.pair (.int .i64) (.int .i64)) .bool p10))])
noncomputable def ancepsref06_Product.l14 (p0 : Int) (p1 : Int) (p2 : Int) (p3 : Int) (p4 : (List (List Int))) (p5 : (List Bool)) (p6 : Int) (p7 : Int) (p8 : (List (List Int))) (p9 : (List Bool)) (p10 : Int) (p11 : Int) (p12 : (List ((Int × Int) × (Int × Int)))) (p13 : (List ((Int × Int) × Int))) (p14 : Int) (p15 : Int) (p16 : (List (List Int))) (p17 : (List Bool)) (p18 : (List (List Int))) (p19 : (List Bool)) : Option (Int × (Int × ((List (List Int)) × ((List Bool) × (Int × Unit))))) := Go.Proofs.R.loopAt Go.Proofs.C06.ctx (Go.Proofs.R.Einf Go.Proofs.C06.ctx) 28 14 (.mk [(2, (.one (.v (.int .i64) p0))), (3, (.one (.ref 7 0))), (4, (.one (.ref 15 0))), (6, (.one (.ref 23 0))), (9, (.one (.row 31))), (10, (.one (.mp 39))), (12, (.one (.ref 47 0))), (13, (.one (.v (.int .i64) p1)))] [(7, (.box 29 [(.v (.int .i64) p2), (.v (.int .i64) p3), (.v (.sl (.sl (.int .i64))) p4), (.v (.sl .bool) p5)])), (15, (.box 29 [(.v (.int .i64) p6), (.v (.int .i64) p7), (.v (.sl (.sl (.int .i64))) p8), (.v (.sl .bool) p9)])), (23, (.box 29 [(.v (.int .i64) p10), (.v (.int .i64) p11), (.row 55), (.row 63)])), (31, (.row 81 (.pair (.pair (.int .i64) (.int .i64)) (.pair (.int .i64) (.int .i64))) p12 false)), (39, (.mp 60 3 (.pair (.int .i64) (.int .i64)) (.int .i64) p13)), (47, (.box 29 [(.v (.int .i64) p14), (.v (.int .i64) p15), (.row 71), (.row 79)])), (55, (.row 40 (.sl (.int .i64)) p16 false)), (63, (.row 4 .bool p17 false)), (71, (.row 40 (.sl (.int .i64)) p18 false)), (79, (.row 4 .bool p19 false))])
noncomputable def automaton_visit.f (p0 : (List ((Int × Int) × (Int × Int)))) (p1 : Int) (p2 : Int) (p3 : (List (List Int))) (p4 : (List Bool)) (p5 : Int) (p6 : Int) (p7 : (List (List Int))) (p8 : (List Bool)) : Option (Int × Unit) := (Go.Proofs.R.Einf Go.Proofs.C06.ctx).call 69 [(.one (.v (.sl (.pair (.pair (.int .i64) (.int .i64)) (.pair (.int .i64) (.int .i64)))) p0)), (.one (.clo 70 [(.pref [(.v (.int .i64) p1), (.v (.int .i64) p2), (.v (.sl (.sl (.int .i64))) p3), (.v (.sl .bool) p4)] 0), (.pref [(.v (.int .i64) p5), (.v (.int .i64) p6), (.v (.sl (.sl (.int .i64))) p7), (.v (.sl .bool) p8)] 0)]))]
noncomputable def automaton_word.l2 (p0 : (List ((Int × Int) × (Int × Int)))) (p1 : Int) (p2 : (List Int)) : Option ((List Int) × Unit) := Go.Proofs.R.loopAt Go.Proofs.C06.ctx (Go.Proofs.R.Einf Go.Proofs.C06.ctx) 59 2 (.mk [(0, (.one (.v (.sl (.pair (.pair (.int .i64) (.int .i64)) (.pair (.int .i64) (.int .i64)))) p0))), (1, (.one (.v (.int .i64) p1))), (5, (.one (.row 7)))] [(7, (.row 3 (.int .i64) p2 false))])
noncomputable def ancepsref06_accepting.f (p0 : Int) (p1 : Int) (p2 : (List (List Int))) (p3 : (List Bool)) (p4 : Int) : Option (Bool × Unit) := (Go.Proofs.R.Einf Go.Proofs.C06.ctx).call 56 [(.agg [(.v (.int .i64) p0), (.v (.int .i64) p1), (.v (.sl (.sl (.int .i64))) p2), (.v (.sl .bool) p3)]), (.one (.v (.int .i64) p4))]
noncomputable def ancepsref06_Difference.l11 (p0 : Int) (p1 : (List ((Int × Int) × (Int × Int)))) (p2 : (List Int)) : Option ((List Int) × (Int × Unit)) := Go.Proofs.R.loopAt Go.Proofs.C06.ctx (Go.Proofs.R.Einf Go.Proofs.C06.ctx) 35 11 (.mk [(7, (.one (.row 7))), (9, (.one (.row 15))), (10, (.one (.v (.int .i64) p0)))] [(7, (.row 81 (.pair (.pair (.int .i64) (.int .i64)) (.pair (.int .i64) (.int .i64))) p1 false)), (15, (.row 3 (.int .i64) p2 false))])
noncomputable def automaton_Count.l16 (p0 : Int) (p1 : Int) (p2 : Int) (p3 : Int) (p4 : (List (List Int))) (p5 : (List Bool)) (p6 : (List Int)) : Option (Int × (Int × Unit)) := Go.Proofs.R.loopAt Go.Proofs.C06.ctx (Go.Proofs.R.Einf Go.Proofs.C06.ctx) 16 16 (.mk [(2, (.one (.ref 7 0))), (7, (.one (.row 15))), (46, (.one (.v (.int .i64) p0))), (47, (.one (.v (.int .i64) p1)))] [(7, (.box 29 [(.v (.int .i64) p2), (.v (.int .i64) p3), (.v (.sl (.sl (.int .i64))) p4), (.v (.sl .bool) p5)])), (15, (.row 73 (.int .u64) p6 false))])
noncomputable def slices_IndexFunc_int_int.f (p0 : (List Int)) (p1 : Int) : Option (Int × Unit) := (Go.Proofs.R.Einf Go.Proofs.C06.ctx).call 67 [(.one (.v (.sl (.int .i64)) p0)), (.one (.clo 49 [(.pref [(.v (.int .i64) p1)] 0)]))]
noncomputable def ancepsref06_step.f (p0 : Int) (p1 : Int) (p2 : (List (List Int))) (p3 : (List Bool)) (p4 : Int) (p5 : Int) : Option (Int × Unit) := (Go.Proofs.R.Einf Go.Proofs.C06.ctx).call 55 [(.agg [(.v (.int .i64) p0), (.v (.int .i64) p1), (.v (.sl (.sl (.int .i64))) p2), (.v (.sl .bool) p3)]), (.one (.v (.int .i64) p4)), (.one (.v (.int .i64) p5))]
noncomputable def automaton_useful.f (p0 : Int) (p1 : Int) (p2 : (List (List Int))) (p3 : (List Bool)) : Option ((List Bool) × Unit) := (Go.Proofs.R.Einf Go.Proofs.C06.ctx).call 76 [(.agg [(.v (.int .i64) p0), (.v (.int .i64) p1), (.v (.sl (.sl (.int .i64))) p2), (.v (.sl .bool) p3)])]
noncomputable def automaton_classes.l4 (p0 : Int) (p1 : Int) (p2 : Int) (p3 : Int) (p4 : (List (List Int))) (p5 : (List Bool)) (p6 : (List Bool)) (p7 : (List Int)) : Option ((List Int) × Unit) := Go.Proofs.R.loopAt Go.Proofs.C06.ctx (Go.Proofs.R.Einf Go.Proofs.C06.ctx) 66 4 (.mk [(1, (.one (.ref 7 0))), (3, (.one (.row 15))), (4, (.one (.row 23))), (21, (.one (.v (.int .i64) p0))), (22, (.one (.v (.int .i64) p1)))] [(7, (.box 29 [(.v (.int .i64) p2), (.v (.int .i64) p3), (.v (.sl (.sl (.int .i64))) p4), (.v (.sl .bool) p5)])), (15, (.row 4 .bool p6 false)), (23, (.row 3 (.int .i64) p7 false))])
noncomputable def automaton_minimal.l16 (p0 : Int) (p1 : Int) (p2 : (List Int)) (p3 : Int) (p4 : Int) (p5 : Int) (p6 : Int) (p7 : (List (List Int))) (p8 : (List Bool)) (p9 : Int) (p10 : Int) (p11 : Int) (p12 : Int) (p13 : (List Int)) (p14 : (List (Int × Int))) (p15 : (List Int)) (p16 : (List Int)) (p17 : (List (List Int))) (p18 : (List Bool)) (p19 : (List (List Int))) (p20 : (List Bool)) : Option (Int × (Int × ((List (List Int)) × ((List Bool) × Unit)))) := Go.Proofs.R.loopAt Go.Proofs.C06.ctx (Go.Proofs.R.Einf Go.Proofs.C06.ctx) 46 16 (.mk [(1, (.one (.ref 7 0))), (2, (.one (.ref 15 0))), (3, (.one (.ref 23 0))), (4, (.one (.row 31))), (5, (.one (.mp 39))), (6, (.one (.row 47))), (7, (.one (.v (.int .i64) p0))), (8, (.one (.v (.int .i64) p1))), (9, (.one (.row 55))), (58, (.one (.v (.sl (.int .i64)) p2))), (59, (.one (.v (.int .i64) p3))), (60, (.one (.v (.int .i64) p4)))] [(7, (.box 29 [(.v (.int .i64) p5), (.v (.int .i64) p6), (.v (.sl (.sl (.int .i64))) p7), (.v (.sl .bool) p8)])), (15, (.box 29 [(.v (.int .i64) p9), (.v (.int .i64) p10), (.row 63), (.row 71)])), (23, (.box 29 [(.v (.int .i64) p11), (.v (.int .i64) p12), (.row 79), (.row 87)])), (31, (.row 3 (.int .i64) p13 false)), (39, (.mp 3 3 (.int .i64) (.int .i64) p14)), (47, (.row 3 (.int .i64) p15 false)), (55, (.row 3 (.int .i64) p16 false)), (63, (.row 40 (.sl (.int .i64)) p17 false)), (71, (.row 4 .bool p18 false)), (79, (.row 40 (.sl (.int .i64)) p19 false)), (87, (.row 4 .bool p20 false))])
noncomputable def ancepsref06_Live.f (p0 : Int) (p1 : Int) (p2 : (List (List Int))) (p3 : (List Bool)) : Option ((List Bool) × Unit) := (Go.Proofs.R.Einf Go.Proofs.C06.ctx).call 77 [(.agg [(.v (.int .i64) p0), (.v (.int .i64) p1), (.v (.sl (.sl (.int .i64))) p2), (.v (.sl .bool) p3)])]
noncomputable def ancepsref06_classes.l4 (p0 : Int) (p1 : Int) (p2 : Int) (p3 : (List (List Int))) (p4 : (List Bool)) (p5 : (List Bool)) (p6 : (List Int)) : Option ((List Int) × Unit) := Go.Proofs.R.loopAt Go.Proofs.C06.ctx (Go.Proofs.R.Einf Go.Proofs.C06.ctx) 68 4 (.mk [(1, (.one (.ref 7 0))), (3, (.one (.row 15))), (4, (.one (.row 23))), (5, (.one (.v (.int .i64) p0)))] [(7, (.box 29 [(.v (.int .i64) p1), (.v (.int .i64) p2), (.v (.sl (.sl (.int .i64))) p3), (.v (.sl .bool) p4)])), (15, (.row 4 .bool p5 false)), (23, (.row 3 (.int .i64) p6 false))])
noncomputable def ancepsref06_minimal.l13 (p0 : Int) (p1 : Int) (p2 : Int) (p3 : Int) (p4 : (List (List Int))) (p5 : (List Bool)) (p6 : Int) (p7 : Int) (p8 : Int) (p9 : Int) (p10 : (List Int)) (p11 : (List Int)) (p12 : (List (Int × Int))) (p13 : (List Int)) (p14 : (List (List Int))) (p15 : (List Bool)) (p16 : (List (List Int))) (p17 : (List Bool)) : Option (Int × (Int × ((List (List Int)) × ((List Bool) × Unit)))) := Go.Proofs.R.loopAt Go.Proofs.C06.ctx (Go.Proofs.R.Einf Go.Proofs.C06.ctx) 52 13 (.mk [(1, (.one (.ref 7 0))), (2, (.one (.ref 15 0))), (3, (.one (.ref 23 0))), (4, (.one (.row 31))), (5, (.one (.row 39))), (6, (.one (.mp 47))), (7, (.one (.v (.int .i64) p0))), (8, (.one (.row 55))), (9, (.one (.v (.int .i64) p1)))] [(7, (.box 29 [(.v (.int .i64) p2), (.v (.int .i64) p3), (.v (.sl (.sl (.int .i64))) p4), (.v (.sl .bool) p5)])), (15, (.box 29 [(.v (.int .i64) p6), (.v (.int .i64) p7), (.row 63), (.row 71)])), (23, (.box 29 [(.v (.int .i64) p8), (.v (.int .i64) p9), (.row 79), (.row 87)])), (31, (.row 3 (.int .i64) p10 false)), (39, (.row 3 (.int .i64) p11 false)), (47, (.mp 3 3 (.int .i64) (.int .i64) p12)), (55, (.row 3 (.int .i64) p13 false)), (63, (.row 40 (.sl (.int .i64)) p14 false)), (71, (.row 4 .bool p15 false)), (79, (.row 40 (.sl (.int .i64)) p16 false)), (87, (.row 4 .bool p17 false))])
noncomputable def ancepsref06_Equal.l4 (p0 : (List Int)) (p1 : (List Int)) (p2 : Int) : Option (Bool × Unit) := Go.Proofs.R.loopAt Go.Proofs.C06.ctx (Go.Proofs.R.Einf Go.Proofs.C06.ctx) 47 4 (.mk [(0, (.one (.v (.sl (.int .i64)) p0))), (1, (.one (.v (.sl (.int .i64)) p1))), (5, (.one (.v (.int .i64) p2)))] [])
noncomputable def automaton_visits.l8 (p0 : Int) (p1 : Int) (p2 : Int) (p3 : Int) (p4 : Int) (p5 : (List (List Int))) (p6 : (List Bool)) (p7 : Int) (p8 : Int) (p9 : (List (List Int))) (p10 : (List Bool)) (p11 : (List ((Int × Int) × (Int × Int)))) (p12 : (List ((Int × Int) × Bool))) (p13 : Int) (p14 : Int) : Option ((List ((Int × Int) × (Int × Int))) × Unit) := Go.Proofs.R.loopAt Go.Proofs.C06.ctx (Go.Proofs.R.Einf Go.Proofs.C06.ctx) 43 8 (.mk [(2, (.one (.ref 7 0))), (3, (.one (.ref 15 0))), (5, (.one (.row 23))), (6, (.one (.mp 31))), (7, (.one (.v (.int .i64) p0))), (8, (.one (.ref 39 0))), (36, (.one (.v (.int .i64) p1))), (37, (.one (.v (.int .i64) p2)))] [(7, (.box 29 [(.v (.int .i64) p3), (.v (.int .i64) p4), (.v (.sl (.sl (.int .i64))) p5), (.v (.sl .bool) p6)])), (15, (.box 29 [(.v (.int .i64) p7), (.v (.int .i64) p8), (.v (.sl (.sl (.int .i64))) p9), (.v (.sl .bool) p10)])), (23, (.row 69 (.pair (.pair (.int .i64) (.int .i64)) (.pair (.int .i64) (.int .i64))) p11 false)), (31, (.mp 60 4 (.pair (.int .i64) (.int .i64)) .bool p12)), (39, (.box 60 [(.v (.int .i64) p13), (.v (.int .i64) p14)]))])
noncomputable def automaton_Product.l19 (p0 : Int) (p1 : Int) (p2 : Int) (p3 : Int) (p4 : Int) (p5 : Int) (p6 : Int) (p7 : (List (List Int))) (p8 : (List Bool)) (p9 : Int) (p10 : Int) (p11 : (List (List Int))) (p12 : (List Bool)) (p13 : Int) (p14 : Int) (p15 : (List ((Int × Int) × Int))) (p16 : Int) (p17 : Int) (p18 : Int) (p19 : Int) (p20 : Int) (p21 : Int) (p22 : (List Int)) (p23 : (List ((Int × Int) × (Int × Int)))) (p24 : (List (List Int))) (p25 : (List Bool)) (p26 : (List (List Int))) (p27 : (List Bool)) : Option (Int × (Int × ((List (List Int)) × ((List Bool) × (Int × Unit))))) := Go.Proofs.R.loopAt Go.Proofs.C06.ctx (Go.Proofs.R.Einf Go.Proofs.C06.ctx) 13 19 (.mk [(2, (.one (.v (.int .i64) p0))), (3, (.one (.ref 7 0))), (4, (.one (.ref 15 0))), (6, (.one (.ref 23 0))), (10, (.one (.mp 31))), (13, (.one (.ref 39 0))), (15, (.one (.ref 47 0))), (16, (.one (.row 55))), (58, (.one (.row 63))), (59, (.one (.v (.int .i64) p1))), (60, (.one (.v (.int .i64) p2))), (68, (.one (.v (.int .i64) p3))), (69, (.one (.v (.int .i64) p4)))] [(7, (.box 29 [(.v (.int .i64) p5), (.v (.int .i64) p6), (.v (.sl (.sl (.int .i64))) p7), (.v (.sl .bool) p8)])), (15, (.box 29 [(.v (.int .i64) p9), (.v (.int .i64) p10), (.v (.sl (.sl (.int .i64))) p11), (.v (.sl .bool) p12)])), (23, (.box 29 [(.v (.int .i64) p13), (.v (.int .i64) p14), (.row 71), (.row 79)])), (31, (.mp 60 3 (.pair (.int .i64) (.int .i64)) (.int .i64) p15)), (39, (.box 29 [(.v (.int .i64) p16), (.v (.int .i64) p17), (.row 87), (.row 95)])), (47, (.box 69 [(.v (.int .i64) p18), (.v (.int .i64) p19), (.v (.int .i64) p20), (.v (.int .i64) p21)])), (55, (.row 3 (.int .i64) p22 false)), (63, (.row 69 (.pair (.pair (.int .i64) (.int .i64)) (.pair (.int .i64) (.int .i64))) p23 false)), (71, (.row 40 (.sl (.int .i64)) p24 false)), (79, (.row 4 .bool p25 false)), (87, (.row 40 (.sl (.int .i64)) p26 false)), (95, (.row 4 .bool p27 false))])
noncomputable def ancepsref06_walk.l7 (p0 : Int) (p1 : Int) (p2 : Int) (p3 : Int) (p4 : (List (List Int))) (p5 : (List Bool)) (p6 : Int) (p7 : Int) (p8 : (List (List Int))) (p9 : (List Bool)) (p10 : (List ((Int × Int) × (Int × Int)))) (p11 : (List ((Int × Int) × Bool))) : Option ((List ((Int × Int) × (Int × Int))) × Unit) := Go.Proofs.R.loopAt Go.Proofs.C06.ctx (Go.Proofs.R.Einf Go.Proofs.C06.ctx) 54 7 (.mk [(2, (.one (.ref 7 0))), (3, (.one (.ref 15 0))), (5, (.one (.row 23))), (6, (.one (.mp 31))), (7, (.one (.v (.int .i64) p0))), (8, (.one (.v (.int .i64) p1)))] [(7, (.box 29 [(.v (.int .i64) p2), (.v (.int .i64) p3), (.v (.sl (.sl (.int .i64))) p4), (.v (.sl .bool) p5)])), (15, (.box 29 [(.v (.int .i64) p6), (.v (.int .i64) p7), (.v (.sl (.sl (.int .i64))) p8), (.v (.sl .bool) p9)])), (23, (.row 81 (.pair (.pair (.int .i64) (.int .i64)) (.pair (.int .i64) (.int .i64))) p10 false)), (31, (.mp 60 4 (.pair (.int .i64) (.int .i64)) .bool p11))])
noncomputable def ancepsref06_Product.l19 (p0 : Int) (p1 : Int) (p2 : Int) (p3 : Int) (p4 : Int) (p5 : (List (List Int))) (p6 : (List Bool)) (p7 : Int) (p8 : Int) (p9 : (List (List Int))) (p10 : (List Bool)) (p11 : Int) (p12 : Int) (p13 : (List ((Int × Int) × (Int × Int)))) (p14 : (List ((Int × Int) × Int))) (p15 : Int) (p16 : Int) (p17 : Int) (p18 : Int) (p19 : (List Int)) (p20 : (List (List Int))) (p21 : (List Bool)) (p22 : (List (List Int))) (p23 : (List Bool)) : Option (Int × (Int × ((List (List Int)) × ((List Bool) × (Int × Unit))))) := Go.Proofs.R.loopAt Go.Proofs.C06.ctx (Go.Proofs.R.Einf Go.Proofs.C06.ctx) 28 19 (.mk [(2, (.one (.v (.int .i64) p0))), (3, (.one (.ref 7 0))), (4, (.one (.ref 15 0))), (6, (.one (.ref 23 0))), (9, (.one (.row 31))), (10, (.one (.mp 39))), (12, (.one (.ref 47 0))), (13, (.one (.v (.int .i64) p1))), (14, (.one (.ref 55 0))), (15, (.one (.row 63))), (16, (.one (.v (.int .i64) p2)))] [(7, (.box 29 [(.v (.int .i64) p3), (.v (.int .i64) p4), (.v (.sl (.sl (.int .i64))) p5), (.v (.sl .bool) p6)])), (15, (.box 29 [(.v (.int .i64) p7), (.v (.int .i64) p8), (.v (.sl (.sl (.int .i64))) p9), (.v (.sl .bool) p10)])), (23, (.box 29 [(.v (.int .i64) p11), (.v (.int .i64) p12), (.row 71), (.row 79)])), (31, (.row 81 (.pair (.pair (.int .i64) (.int .i64)) (.pair (.int .i64) (.int .i64))) p13 false)), (39, (.mp 60 3 (.pair (.int .i64) (.int .i64)) (.int .i64) p14)), (47, (.box 29 [(.v (.int .i64) p15), (.v (.int .i64) p16), (.row 87), (.row 95)])), (55, (.box 60 [(.v (.int .i64) p17), (.v (.int .i64) p18)])), (63, (.row 3 (.int .i64) p19 false)), (71, (.row 40 (.sl (.int .i64)) p20 false)), (79, (.row 4 .bool p21 false)), (87, (.row 40 (.sl (.int .i64)) p22 false)), (95, (.row 4 .bool p23 false))])
noncomputable def ancepsref06_Small.f (p0 : Int) (p1 : Int) (p2 : (List (List Int))) (p3 : (List Bool)) : Option (Int × (Int × ((List (List Int)) × ((List Bool) × (Bool × Unit))))) := (Go.Proofs.R.Einf Go.Proofs.C06.ctx).call 57 [(.agg [(.v (.int .i64) p0), (.v (.int .i64) p1), (.v (.sl (.sl (.int .i64))) p2), (.v (.sl .bool) p3)])]
noncomputable def automaton_visit.l2 (p0 : (List ((Int × Int) × (Int × Int)))) (p1 : Int) (p2 : Int) (p3 : (List (List Int))) (p4 : (List Bool)) (p5 : Int) (p6 : Int) (p7 : (List (List Int))) (p8 : (List Bool)) (p9 : Int) (p10 : Int) : Option (Int × Unit) := Go.Proofs.R.loopAt Go.Proofs.C06.ctx (Go.Proofs.R.Einf Go.Proofs.C06.ctx) 69 2 (.mk [(0, (.one (.v (.sl (.pair (.pair (.int .i64) (.int .i64)) (.pair (.int .i64) (.int .i64)))) p0))), (1, (.one (.clo 70 [(.pref [(.v (.int .i64) p1), (.v (.int .i64) p2), (.v (.sl (.sl (.int .i64))) p3), (.v (.sl .bool) p4)] 0), (.pref [(.v (.int .i64) p5), (.v (.int .i64) p6), (.v (.sl (.sl (.int .i64))) p7), (.v (.sl .bool) p8)] 0)]))), (7, (.one (.v (.int .i64) p9))), (8, (.one (.v (.int .i64) p10)))] [])
noncomputable def automaton_Count.l19 (p0 : Int) (p1 : Int) (p2 : (List (List Int))) (p3 : Int) (p4 : Int) (p5 : Int) (p6 : Int) (p7 : (List (List Int))) (p8 : (List Bool)) (p9 : (List Int)) (p10 : (List Int)) : Option (Int × (Int × Unit)) := Go.Proofs.R.loopAt Go.Proofs.C06.ctx (Go.Proofs.R.Einf Go.Proofs.C06.ctx) 16 19 (.mk [(2, (.one (.ref 7 0))), (7, (.one (.row 15))), (10, (.one (.row 23))), (46, (.one (.v (.int .i64) p0))), (47, (.one (.v (.int .i64) p1))), (53, (.one (.v (.sl (.sl (.int .i64))) p2))), (54, (.one (.v (.int .i64) p3))), (55, (.one (.v (.int .i64) p4)))] [(7, (.box 29 [(.v (.int .i64) p5), (.v (.int .i64) p6), (.v (.sl (.sl (.int .i64))) p7), (.v (.sl .bool) p8)])), (15, (.row 73 (.int .u64) p9 false)), (23, (.row 73 (.int .u64) p10 false))])
noncomputable def slices_IndexFunc_int_int.l2 (p0 : (List Int)) (p1 : Int) (p2 : Int) (p3 : Int) : Option (Int × Unit) := Go.Proofs.R.loopAt Go.Proofs.C06.ctx (Go.Proofs.R.Einf Go.Proofs.C06.ctx) 67 2 (.mk [(0, (.one (.v (.sl (.int .i64)) p0))), (1, (.one (.clo 49 [(.pref [(.v (.int .i64) p1)] 0)]))), (7, (.one (.v (.int .i64) p2))), (8, (.one (.v (.int .i64) p3)))] [])
noncomputable def automaton_useful.l3 (p0 : (List (List Int))) (p1 : Int) (p2 : Int) (p3 : Int) (p4 : Int) (p5 : (List (List Int))) (p6 : (List Bool)) (p7 : (List (List Int))) : Option ((List Bool) × Unit) := Go.Proofs.R.loopAt Go.Proofs.C06.ctx (Go.Proofs.R.Einf Go.Proofs.C06.ctx) 76 3 (.mk [(1, (.one (.ref 7 0))), (3, (.one (.row 15))), (20, (.one (.v (.sl (.sl (.int .i64))) p0))), (21, (.one (.v (.int .i64) p1))), (22, (.one (.v (.int .i64) p2)))] [(7, (.box 29 [(.v (.int .i64) p3), (.v (.int .i64) p4), (.v (.sl (.sl (.int .i64))) p5), (.v (.sl .bool) p6)])), (15, (.rows 40 3 (.int .i64) p7 .full))])
noncomputable def automaton_classes.l12 (p0 : Int) (p1 : Int) (p2 : Int) (p3 : (List (List Int))) (p4 : (List Bool)) (p5 : (List Int)) : Option ((List Int) × Unit) := Go.Proofs.R.loopAt Go.Proofs.C06.ctx (Go.Proofs.R.Einf Go.Proofs.C06.ctx) 66 12 (.mk [(1, (.one (.ref 7 0))), (4, (.one (.row 15))), (6, (.one (.v (.int .i64) p0)))] [(7, (.box 29 [(.v (.int .i64) p1), (.v (.int .i64) p2), (.v (.sl (.sl (.int .i64))) p3), (.v (.sl .bool) p4)])), (15, (.row 3 (.int .i64) p5 false))])
noncomputable def ancepsref06_Live.l3 (p0 : Bool) (p1 : Int) (p2 : Int) (p3 : (List (List Int))) (p4 : (List Bool)) (p5 : (List Bool)) : Option ((List Bool) × Unit) := Go.Proofs.R.loopAt Go.Proofs.C06.ctx (Go.Proofs.R.Einf Go.Proofs.C06.ctx) 77 3 (.mk [(1, (.one (.ref 7 0))), (3, (.one (.row 15))), (4, (.one (.v .bool p0)))] [(7, (.box 29 [(.v (.int .i64) p1), (.v (.int .i64) p2), (.v (.sl (.sl (.int .i64))) p3), (.v (.sl .bool) p4)])), (15, (.row 4 .bool p5 false))])
noncomputable def ancepsref06_classes.l11 (p0 : Int) (p1 : Int) (p2 : Int) (p3 : (List (List Int))) (p4 : (List Bool)) (p5 : (List Bool)) (p6 : (List Int)) : Option ((List Int) × Unit) := Go.Proofs.R.loopAt Go.Proofs.C06.ctx (Go.Proofs.R.Einf Go.Proofs.C06.ctx) 68 11 (.mk [(1, (.one (.ref 7 0))), (3, (.one (.row 15))), (4, (.one (.row 23))), (6, (.one (.v (.int .i64) p0)))] [(7, (.box 29 [(.v (.int .i64) p1), (.v (.int .i64) p2), (.v (.sl (.sl (.int .i64))) p3), (.v (.sl .bool) p4)])), (15, (.row 4 .bool p5 false)), (23, (.row 3 (.int .i64) p6 false))])
noncomputable def automaton_differ_1.f (p0 : Int) (p1 : Int) (p2 : Int) (p3 : Int) (p4 : Int) (p5 : Int) (p6 : (List (List Int))) (p7 : (List Bool)) (p8 : Int) (p9 : Int) (p10 : (List (List Int))) (p11 : (List Bool)) : Option (Bool × Unit) := (Go.Proofs.R.Einf Go.Proofs.C06.ctx).call 70 [(.agg [(.v (.int .i64) p0), (.v (.int .i64) p1), (.v (.int .i64) p2), (.v (.int .i64) p3)]), (.one (.pref [(.v (.int .i64) p4), (.v (.int .i64) p5), (.v (.sl (.sl (.int .i64))) p6), (.v (.sl .bool) p7)] 0)), (.one (.pref [(.v (.int .i64) p8), (.v (.int .i64) p9), (.v (.sl (.sl (.int .i64))) p10), (.v (.sl .bool) p11)] 0))]
noncomputable def automaton_Count.l22 (p0 : Int) (p1 : Int) (p2 : Int) (p3 : (List (List Int))) (p4 : Int) (p5 : Int) (p6 : (List Int)) (p7 : Int) (p8 : Int) (p9 : Int) (p10 : Int) (p11 : (List (List Int))) (p12 : (List Bool)) (p13 : (List Int)) (p14 : (List Int)) : Option (Int × (Int × Unit)) := Go.Proofs.R.loopAt Go.Proofs.C06.ctx (Go.Proofs.R.Einf Go.Proofs.C06.ctx) 16 22 (.mk [(2, (.one (.ref 7 0))), (7, (.one (.row 15))), (10, (.one (.row 23))), (11, (.one (.v (.int .i64) p0))), (46, (.one (.v (.int .i64) p1))), (47, (.one (.v (.int .i64) p2))), (53, (.one (.v (.sl (.sl (.int .i64))) p3))), (54, (.one (.v (.int .i64) p4))), (55, (.one (.v (.int .i64) p5))), (60, (.one (.v (.sl (.int .i64)) p6))), (61, (.one (.v (.int .i64) p7))), (62, (.one (.v (.int .i64) p8)))] [(7, (.box 29 [(.v (.int .i64) p9), (.v (.int .i64) p10), (.v (.sl (.sl (.int .i64))) p11), (.v (.sl .bool) p12)])), (15, (.row 73 (.int .u64) p13 false)), (23, (.row 73 (.int .u64) p14 false))])
noncomputable def automaton_Valid_1.f (p0 : Int) (p1 : Int) : Option (Bool × Unit) := (Go.Proofs.R.Einf Go.Proofs.C06.ctx).call 49 [(.one (.v (.int .i64) p0)), (.one (.pref [(.v (.int .i64) p1)] 0))]
noncomputable def automaton_useful.l6 (p0 : Int) (p1 : (List (List Int))) (p2 : Int) (p3 : Int) (p4 : (List Int)) (p5 : Int) (p6 : Int) (p7 : Int) (p8 : Int) (p9 : (List (List Int))) (p10 : (List Bool)) (p11 : (List (List Int))) : Option ((List Bool) × Unit) := Go.Proofs.R.loopAt Go.Proofs.C06.ctx (Go.Proofs.R.Einf Go.Proofs.C06.ctx) 76 6 (.mk [(1, (.one (.ref 7 0))), (3, (.one (.row 15))), (4, (.one (.v (.int .i64) p0))), (20, (.one (.v (.sl (.sl (.int .i64))) p1))), (21, (.one (.v (.int .i64) p2))), (22, (.one (.v (.int .i64) p3))), (27, (.one (.v (.sl (.int .i64)) p4))), (28, (.one (.v (.int .i64) p5))), (29, (.one (.v (.int .i64) p6)))] [(7, (.box 29 [(.v (.int .i64) p7), (.v (.int .i64) p8), (.v (.sl (.sl (.int .i64))) p9), (.v (.sl .bool) p10)])), (15, (.rows 40 3 (.int .i64) p11 .full))])
noncomputable def automaton_useful.l15 (p0 : (List Bool)) (p1 : Int) (p2 : Int) (p3 : (List (List Int))) (p4 : (List Bool)) (p5 : (List Int)) : Option ((List Bool) × Unit) := Go.Proofs.R.loopAt Go.Proofs.C06.ctx (Go.Proofs.R.Einf Go.Proofs.C06.ctx) 76 15 (.mk [(3, (.one (.row 7))), (8, (.one (.row 15))), (9, (.one (.row 23))), (52, (.one (.v (.sl .bool) p0))), (53, (.one (.v (.int .i64) p1))), (54, (.one (.v (.int .i64) p2)))] [(7, (.rows 40 3 (.int .i64) p3 .full)), (15, (.row 4 .bool p4 false)), (23, (.row 3 (.int .i64) p5 false))])
noncomputable def automaton_classes.l15 (p0 : Int) (p1 : (List (List Int))) (p2 : Int) (p3 : Int) (p4 : Int) (p5 : Int) (p6 : (List (List Int))) (p7 : (List Bool)) (p8 : (List Int)) (p9 : (List ((List Int) × Int))) (p10 : (List Int)) : Option ((List Int) × Unit) := Go.Proofs.R.loopAt Go.Proofs.C06.ctx (Go.Proofs.R.Einf Go.Proofs.C06.ctx) 66 15 (.mk [(1, (.one (.ref 7 0))), (4, (.one (.row 15))), (6, (.one (.v (.int .i64) p0))), (7, (.one (.mp 23))), (8, (.one (.row 31))), (46, (.one (.v (.sl (.sl (.int .i64))) p1))), (47, (.one (.v (.int .i64) p2))), (48, (.one (.v (.int .i64) p3)))] [(7, (.box 29 [(.v (.int .i64) p4), (.v (.int .i64) p5), (.v (.sl (.sl (.int .i64))) p6), (.v (.sl .bool) p7)])), (15, (.row 3 (.int .i64) p8 false)), (23, (.mp 107 3 (.arr 9 (.int .i64)) (.int .i64) p9)), (31, (.row 3 (.int .i64) p10 false))])
noncomputable def ancepsref06_Live.l6 (p0 : Bool) (p1 : Int) (p2 : Int) (p3 : Int) (p4 : (List (List Int))) (p5 : (List Bool)) (p6 : (List Bool)) : Option ((List Bool) × Unit) := Go.Proofs.R.loopAt Go.Proofs.C06.ctx (Go.Proofs.R.Einf Go.Proofs.C06.ctx) 77 6 (.mk [(1, (.one (.ref 7 0))), (3, (.one (.row 15))), (4, (.one (.v .bool p0))), (5, (.one (.v (.int .i64) p1)))] [(7, (.box 29 [(.v (.int .i64) p2), (.v (.int .i64) p3), (.v (.sl (.sl (.int .i64))) p4), (.v (.sl .bool) p5)])), (15, (.row 4 .bool p6 false))])
noncomputable def ancepsref06_classes.l14 (p0 : Int) (p1 : Int) (p2 : Int) (p3 : Int) (p4 : (List (List Int))) (p5 : (List Bool)) (p6 : (List Bool)) (p7 : (List Int)) (p8 : (List Int)) (p9 : (List (List Int))) : Option ((List Int) × Unit) := Go.Proofs.R.loopAt Go.Proofs.C06.ctx (Go.Proofs.R.Einf Go.Proofs.C06.ctx) 68 14 (.mk [(1, (.one (.ref 7 0))), (3, (.one (.row 15))), (4, (.one (.row 23))), (6, (.one (.v (.int .i64) p0))), (7, (.one (.row 31))), (8, (.one (.row 39))), (9, (.one (.v (.int .i64) p1)))] [(7, (.box 29 [(.v (.int .i64) p2), (.v (.int .i64) p3), (.v (.sl (.sl (.int .i64))) p4), (.v (.sl .bool) p5)])), (15, (.row 4 .bool p6 false)), (23, (.row 3 (.int .i64) p7 false)), (31, (.row 3 (.int .i64) p8 false)), (39, (.row 40 (.sl (.int .i64)) p9 false))])
noncomputable def automaton_useful.l21 (p0 : (List (List Int))) (p1 : (List Bool)) (p2 : (List Int)) : Option ((List Bool) × Unit) := Go.Proofs.R.loopAt Go.Proofs.C06.ctx (Go.Proofs.R.Einf Go.Proofs.C06.ctx) 76 21 (.mk [(3, (.one (.row 7))), (8, (.one (.row 15))), (9, (.one (.row 23)))] [(7, (.rows 40 3 (.int .i64) p0 .full)), (15, (.row 4 .bool p1 false)), (23, (.row 3 (.int .i64) p2 false))])
noncomputable def automaton_classes.l20 (p0 : Int) (p1 : Int) (p2 : (List (List Int))) (p3 : Int) (p4 : Int) (p5 : (List Int)) (p6 : Int) (p7 : Int) (p8 : Int) (p9 : Int) (p10 : (List (List Int))) (p11 : (List Bool)) (p12 : (List Int)) (p13 : (List ((List Int) × Int))) (p14 : (List Int)) (p15 : (List Int)) : Option ((List Int) × Unit) := Go.Proofs.R.loopAt Go.Proofs.C06.ctx (Go.Proofs.R.Einf Go.Proofs.C06.ctx) 66 20 (.mk [(1, (.one (.ref 7 0))), (4, (.one (.row 15))), (6, (.one (.v (.int .i64) p0))), (7, (.one (.mp 23))), (8, (.one (.row 31))), (9, (.one (.v (.int .i64) p1))), (11, (.one (.ref 39 0))), (46, (.one (.v (.sl (.sl (.int .i64))) p2))), (47, (.one (.v (.int .i64) p3))), (48, (.one (.v (.int .i64) p4))), (63, (.one (.v (.sl (.int .i64)) p5))), (64, (.one (.v (.int .i64) p6))), (65, (.one (.v (.int .i64) p7)))] [(7, (.box 29 [(.v (.int .i64) p8), (.v (.int .i64) p9), (.v (.sl (.sl (.int .i64))) p10), (.v (.sl .bool) p11)])), (15, (.row 3 (.int .i64) p12 false)), (23, (.mp 107 3 (.arr 9 (.int .i64)) (.int .i64) p13)), (31, (.row 3 (.int .i64) p14 false)), (39, (.box 107 [(.v (.arr 9 (.int .i64)) p15)]))])
noncomputable def ancepsref06_Live.l9 (p0 : Bool) (p1 : Int) (p2 : Int) (p3 : Int) (p4 : Int) (p5 : (List (List Int))) (p6 : (List Bool)) (p7 : (List Bool)) : Option ((List Bool) × Unit) := Go.Proofs.R.loopAt Go.Proofs.C06.ctx (Go.Proofs.R.Einf Go.Proofs.C06.ctx) 77 9 (.mk [(1, (.one (.ref 7 0))), (3, (.one (.row 15))), (4, (.one (.v .bool p0))), (5, (.one (.v (.int .i64) p1))), (6, (.one (.v (.int .i64) p2)))] [(7, (.box 29 [(.v (.int .i64) p3), (.v (.int .i64) p4), (.v (.sl (.sl (.int .i64))) p5), (.v (.sl .bool) p6)])), (15, (.row 4 .bool p7 false))])
noncomputable def ancepsref06_classes.l19 (p0 : Int) (p1 : Int) (p2 : Int) (p3 : Int) (p4 : Int) (p5 : (List (List Int))) (p6 : (List Bool)) (p7 : (List Bool)) (p8 : (List Int)) (p9 : (List Int)) (p10 : (List (List Int))) (p11 : (List Int)) : Option ((List Int) × Unit) := Go.Proofs.R.loopAt Go.Proofs.C06.ctx (Go.Proofs.R.Einf Go.Proofs.C06.ctx) 68 19 (.mk [(1, (.one (.ref 7 0))), (3, (.one (.row 15))), (4, (.one (.row 23))), (6, (.one (.v (.int .i64) p0))), (7, (.one (.row 31))), (8, (.one (.row 39))), (9, (.one (.v (.int .i64) p1))), (10, (.one (.row 47))), (11, (.one (.v (.int .i64) p2)))] [(7, (.box 29 [(.v (.int .i64) p3), (.v (.int .i64) p4), (.v (.sl (.sl (.int .i64))) p5), (.v (.sl .bool) p6)])), (15, (.row 4 .bool p7 false)), (23, (.row 3 (.int .i64) p8 false)), (31, (.row 3 (.int .i64) p9 false)), (39, (.row 40 (.sl (.int .i64)) p10 false)), (47, (.row 3 (.int .i64) p11 false))])
noncomputable def automaton_useful.l25 (p0 : (List Int)) (p1 : Int) (p2 : Int) (p3 : (List (List Int))) (p4 : (List Bool)) (p5 : (List Int)) : Option ((List Bool) × Unit) := Go.Proofs.R.loopAt Go.Proofs.C06.ctx (Go.Proofs.R.Einf Go.Proofs.C06.ctx) 76 25 (.mk [(3, (.one (.row 7))), (8, (.one (.row 15))), (9, (.one (.row 23))), (79, (.one (.v (.sl (.int .i64)) p0))), (80, (.one (.v (.int .i64) p1))), (81, (.one (.v (.int .i64) p2)))] [(7, (.rows 40 3 (.int .i64) p3 .full)), (15, (.row 4 .bool p4 false)), (23, (.row 3 (.int .i64) p5 false))])
noncomputable def ancepsref06_index.f (p0 : (List (List Int))) (p1 : (List Int)) : Option (Int × Unit) := (Go.Proofs.R.Einf Go.Proofs.C06.ctx).call 78 [(.one (.v (.sl (.sl (.int .i64))) p0)), (.one (.v (.sl (.int .i64)) p1))]
noncomputable def ancepsref06_index.l2 (p0 : (List (List Int))) (p1 : (List Int)) (p2 : Int) : Option (Int × Unit) := Go.Proofs.R.loopAt Go.Proofs.C06.ctx (Go.Proofs.R.Einf Go.Proofs.C06.ctx) 78 2 (.mk [(0, (.one (.v (.sl (.sl (.int .i64))) p0))), (1, (.one (.v (.sl (.int .i64)) p1))), (5, (.one (.v (.int .i64) p2)))] [])

theorem ancepslaw06_AutomatonRuns.f_eq (p0 : Int) (p1 : Int) (p2 : (List (List Int))) (p3 : (List Bool)) (p4 : (List Int)) : ancepslaw06_AutomatonRuns.f p0 p1 p2 p3 p4 =
  bindD (ancepslaw06_awake.f) fun t0 =>
  ifB (!t0.1)
   (bindD (ancepslaw06_awake.f) fun t1 =>
   some (t1.1, ()))
  (bindD (ancepsref06_Few.f p0 p1 p2 p3) fun t2 =>
   ifB (!t2.1)
    (bindD (ancepslaw06_awake.f) fun t3 =>
    some (t3.1, ()))
   (ifB (decide ((((List.length p4) : Nat) : Int) > (100 : Int)))
     (bindD (ancepslaw06_awake.f) fun t4 =>
     some (t4.1, ()))
    (bindD (ancepslaw06_copied.f p0 p1 p2 p3) fun t5 =>
     bindD (automaton_Valid.f t5.1 t5.2.1 t5.2.2.1 t5.2.2.2.1) fun t6 =>
     bindD (ancepsref06_Valid.f p0 p1 p2 p3) fun t7 =>
     ifB (t6.1 == t7.1)
      (bindD (ancepslaw06_copied.f p0 p1 p2 p3) fun t8 =>
      bindD (slices_Clone_int_int.f p4) fun t9 =>
      bindD (automaton_Run.f t8.1 t8.2.1 t8.2.2.1 t8.2.2.2.1 t9.1) fun t10 =>
      bindD (ancepsref06_Run.f p0 p1 p2 p3 p4) fun t11 =>
      ifB (t10.1 == t11.1)
       (bindD (ancepslaw06_copied.f p0 p1 p2 p3) fun t12 =>
       bindD (slices_Clone_int_int.f p4) fun t13 =>
       bindD (automaton_Accepts.f t12.1 t12.2.1 t12.2.2.1 t12.2.2.2.1 t13.1) fun t14 =>
       bindD (ancepsref06_Accepts.f p0 p1 p2 p3 p4) fun t15 =>
       some ((t14.1 == t15.1), ()))
      (some (false, ())))
     (some (false, ()))))) := (Einf_call Go.Proofs.C06.ctx 4 _).trans (by kernel_rfl)
theorem ancepslaw06_AutomatonShortest.f_eq (p0 : Int) (p1 : Int) (p2 : (List (List Int))) (p3 : (List Bool)) : ancepslaw06_AutomatonShortest.f p0 p1 p2 p3 =
  bindD (ancepslaw06_awake.f) fun t16 =>
  ifB (!t16.1)
   (bindD (ancepslaw06_awake.f) fun t17 =>
   some (t17.1, ()))
  (bindD (ancepsref06_Few.f p0 p1 p2 p3) fun t18 =>
   ifB (!t18.1)
    (bindD (ancepslaw06_awake.f) fun t19 =>
    some (t19.1, ()))
   (bindD (ancepslaw06_copied.f p0 p1 p2 p3) fun t20 =>
    bindD (automaton_Shortest.f t20.1 t20.2.1 t20.2.2.1 t20.2.2.2.1) fun t21 =>
    bindD (ancepsref06_Shortest.f p0 p1 p2 p3) fun t22 =>
    ifB (t21.2.1 != t22.2.1)
     (ifB (t21.2.1 == t22.2.1)
      (bindD (slices_Equal_int_int.f t21.1 t22.1) fun t23 =>
      some (t23.1, ()))
     (some (false, ())))
    (bindD (slices_Equal_int_int.f t21.1 t22.1) fun t24 =>
     ifB (!t24.1)
      (ifB (t21.2.1 == t22.2.1)
       (bindD (slices_Equal_int_int.f t21.1 t22.1) fun t25 =>
       some (t25.1, ()))
      (some (false, ())))
     (ifB (t21.2.1 != (0 : Int))
       (ifB (t21.2.1 == t22.2.1)
        (bindD (slices_Equal_int_int.f t21.1 t22.1) fun t26 =>
        some (t26.1, ()))
       (some (false, ())))
      (bindD (automaton_Accepts.f p0 p1 p2 p3 t21.1) fun t27 =>
       ifB (!t27.1)
        (some (false, ()))
       (ancepslaw06_AutomatonShortest.l10 (0 : Int) p0 p1 p2 p3 t21.1)))))) := (Einf_call Go.Proofs.C06.ctx 7 _).trans (by kernel_rfl)
theorem ancepslaw06_AutomatonMinimal.f_eq (p0 : Int) (p1 : Int) (p2 : (List (List Int))) (p3 : (List Bool)) (p4 : (List Int)) : ancepslaw06_AutomatonMinimal.f p0 p1 p2 p3 p4 =
  bindD (ancepslaw06_awake.f) fun t28 =>
  ifB (!t28.1)
   (bindD (ancepslaw06_awake.f) fun t29 =>
   some (t29.1, ()))
  (bindD (ancepsref06_Few.f p0 p1 p2 p3) fun t30 =>
   ifB (!t30.1)
    (bindD (ancepslaw06_awake.f) fun t31 =>
    some (t31.1, ()))
   (ifB (decide ((((List.length p4) : Nat) : Int) > (100 : Int)))
     (bindD (ancepslaw06_awake.f) fun t32 =>
     some (t32.1, ()))
    (bindD (ancepslaw06_copied.f p0 p1 p2 p3) fun t33 =>
     bindD (automaton_Minimal.f t33.1 t33.2.1 t33.2.2.1 t33.2.2.2.1) fun t34 =>
     bindD (ancepsref06_Minimal.f p0 p1 p2 p3) fun t35 =>
     ifB (t34.2.2.2.2.1 != t35.2.2.2.2.1)
      (ifB (t34.2.2.2.2.1 == t35.2.2.2.2.1)
       (bindD (ancepsref06_SameDFA.f t34.1 t34.2.1 t34.2.2.1 t34.2.2.2.1 t35.1 t35.2.1 t35.2.2.1 t35.2.2.2.1) fun t36 =>
       some (t36.1, ()))
      (some (false, ())))
     (bindD (ancepsref06_SameDFA.f t34.1 t34.2.1 t34.2.2.1 t34.2.2.2.1 t35.1 t35.2.1 t35.2.2.1 t35.2.2.2.1) fun t37 =>
      ifB (!t37.1)
       (ifB (t34.2.2.2.2.1 == t35.2.2.2.2.1)
        (bindD (ancepsref06_SameDFA.f t34.1 t34.2.1 t34.2.2.1 t34.2.2.2.1 t35.1 t35.2.1 t35.2.2.1 t35.2.2.2.1) fun t38 =>
        some (t38.1, ()))
       (some (false, ())))
      (ifB (t34.2.2.2.2.1 != (0 : Int))
        (ifB (t34.2.2.2.2.1 == t35.2.2.2.2.1)
         (bindD (ancepsref06_SameDFA.f t34.1 t34.2.1 t34.2.2.1 t34.2.2.2.1 t35.1 t35.2.1 t35.2.2.1 t35.2.2.2.1) fun t39 =>
         some (t39.1, ()))
        (some (false, ())))
       (bindD (automaton_Minimal.f t34.1 t34.2.1 t34.2.2.1 t34.2.2.2.1) fun t40 =>
        ifB (t40.2.2.2.2.1 == (0 : Int))
         (bindD (ancepsref06_SameDFA.f t40.1 t40.2.1 t40.2.2.1 t40.2.2.2.1 t34.1 t34.2.1 t34.2.2.1 t34.2.2.2.1) fun t41 =>
         ifB t41.1
          (bindD (automaton_Valid.f t34.1 t34.2.1 t34.2.2.1 t34.2.2.2.1) fun t42 =>
          ifB (t42.1 == (0 : Int))
           (bindD (automaton_Accepts.f t34.1 t34.2.1 t34.2.2.1 t34.2.2.2.1 p4) fun t43 =>
           bindD (automaton_Accepts.f p0 p1 p2 p3 p4) fun t44 =>
           some ((t43.1 == t44.1), ()))
          (some (false, ())))
         (some (false, ())))
        (some (false, ())))))))) := (Einf_call Go.Proofs.C06.ctx 5 _).trans (by kernel_rfl)
theorem ancepslaw06_AutomatonProduct.f_eq (p0 : Int) (p1 : Int) (p2 : (List (List Int))) (p3 : (List Bool)) (p4 : Int) (p5 : Int) (p6 : (List (List Int))) (p7 : (List Bool)) (p8 : Int) (p9 : (List Int)) : ancepslaw06_AutomatonProduct.f p0 p1 p2 p3 p4 p5 p6 p7 p8 p9 =
  bindD (ancepslaw06_awake.f) fun t45 =>
  ifB (!t45.1)
   (bindD (ancepslaw06_awake.f) fun t46 =>
   some (t46.1, ()))
  (bindD (ancepslaw06_small.f p0 p1 p2 p3 p4 p5 p6 p7) fun t47 =>
   ifB (!t47.1)
    (bindD (ancepslaw06_awake.f) fun t48 =>
    some (t48.1, ()))
   (ifB (decide ((((List.length p9) : Nat) : Int) > (100 : Int)))
     (bindD (ancepslaw06_awake.f) fun t49 =>
     some (t49.1, ()))
    (bindD (ancepslaw06_copied.f p0 p1 p2 p3) fun t50 =>
     bindD (ancepslaw06_copied.f p4 p5 p6 p7) fun t51 =>
     bindD (automaton_Product.f t50.1 t50.2.1 t50.2.2.1 t50.2.2.2.1 t51.1 t51.2.1 t51.2.2.1 t51.2.2.2.1 p8) fun t52 =>
     bindD (ancepsref06_Product.f p0 p1 p2 p3 p4 p5 p6 p7 p8) fun t53 =>
     ifB (t52.2.2.2.2.1 != t53.2.2.2.2.1)
      (ifB (t52.2.2.2.2.1 == t53.2.2.2.2.1)
       (bindD (ancepsref06_SameDFA.f t52.1 t52.2.1 t52.2.2.1 t52.2.2.2.1 t53.1 t53.2.1 t53.2.2.1 t53.2.2.2.1) fun t54 =>
       some (t54.1, ()))
      (some (false, ())))
     (bindD (ancepsref06_SameDFA.f t52.1 t52.2.1 t52.2.2.1 t52.2.2.2.1 t53.1 t53.2.1 t53.2.2.1 t53.2.2.2.1) fun t55 =>
      ifB (!t55.1)
       (ifB (t52.2.2.2.2.1 == t53.2.2.2.2.1)
        (bindD (ancepsref06_SameDFA.f t52.1 t52.2.1 t52.2.2.1 t52.2.2.2.1 t53.1 t53.2.1 t53.2.2.1 t53.2.2.2.1) fun t56 =>
        some (t56.1, ()))
       (some (false, ())))
      (ifB (t52.2.2.2.2.1 != (0 : Int))
        (ifB (t52.2.2.2.2.1 == t53.2.2.2.2.1)
         (bindD (ancepsref06_SameDFA.f t52.1 t52.2.1 t52.2.2.1 t52.2.2.2.1 t53.1 t53.2.1 t53.2.2.1 t53.2.2.2.1) fun t57 =>
         some (t57.1, ()))
        (some (false, ())))
       (bindD (automaton_Accepts.f p0 p1 p2 p3 p9) fun t58 =>
        bindD (automaton_Accepts.f p4 p5 p6 p7 p9) fun t59 =>
        ifB t58.1
         (ifB (p8 == (2 : Int))
          (ifB t58.1
           (bindD (automaton_Accepts.f t52.1 t52.2.1 t52.2.2.1 t52.2.2.2.1 p9) fun t60 =>
           some ((t60.1 == true), ()))
          (bindD (automaton_Accepts.f t52.1 t52.2.1 t52.2.2.1 t52.2.2.2.1 p9) fun t61 =>
           some ((t61.1 == t59.1), ())))
         (ifB (p8 == (3 : Int))
           (ifB t58.1
            (bindD (automaton_Accepts.f t52.1 t52.2.1 t52.2.2.1 t52.2.2.2.1 p9) fun t62 =>
            some ((t62.1 == (!t59.1)), ()))
           (bindD (automaton_Accepts.f t52.1 t52.2.1 t52.2.2.1 t52.2.2.2.1 p9) fun t63 =>
            some ((t63.1 == false), ())))
          (bindD (automaton_Accepts.f t52.1 t52.2.1 t52.2.2.1 t52.2.2.2.1 p9) fun t64 =>
           some ((t64.1 == t59.1), ()))))
        (ifB (p8 == (2 : Int))
          (ifB t58.1
           (bindD (automaton_Accepts.f t52.1 t52.2.1 t52.2.2.1 t52.2.2.2.1 p9) fun t65 =>
           some ((t65.1 == true), ()))
          (bindD (automaton_Accepts.f t52.1 t52.2.1 t52.2.2.1 t52.2.2.2.1 p9) fun t66 =>
           some ((t66.1 == t59.1), ())))
         (ifB (p8 == (3 : Int))
           (ifB t58.1
            (bindD (automaton_Accepts.f t52.1 t52.2.1 t52.2.2.1 t52.2.2.2.1 p9) fun t67 =>
            some ((t67.1 == (!t59.1)), ()))
           (bindD (automaton_Accepts.f t52.1 t52.2.1 t52.2.2.1 t52.2.2.2.1 p9) fun t68 =>
            some ((t68.1 == false), ())))
          (bindD (automaton_Accepts.f t52.1 t52.2.1 t52.2.2.1 t52.2.2.2.1 p9) fun t69 =>
           some ((t69.1 == false), ())))))))))) := (Einf_call Go.Proofs.C06.ctx 6 _).trans (by kernel_rfl)
theorem ancepslaw06_AutomatonSame.f_eq (p0 : Int) (p1 : Int) (p2 : (List (List Int))) (p3 : (List Bool)) (p4 : Int) (p5 : Int) (p6 : (List (List Int))) (p7 : (List Bool)) : ancepslaw06_AutomatonSame.f p0 p1 p2 p3 p4 p5 p6 p7 =
  bindD (ancepslaw06_awake.f) fun t70 =>
  ifB (!t70.1)
   (bindD (ancepslaw06_awake.f) fun t71 =>
   some (t71.1, ()))
  (bindD (ancepslaw06_small.f p0 p1 p2 p3 p4 p5 p6 p7) fun t72 =>
   ifB (!t72.1)
    (bindD (ancepslaw06_awake.f) fun t73 =>
    some (t73.1, ()))
   (bindD (ancepslaw06_copied.f p0 p1 p2 p3) fun t74 =>
    bindD (ancepslaw06_copied.f p4 p5 p6 p7) fun t75 =>
    bindD (automaton_Same.f t74.1 t74.2.1 t74.2.2.1 t74.2.2.2.1 t75.1 t75.2.1 t75.2.2.1 t75.2.2.2.1) fun t76 =>
    bindD (ancepsref06_Same.f p0 p1 p2 p3 p4 p5 p6 p7) fun t77 =>
    bindD (ancepslaw06_copied.f p0 p1 p2 p3) fun t78 =>
    bindD (ancepslaw06_copied.f p4 p5 p6 p7) fun t79 =>
    bindD (automaton_Difference.f t78.1 t78.2.1 t78.2.2.1 t78.2.2.2.1 t79.1 t79.2.1 t79.2.2.1 t79.2.2.2.1) fun t80 =>
    bindD (ancepsref06_Difference.f p0 p1 p2 p3 p4 p5 p6 p7) fun t81 =>
    ifB (!(t76.1 == t77.1))
     (some (false, ()))
    (ifB (t76.2.1 != t77.2.1)
      (some (false, ()))
     (ifB (t80.2.1 != t81.2.1)
       (some (false, ()))
      (bindD (slices_Equal_int_int.f t80.1 t81.1) fun t82 =>
       ifB (!t82.1)
        (some (false, ()))
       (ifB (t80.2.1 != (0 : Int))
         (some (true, ()))
        (ifB (!t76.1)
          (bindD (automaton_Accepts.f p0 p1 p2 p3 t80.1) fun t83 =>
          bindD (automaton_Accepts.f p4 p5 p6 p7 t80.1) fun t84 =>
          some ((!(t83.1 == t84.1)), ()))
         (some (false, ()))))))))) := (Einf_call Go.Proofs.C06.ctx 8 _).trans (by kernel_rfl)
theorem ancepslaw06_awake.f_eq : ancepslaw06_awake.f =
  bindD (automaton_Minimal.f (2 : Int) (0 : Int) (((1 : Int) :: ((-(1 : Int)) :: ([] : (List Int)))) :: (((2 : Int) :: ((0 : Int) :: ([] : (List Int)))) :: (((-(1 : Int)) :: ((-(1 : Int)) :: ([] : (List Int)))) :: ([] : (List (List Int)))))) (false :: (true :: (false :: ([] : (List Bool)))))) fun t85 =>
  bindD (automaton_Shortest.f (2 : Int) (0 : Int) (((1 : Int) :: ((-(1 : Int)) :: ([] : (List Int)))) :: (((-(1 : Int)) :: ((0 : Int) :: ([] : (List Int)))) :: ([] : (List (List Int))))) (false :: (true :: ([] : (List Bool))))) fun t86 =>
  bindD (automaton_Count.f (2 : Int) (0 : Int) (((1 : Int) :: ((-(1 : Int)) :: ([] : (List Int)))) :: (((-(1 : Int)) :: ((0 : Int) :: ([] : (List Int)))) :: ([] : (List (List Int))))) (false :: (true :: ([] : (List Bool)))) (3 : Int)) fun t87 =>
  bindD (automaton_Count.f (2 : Int) (0 : Int) (((1 : Int) :: ((-(1 : Int)) :: ([] : (List Int)))) :: (((-(1 : Int)) :: ((0 : Int) :: ([] : (List Int)))) :: ([] : (List (List Int))))) (false :: (true :: ([] : (List Bool)))) (2 : Int)) fun t88 =>
  bindD (automaton_Product.f (2 : Int) (0 : Int) (((1 : Int) :: ((-(1 : Int)) :: ([] : (List Int)))) :: (((-(1 : Int)) :: ((0 : Int) :: ([] : (List Int)))) :: ([] : (List (List Int))))) (false :: (true :: ([] : (List Bool)))) (2 : Int) (0 : Int) (((1 : Int) :: ((-(1 : Int)) :: ([] : (List Int)))) :: (((2 : Int) :: ((0 : Int) :: ([] : (List Int)))) :: (((-(1 : Int)) :: ((-(1 : Int)) :: ([] : (List Int)))) :: ([] : (List (List Int)))))) (false :: (true :: (false :: ([] : (List Bool))))) (3 : Int)) fun t89 =>
  bindD ((ixAt (false :: (true :: (false :: ([] : (List Bool))))) (2 : Int))) fun t90 =>
  bindD ((ixAt (false :: (true :: (false :: ([] : (List Bool))))) (2 : Int))) fun t91 =>
  bindD (automaton_Difference.f (2 : Int) (0 : Int) (((1 : Int) :: ((-(1 : Int)) :: ([] : (List Int)))) :: (((-(1 : Int)) :: ((0 : Int) :: ([] : (List Int)))) :: ([] : (List (List Int))))) (false :: (true :: ([] : (List Bool)))) (2 : Int) (0 : Int) (((1 : Int) :: ((-(1 : Int)) :: ([] : (List Int)))) :: (((2 : Int) :: ((0 : Int) :: ([] : (List Int)))) :: (((-(1 : Int)) :: ((-(1 : Int)) :: ([] : (List Int)))) :: ([] : (List (List Int)))))) (setRow (false :: (true :: (false :: ([] : (List Bool))))) (2 : Int) true)) fun t92 =>
  ifB (t85.2.2.2.2.1 == (0 : Int))
   (bindD (ancepsref06_SameDFA.f t85.1 t85.2.1 t85.2.2.1 t85.2.2.2.1 (2 : Int) (0 : Int) (((1 : Int) :: ((-(1 : Int)) :: ([] : (List Int)))) :: (((-(1 : Int)) :: ((0 : Int) :: ([] : (List Int)))) :: ([] : (List (List Int))))) (false :: (true :: ([] : (List Bool))))) fun t93 =>
   ifB t93.1
    (ifB (t86.2.1 == (0 : Int))
     (bindD (slices_Equal_int_int.f t86.1 ((0 : Int) :: ([] : (List Int)))) fun t94 =>
     ifB t94.1
      (ifB (t87.2.1 == (0 : Int))
       (ifB (t87.1 == (1 : Int))
        (ifB (t88.2.1 == (0 : Int))
         (ifB (t88.1 == (0 : Int))
          (ifB (t89.2.2.2.2.1 == (0 : Int))
           (ifB ((((List.length t89.2.2.1) : Nat) : Int) == (0 : Int))
            (ifB (t89.2.1 == (-(1 : Int)))
             (ifB (t92.2.1 == (0 : Int))
              (bindD (slices_Equal_int_int.f t92.1 ((0 : Int) :: ((0 : Int) :: ([] : (List Int))))) fun t95 =>
              some (t95.1, ()))
             (some (false, ())))
            (some (false, ())))
           (some (false, ())))
          (some (false, ())))
         (some (false, ())))
        (some (false, ())))
       (some (false, ())))
      (some (false, ())))
     (some (false, ())))
    (some (false, ())))
   (some (false, ())))
  (some (false, ())) := (Einf_call Go.Proofs.C06.ctx 12 _).trans (by kernel_rfl)
theorem ancepsref06_Few.f_eq (p0 : Int) (p1 : Int) (p2 : (List (List Int))) (p3 : (List Bool)) : ancepsref06_Few.f p0 p1 p2 p3 =
  ifB (decide ((((List.length p2) : Nat) : Int) > (410 : Int)))
   (some (false, ()))
  (ifB (decide ((((List.length p3) : Nat) : Int) > (420 : Int)))
    (some (false, ()))
   (ancepsref06_Few.l5 (0 : Int) (0 : Int) p0 p1 p2 p3)) := (Einf_call Go.Proofs.C06.ctx 17 _).trans (by kernel_rfl)
theorem ancepslaw06_copied.f_eq (p0 : Int) (p1 : Int) (p2 : (List (List Int))) (p3 : (List Bool)) : ancepslaw06_copied.f p0 p1 p2 p3 =
  bindD (slices_Clone_bool_bool.f p3) fun t96 =>
  ancepslaw06_copied.l3 p2 (((List.length p2) : Nat) : Int) (0 : Int) (0 : Int) (0 : Int) p0 p1 ([] : (List (List Int))) ([] : (List Bool)) ([] : (List (List Int))) t96.1 := (Einf_call Go.Proofs.C06.ctx 19 _).trans (by kernel_rfl)
theorem automaton_Valid.f_eq (p0 : Int) (p1 : Int) (p2 : (List (List Int))) (p3 : (List Bool)) : automaton_Valid.f p0 p1 p2 p3 =
  ifB (decide (p0 < (1 : Int)))
   (some ((1 : Int), ()))
  (ifB (decide (p0 > (8 : Int)))
    (some ((1 : Int), ()))
   (ifB (decide ((((List.length p2) : Nat) : Int) > (400 : Int)))
     (some ((1 : Int), ()))
    (ifB ((((List.length p3) : Nat) : Int) != (((List.length p2) : Nat) : Int))
      (some ((1 : Int), ()))
     (ifB (decide (p1 < (0 : Int)))
       (ifB (decide ((((List.length p2) : Nat) : Int) > (0 : Int)))
        (some ((1 : Int), ()))
       (ifB (p1 != (-(1 : Int)))
         (some ((1 : Int), ()))
        (ifB (decide (p1 ≥ (((List.length p2) : Nat) : Int)))
          (some ((1 : Int), ()))
         (automaton_Valid.l7 p2 (((List.length p2) : Nat) : Int) (0 : Int) p0 p1 p2 p3 (((List.length p2) : Nat) : Int)))))
      (ifB (decide (p1 ≥ (((List.length p2) : Nat) : Int)))
        (some ((1 : Int), ()))
       (automaton_Valid.l7 p2 (((List.length p2) : Nat) : Int) (0 : Int) p0 p1 p2 p3 (((List.length p2) : Nat) : Int))))))) := (Einf_call Go.Proofs.C06.ctx 18 _).trans (by kernel_rfl)
theorem ancepsref06_Valid.f_eq (p0 : Int) (p1 : Int) (p2 : (List (List Int))) (p3 : (List Bool)) : ancepsref06_Valid.f p0 p1 p2 p3 =
  ifB (decide (p0 < (1 : Int)))
   (some ((1 : Int), ()))
  (ifB (decide (p0 > (8 : Int)))
    (some ((1 : Int), ()))
   (ifB (decide ((((List.length p2) : Nat) : Int) > (400 : Int)))
     (some ((1 : Int), ()))
    (ifB ((((List.length p3) : Nat) : Int) != (((List.length p2) : Nat) : Int))
      (some ((1 : Int), ()))
     (ifB ((((List.length p2) : Nat) : Int) == (0 : Int))
       (ifB (p1 != (-(1 : Int)))
        (some ((1 : Int), ()))
       (ifB (decide ((((List.length p2) : Nat) : Int) > (0 : Int)))
         (ifB (decide (p1 < (0 : Int)))
          (some ((1 : Int), ()))
         (ifB (decide (p1 ≥ (((List.length p2) : Nat) : Int)))
           (some ((1 : Int), ()))
          (ancepsref06_Valid.l7 (((List.length p2) : Nat) : Int) (0 : Int) p0 p1 p2 p3)))
        (ancepsref06_Valid.l7 (((List.length p2) : Nat) : Int) (0 : Int) p0 p1 p2 p3)))
      (ifB (decide ((((List.length p2) : Nat) : Int) > (0 : Int)))
        (ifB (decide (p1 < (0 : Int)))
         (some ((1 : Int), ()))
        (ifB (decide (p1 ≥ (((List.length p2) : Nat) : Int)))
          (some ((1 : Int), ()))
         (ancepsref06_Valid.l7 (((List.length p2) : Nat) : Int) (0 : Int) p0 p1 p2 p3)))
       (ancepsref06_Valid.l7 (((List.length p2) : Nat) : Int) (0 : Int) p0 p1 p2 p3)))))) := (Einf_call Go.Proofs.C06.ctx 20 _).trans (by kernel_rfl)
theorem slices_Clone_int_int.f_eq (p0 : (List Int)) : slices_Clone_int_int.f p0 =
  bindD ((Go.Proofs.R.grow (List.length p0))) fun t97 =>
  some (p0, ()) := (Einf_call Go.Proofs.C06.ctx 22 _).trans (by kernel_rfl)
theorem automaton_Run.f_eq (p0 : Int) (p1 : Int) (p2 : (List (List Int))) (p3 : (List Bool)) (p4 : (List Int)) : automaton_Run.f p0 p1 p2 p3 p4 =
  bindD (automaton_Valid.f p0 p1 p2 p3) fun t98 =>
  ifB (t98.1 != (0 : Int))
   (some ((-(1 : Int)), ()))
  (automaton_Run.l5 p1 p4 (((List.length p4) : Nat) : Int) (0 : Int) p0 p1 p2 p3) := (Einf_call Go.Proofs.C06.ctx 21 _).trans (by kernel_rfl)
theorem ancepsref06_Run.f_eq (p0 : Int) (p1 : Int) (p2 : (List (List Int))) (p3 : (List Bool)) (p4 : (List Int)) : ancepsref06_Run.f p0 p1 p2 p3 p4 =
  bindD (ancepsref06_Valid.f p0 p1 p2 p3) fun t99 =>
  ifB (t99.1 != (0 : Int))
   (some ((-(1 : Int)), ()))
  (bindD (ancepsref06_From.f p0 p1 p2 p3 p1 p4) fun t100 =>
   some (t100.1, ())) := (Einf_call Go.Proofs.C06.ctx 23 _).trans (by kernel_rfl)
theorem automaton_Accepts.f_eq (p0 : Int) (p1 : Int) (p2 : (List (List Int))) (p3 : (List Bool)) (p4 : (List Int)) : automaton_Accepts.f p0 p1 p2 p3 p4 =
  bindD (automaton_Valid.f p0 p1 p2 p3) fun t101 =>
  ifB (t101.1 == (0 : Int))
   (bindD (automaton_Run.f p0 p1 p2 p3 p4) fun t102 =>
   bindD (automaton_ends.f p0 p1 p2 p3 t102.1) fun t103 =>
   some (t103.1, ()))
  (some (false, ())) := (Einf_call Go.Proofs.C06.ctx 24 _).trans (by kernel_rfl)
theorem ancepsref06_Accepts.f_eq (p0 : Int) (p1 : Int) (p2 : (List (List Int))) (p3 : (List Bool)) (p4 : (List Int)) : ancepsref06_Accepts.f p0 p1 p2 p3 p4 =
  bindD (ancepsref06_Run.f p0 p1 p2 p3 p4) fun t104 =>
  ifB (decide (t104.1 ≥ (0 : Int)))
   (bindD ((ixAt p3 t104.1)) fun t105 =>
   some (t105, ()))
  (some (false, ())) := (Einf_call Go.Proofs.C06.ctx 25 _).trans (by kernel_rfl)
theorem automaton_Shortest.f_eq (p0 : Int) (p1 : Int) (p2 : (List (List Int))) (p3 : (List Bool)) : automaton_Shortest.f p0 p1 p2 p3 =
  bindD (automaton_Valid.f p0 p1 p2 p3) fun t106 =>
  ifB (t106.1 != (0 : Int))
   (some (([] : (List Int)), (t106.1, ())))
  (bindD (automaton_Difference.f p0 p1 p2 p3 p0 (-(1 : Int)) ([] : (List (List Int))) ([] : (List Bool))) fun t107 =>
   some (t107.1, (t107.2.1, ()))) := (Einf_call Go.Proofs.C06.ctx 29 _).trans (by kernel_rfl)
theorem ancepsref06_Shortest.f_eq (p0 : Int) (p1 : Int) (p2 : (List (List Int))) (p3 : (List Bool)) : ancepsref06_Shortest.f p0 p1 p2 p3 =
  bindD (ancepsref06_Valid.f p0 p1 p2 p3) fun t108 =>
  ifB (t108.1 != (0 : Int))
   (some (([] : (List Int)), (t108.1, ())))
  (bindD (ancepsref06_Difference.f p0 p1 p2 p3 p0 (-(1 : Int)) ([] : (List (List Int))) ([] : (List Bool))) fun t109 =>
   some (t109.1, (t109.2.1, ()))) := (Einf_call Go.Proofs.C06.ctx 30 _).trans (by kernel_rfl)
theorem slices_Equal_int_int.f_eq (p0 : (List Int)) (p1 : (List Int)) : slices_Equal_int_int.f p0 p1 =
  ifB ((((List.length p0) : Nat) : Int) != (((List.length p1) : Nat) : Int))
   (some (false, ()))
  (slices_Equal_int_int.l4 p0 p1 (((List.length p0) : Nat) : Int) (0 : Int)) := (Einf_call Go.Proofs.C06.ctx 31 _).trans (by kernel_rfl)
theorem ancepslaw06_AutomatonShortest.l10_eq (p0 : Int) (p1 : Int) (p2 : Int) (p3 : (List (List Int))) (p4 : (List Bool)) (p5 : (List Int)) : ancepslaw06_AutomatonShortest.l10 p0 p1 p2 p3 p4 p5 =
  ifB (decide (p0 < (((List.length p5) : Nat) : Int)))
   (ifB (decide (p0 < (30 : Int)))
    (bindD (automaton_Count.f p1 p2 p3 p4 p0) fun t110 =>
    ifB (t110.2.1 != (0 : Int))
     (some (false, ()))
    (ifB (t110.1 != (0 : Int))
      (some (false, ()))
     (ancepslaw06_AutomatonShortest.l10 (Go.IntKind.wrap Go.IntKind.i64 (p0 + (1 : Int))) p1 p2 p3 p4 p5)))
   (some (true, ())))
  (some (true, ())) := (loopAt_step Go.Proofs.C06.ctx 7 10 _).trans (by kernel_rfl)
theorem automaton_Minimal.f_eq (p0 : Int) (p1 : Int) (p2 : (List (List Int))) (p3 : (List Bool)) : automaton_Minimal.f p0 p1 p2 p3 =
  bindD (automaton_Valid.f p0 p1 p2 p3) fun t111 =>
  ifB (t111.1 != (0 : Int))
   (some ((0 : Int), ((0 : Int), (([] : (List (List Int))), (([] : (List Bool)), (t111.1, ()))))))
  (bindD (automaton_minimal.f p0 p1 p2 p3) fun t112 =>
   some (t112.1, (t112.2.1, (t112.2.2.1, (t112.2.2.2.1, ((0 : Int), ())))))) := (Einf_call Go.Proofs.C06.ctx 15 _).trans (by kernel_rfl)
theorem ancepsref06_Minimal.f_eq (p0 : Int) (p1 : Int) (p2 : (List (List Int))) (p3 : (List Bool)) : ancepsref06_Minimal.f p0 p1 p2 p3 =
  bindD (ancepsref06_Valid.f p0 p1 p2 p3) fun t113 =>
  ifB (t113.1 != (0 : Int))
   (some ((0 : Int), ((0 : Int), (([] : (List (List Int))), (([] : (List Bool)), (t113.1, ()))))))
  (bindD (ancepsref06_minimal.f p0 p1 p2 p3) fun t114 =>
   some (t114.1, (t114.2.1, (t114.2.2.1, (t114.2.2.2.1, ((0 : Int), ())))))) := (Einf_call Go.Proofs.C06.ctx 26 _).trans (by kernel_rfl)
theorem ancepsref06_SameDFA.f_eq (p0 : Int) (p1 : Int) (p2 : (List (List Int))) (p3 : (List Bool)) (p4 : Int) (p5 : Int) (p6 : (List (List Int))) (p7 : (List Bool)) : ancepsref06_SameDFA.f p0 p1 p2 p3 p4 p5 p6 p7 =
  ifB (p0 != p4)
   (some (false, ()))
  (ifB (p1 != p5)
    (some (false, ()))
   (ifB ((((List.length p2) : Nat) : Int) != (((List.length p6) : Nat) : Int))
     (some (false, ()))
    (ifB ((((List.length p3) : Nat) : Int) != (((List.length p7) : Nat) : Int))
      (some (false, ()))
     (ancepsref06_SameDFA.l4 (0 : Int) p0 p1 p2 p3 p4 p5 p6 p7)))) := (Einf_call Go.Proofs.C06.ctx 14 _).trans (by kernel_rfl)
theorem ancepslaw06_small.f_eq (p0 : Int) (p1 : Int) (p2 : (List (List Int))) (p3 : (List Bool)) (p4 : Int) (p5 : Int) (p6 : (List (List Int))) (p7 : (List Bool)) : ancepslaw06_small.f p0 p1 p2 p3 p4 p5 p6 p7 =
  bindD (ancepsref06_Few.f p0 p1 p2 p3) fun t115 =>
  ifB t115.1
   (bindD (ancepsref06_Few.f p4 p5 p6 p7) fun t116 =>
   ifB t116.1
    (some ((decide ((Go.IntKind.wrap Go.IntKind.i64 ((((List.length p2) : Nat) : Int) * (((List.length p6) : Nat) : Int))) ≤ (900 : Int))), ()))
   (some (false, ())))
  (some (false, ())) := (Einf_call Go.Proofs.C06.ctx 27 _).trans (by kernel_rfl)
theorem automaton_Product.f_eq (p0 : Int) (p1 : Int) (p2 : (List (List Int))) (p3 : (List Bool)) (p4 : Int) (p5 : Int) (p6 : (List (List Int))) (p7 : (List Bool)) (p8 : Int) : automaton_Product.f p0 p1 p2 p3 p4 p5 p6 p7 p8 =
  bindD (automaton_both.f p0 p1 p2 p3 p4 p5 p6 p7) fun t117 =>
  ifB (t117.1 != (0 : Int))
   (some ((0 : Int), ((0 : Int), (([] : (List (List Int))), (([] : (List Bool)), (t117.1, ()))))))
  (ifB (p8 != (1 : Int))
    (ifB (p8 != (2 : Int))
     (ifB (p8 != (3 : Int))
      (some ((0 : Int), ((0 : Int), (([] : (List (List Int))), (([] : (List Bool)), ((6 : Int), ()))))))
     (bindD (automaton_visits.f p0 p1 p2 p3 p4 p5 p6 p7) fun t118 =>
      automaton_Product.l9 p8 (((List.length t118.1) : Nat) : Int) (0 : Int) p0 p1 p2 p3 p4 p5 p6 p7 (0 : Int) (0 : Int) t118.1 ([] : (List ((Int × Int) × Int))) ([] : (List (List Int))) ([] : (List Bool))))
    (bindD (automaton_visits.f p0 p1 p2 p3 p4 p5 p6 p7) fun t119 =>
     automaton_Product.l9 p8 (((List.length t119.1) : Nat) : Int) (0 : Int) p0 p1 p2 p3 p4 p5 p6 p7 (0 : Int) (0 : Int) t119.1 ([] : (List ((Int × Int) × Int))) ([] : (List (List Int))) ([] : (List Bool))))
   (bindD (automaton_visits.f p0 p1 p2 p3 p4 p5 p6 p7) fun t120 =>
    automaton_Product.l9 p8 (((List.length t120.1) : Nat) : Int) (0 : Int) p0 p1 p2 p3 p4 p5 p6 p7 (0 : Int) (0 : Int) t120.1 ([] : (List ((Int × Int) × Int))) ([] : (List (List Int))) ([] : (List Bool)))) := (Einf_call Go.Proofs.C06.ctx 13 _).trans (by kernel_rfl)
theorem ancepsref06_Product.f_eq (p0 : Int) (p1 : Int) (p2 : (List (List Int))) (p3 : (List Bool)) (p4 : Int) (p5 : Int) (p6 : (List (List Int))) (p7 : (List Bool)) (p8 : Int) : ancepsref06_Product.f p0 p1 p2 p3 p4 p5 p6 p7 p8 =
  bindD (ancepsref06_both.f p0 p1 p2 p3 p4 p5 p6 p7) fun t121 =>
  ifB (t121.1 != (0 : Int))
   (some ((0 : Int), ((0 : Int), (([] : (List (List Int))), (([] : (List Bool)), (t121.1, ()))))))
  (ifB (decide (p8 < (1 : Int)))
    (some ((0 : Int), ((0 : Int), (([] : (List (List Int))), (([] : (List Bool)), ((6 : Int), ()))))))
   (ifB (decide (p8 > (3 : Int)))
     (some ((0 : Int), ((0 : Int), (([] : (List (List Int))), (([] : (List Bool)), ((6 : Int), ()))))))
    (bindD (ancepsref06_walk.f p0 p1 p2 p3 p4 p5 p6 p7) fun t122 =>
     ancepsref06_Product.l9 p8 (0 : Int) p0 p1 p2 p3 p4 p5 p6 p7 (0 : Int) (0 : Int) t122.1 ([] : (List ((Int × Int) × Int))) ([] : (List (List Int))) ([] : (List Bool))))) := (Einf_call Go.Proofs.C06.ctx 28 _).trans (by kernel_rfl)
theorem automaton_Same.f_eq (p0 : Int) (p1 : Int) (p2 : (List (List Int))) (p3 : (List Bool)) (p4 : Int) (p5 : Int) (p6 : (List (List Int))) (p7 : (List Bool)) : automaton_Same.f p0 p1 p2 p3 p4 p5 p6 p7 =
  bindD (automaton_both.f p0 p1 p2 p3 p4 p5 p6 p7) fun t123 =>
  ifB (t123.1 != (0 : Int))
   (some (false, (t123.1, ())))
  (bindD (automaton_visits.f p0 p1 p2 p3 p4 p5 p6 p7) fun t124 =>
   bindD (automaton_differ.f p0 p1 p2 p3 p4 p5 p6 p7 t124.1) fun t125 =>
   some ((decide (t125.1 < (0 : Int))), ((0 : Int), ()))) := (Einf_call Go.Proofs.C06.ctx 32 _).trans (by kernel_rfl)
theorem ancepsref06_Same.f_eq (p0 : Int) (p1 : Int) (p2 : (List (List Int))) (p3 : (List Bool)) (p4 : Int) (p5 : Int) (p6 : (List (List Int))) (p7 : (List Bool)) : ancepsref06_Same.f p0 p1 p2 p3 p4 p5 p6 p7 =
  bindD (ancepsref06_both.f p0 p1 p2 p3 p4 p5 p6 p7) fun t126 =>
  ifB (t126.1 != (0 : Int))
   (some (false, (t126.1, ())))
  (bindD (ancepsref06_minimal.f p0 p1 p2 p3) fun t127 =>
   bindD (ancepsref06_minimal.f p4 p5 p6 p7) fun t128 =>
   bindD (ancepsref06_SameDFA.f t127.1 t127.2.1 t127.2.2.1 t127.2.2.2.1 t128.1 t128.2.1 t128.2.2.1 t128.2.2.2.1) fun t129 =>
   some (t129.1, ((0 : Int), ()))) := (Einf_call Go.Proofs.C06.ctx 33 _).trans (by kernel_rfl)
theorem automaton_Difference.f_eq (p0 : Int) (p1 : Int) (p2 : (List (List Int))) (p3 : (List Bool)) (p4 : Int) (p5 : Int) (p6 : (List (List Int))) (p7 : (List Bool)) : automaton_Difference.f p0 p1 p2 p3 p4 p5 p6 p7 =
  bindD (automaton_both.f p0 p1 p2 p3 p4 p5 p6 p7) fun t130 =>
  ifB (t130.1 != (0 : Int))
   (some (([] : (List Int)), (t130.1, ())))
  (bindD (automaton_visits.f p0 p1 p2 p3 p4 p5 p6 p7) fun t131 =>
   bindD (automaton_differ.f p0 p1 p2 p3 p4 p5 p6 p7 t131.1) fun t132 =>
   ifB (decide (t132.1 < (0 : Int)))
    (some (([] : (List Int)), ((10 : Int), ())))
   (bindD (automaton_word.f t131.1 t132.1) fun t133 =>
    some (t133.1, ((0 : Int), ())))) := (Einf_call Go.Proofs.C06.ctx 34 _).trans (by kernel_rfl)
theorem ancepsref06_Difference.f_eq (p0 : Int) (p1 : Int) (p2 : (List (List Int))) (p3 : (List Bool)) (p4 : Int) (p5 : Int) (p6 : (List (List Int))) (p7 : (List Bool)) : ancepsref06_Difference.f p0 p1 p2 p3 p4 p5 p6 p7 =
  bindD (ancepsref06_both.f p0 p1 p2 p3 p4 p5 p6 p7) fun t134 =>
  ifB (t134.1 != (0 : Int))
   (some (([] : (List Int)), (t134.1, ())))
  (bindD (ancepsref06_walk.f p0 p1 p2 p3 p4 p5 p6 p7) fun t135 =>
   ancepsref06_Difference.l6 (0 : Int) p0 p1 p2 p3 p4 p5 p6 p7 t135.1) := (Einf_call Go.Proofs.C06.ctx 35 _).trans (by kernel_rfl)
theorem automaton_Count.f_eq (p0 : Int) (p1 : Int) (p2 : (List (List Int))) (p3 : (List Bool)) (p4 : Int) : automaton_Count.f p0 p1 p2 p3 p4 =
  bindD (automaton_Valid.f p0 p1 p2 p3) fun t136 =>
  ifB (t136.1 != (0 : Int))
   (some ((0 : Int), (t136.1, ())))
  (ifB (decide (p4 < (0 : Int)))
    (some ((0 : Int), ((6 : Int), ())))
   (ifB (decide (p4 > (1000 : Int)))
     (some ((0 : Int), ((6 : Int), ())))
    (ifB (decide (p1 < (0 : Int)))
      (some ((0 : Int), ((0 : Int), ())))
     (bindD ((Go.Proofs.R.mkLen (((List.length p2) : Nat) : Int) (((List.length p2) : Nat) : Int))) fun t137 =>
      automaton_Count.l10 p4 p3 (((List.length p3) : Nat) : Int) (0 : Int) p0 p1 p2 p3 (List.replicate t137 (0 : Int)))))) := (Einf_call Go.Proofs.C06.ctx 16 _).trans (by kernel_rfl)
theorem ancepsref06_Few.l5_eq (p0 : Int) (p1 : Int) (p2 : Int) (p3 : Int) (p4 : (List (List Int))) (p5 : (List Bool)) : ancepsref06_Few.l5 p0 p1 p2 p3 p4 p5 =
  ifB (decide (p1 < (((List.length p4) : Nat) : Int)))
   (bindD ((ixAt p4 p1)) fun t138 =>
   ancepsref06_Few.l5 (Go.IntKind.wrap Go.IntKind.i64 (p0 + (((List.length t138) : Nat) : Int))) (Go.IntKind.wrap Go.IntKind.i64 (p1 + (1 : Int))) p2 p3 p4 p5)
  (some ((decide (p0 ≤ (1700 : Int))), ())) := (loopAt_step Go.Proofs.C06.ctx 17 5 _).trans (by kernel_rfl)
theorem slices_Clone_bool_bool.f_eq (p0 : (List Bool)) : slices_Clone_bool_bool.f p0 =
  bindD ((Go.Proofs.R.grow (List.length p0))) fun t139 =>
  some (p0, ()) := (Einf_call Go.Proofs.C06.ctx 50 _).trans (by kernel_rfl)
theorem ancepslaw06_copied.l3_eq (p0 : (List (List Int))) (p1 : Int) (p2 : Int) (p3 : Int) (p4 : Int) (p5 : Int) (p6 : Int) (p7 : (List (List Int))) (p8 : (List Bool)) (p9 : (List (List Int))) (p10 : (List Bool)) : ancepslaw06_copied.l3 p0 p1 p2 p3 p4 p5 p6 p7 p8 p9 p10 =
  ifB (decide (p2 < p1))
   (bindD ((ixAt p0 p2)) fun t140 =>
   bindD (slices_Clone_int_int.f t140) fun t141 =>
   bindD ((Go.Proofs.R.grow ((List.length p9) + (List.length (t141.1 :: ([] : (List (List Int)))))))) fun t142 =>
   ancepslaw06_copied.l3 p0 p1 (Go.IntKind.wrap Go.IntKind.i64 (p2 + (1 : Int))) p3 p4 p5 p6 p7 p8 (p9 ++ (t141.1 :: ([] : (List (List Int))))) p10)
  (some (p5, (p6, (p9, (p10, ()))))) := (loopAt_step Go.Proofs.C06.ctx 19 3 _).trans (by kernel_rfl)
theorem automaton_Valid.l7_eq (p0 : (List (List Int))) (p1 : Int) (p2 : Int) (p3 : Int) (p4 : Int) (p5 : (List (List Int))) (p6 : (List Bool)) (p7 : Int) : automaton_Valid.l7 p0 p1 p2 p3 p4 p5 p6 p7 =
  ifB (decide (p2 < p1))
   (bindD ((ixAt p0 p2)) fun t143 =>
   ifB ((((List.length t143) : Nat) : Int) != p3)
    (some ((1 : Int), ()))
   (bindD (slices_ContainsFunc_int_int.f t143 p7) fun t144 =>
    ifB t144.1
     (some ((1 : Int), ()))
    (automaton_Valid.l7 p0 p1 (Go.IntKind.wrap Go.IntKind.i64 (p2 + (1 : Int))) p3 p4 p5 p6 p7)))
  (some ((0 : Int), ())) := (loopAt_step Go.Proofs.C06.ctx 18 7 _).trans (by kernel_rfl)
theorem ancepsref06_Valid.l7_eq (p0 : Int) (p1 : Int) (p2 : Int) (p3 : Int) (p4 : (List (List Int))) (p5 : (List Bool)) : ancepsref06_Valid.l7 p0 p1 p2 p3 p4 p5 =
  ifB (decide (p1 < p0))
   (bindD ((ixAt p4 p1)) fun t145 =>
   ifB ((((List.length t145) : Nat) : Int) != p2)
    (some ((1 : Int), ()))
   (ancepsref06_Valid.l12 p0 p1 (0 : Int) p2 p3 p4 p5))
  (some ((0 : Int), ())) := (loopAt_step Go.Proofs.C06.ctx 20 7 _).trans (by kernel_rfl)
theorem automaton_Run.l5_eq (p0 : Int) (p1 : (List Int)) (p2 : Int) (p3 : Int) (p4 : Int) (p5 : Int) (p6 : (List (List Int))) (p7 : (List Bool)) : automaton_Run.l5 p0 p1 p2 p3 p4 p5 p6 p7 =
  ifB (decide (p3 < p2))
   (bindD ((ixAt p1 p3)) fun t146 =>
   bindD (automaton_next.f p4 p5 p6 p7 p0 t146) fun t147 =>
   automaton_Run.l5 t147.1 p1 p2 (Go.IntKind.wrap Go.IntKind.i64 (p3 + (1 : Int))) p4 p5 p6 p7)
  (some (p0, ())) := (loopAt_step Go.Proofs.C06.ctx 21 5 _).trans (by kernel_rfl)
theorem ancepsref06_From.f_eq (p0 : Int) (p1 : Int) (p2 : (List (List Int))) (p3 : (List Bool)) (p4 : Int) (p5 : (List Int)) : ancepsref06_From.f p0 p1 p2 p3 p4 p5 =
  ancepsref06_From.l2 p4 p5 (0 : Int) p0 p1 p2 p3 := (Einf_call Go.Proofs.C06.ctx 51 _).trans (by kernel_rfl)
theorem automaton_ends.f_eq (p0 : Int) (p1 : Int) (p2 : (List (List Int))) (p3 : (List Bool)) (p4 : Int) : automaton_ends.f p0 p1 p2 p3 p4 =
  ifB (decide (p4 ≥ (0 : Int)))
   (bindD ((ixAt p3 p4)) fun t148 =>
   some (t148, ()))
  (some (false, ())) := (Einf_call Go.Proofs.C06.ctx 45 _).trans (by kernel_rfl)
theorem slices_Equal_int_int.l4_eq (p0 : (List Int)) (p1 : (List Int)) (p2 : Int) (p3 : Int) : slices_Equal_int_int.l4 p0 p1 p2 p3 =
  ifB (decide (p3 < p2))
   (bindD ((ixAt p0 p3)) fun t149 =>
   bindD ((ixAt p1 p3)) fun t150 =>
   ifB (t149 != t150)
    (some (false, ()))
   (slices_Equal_int_int.l4 p0 p1 p2 (Go.IntKind.wrap Go.IntKind.i64 (p3 + (1 : Int)))))
  (some (true, ())) := (loopAt_step Go.Proofs.C06.ctx 31 4 _).trans (by kernel_rfl)
theorem automaton_minimal.f_eq (p0 : Int) (p1 : Int) (p2 : (List (List Int))) (p3 : (List Bool)) : automaton_minimal.f p0 p1 p2 p3 =
  ifB (decide (p1 < (0 : Int)))
   (some (p0, ((-(1 : Int)), (([] : (List (List Int))), (([] : (List Bool)), ())))))
  (bindD (automaton_classes.f p0 p1 p2 p3) fun t151 =>
   bindD ((ixAt t151.1 p1)) fun t152 =>
   bindD ((ixAt t151.1 p1)) fun t153 =>
   ifB (t153 == (0 : Int))
    (some (p0, ((-(1 : Int)), (([] : (List (List Int))), (([] : (List Bool)), ())))))
   (bindD ((ixAt t151.1 p1)) fun t154 =>
    bindD ((ixAt t151.1 p1)) fun t155 =>
    automaton_minimal.l11 (0 : Int) p0 p1 p2 p3 (0 : Int) (0 : Int) p0 (0 : Int) t151.1 (Go.Proofs.R.mput (Go.Proofs.R.Ty.int Go.IntKind.i64) t155 (0 : Int) ([] : (List (Int × Int)))) (p1 :: ([] : (List Int))) ([] : (List (List Int))) ([] : (List Bool)) ([] : (List (List Int))) ([] : (List Bool)))) := (Einf_call Go.Proofs.C06.ctx 46 _).trans (by kernel_rfl)
theorem ancepsref06_minimal.f_eq (p0 : Int) (p1 : Int) (p2 : (List (List Int))) (p3 : (List Bool)) : ancepsref06_minimal.f p0 p1 p2 p3 =
  bindD (ancepsref06_classes.f p0 p1 p2 p3) fun t156 =>
  ifB (decide (p1 < (0 : Int)))
   (some (p0, ((-(1 : Int)), (([] : (List (List Int))), (([] : (List Bool)), ())))))
  (bindD ((ixAt t156.1 p1)) fun t157 =>
   bindD ((ixAt t156.1 p1)) fun t158 =>
   ifB (t158 == (0 : Int))
    (some (p0, ((-(1 : Int)), (([] : (List (List Int))), (([] : (List Bool)), ())))))
   (bindD ((ixAt t156.1 p1)) fun t159 =>
    bindD ((ixAt t156.1 p1)) fun t160 =>
    ancepsref06_minimal.l9 (0 : Int) p0 p1 p2 p3 (0 : Int) (0 : Int) p0 (0 : Int) t156.1 (p1 :: ([] : (List Int))) (Go.Proofs.R.mput (Go.Proofs.R.Ty.int Go.IntKind.i64) t160 (0 : Int) ([] : (List (Int × Int)))) ([] : (List (List Int))) ([] : (List Bool)) ([] : (List (List Int))) ([] : (List Bool)))) := (Einf_call Go.Proofs.C06.ctx 52 _).trans (by kernel_rfl)
theorem ancepsref06_SameDFA.l4_eq (p0 : Int) (p1 : Int) (p2 : Int) (p3 : (List (List Int))) (p4 : (List Bool)) (p5 : Int) (p6 : Int) (p7 : (List (List Int))) (p8 : (List Bool)) : ancepsref06_SameDFA.l4 p0 p1 p2 p3 p4 p5 p6 p7 p8 =
  ifB (decide (p0 < (((List.length p3) : Nat) : Int)))
   (bindD ((ixAt p3 p0)) fun t161 =>
   bindD ((ixAt p7 p0)) fun t162 =>
   bindD (ancepsref06_Equal.f t161 t162) fun t163 =>
   ifB (!t163.1)
    (some (false, ()))
   (ancepsref06_SameDFA.l4 (Go.IntKind.wrap Go.IntKind.i64 (p0 + (1 : Int))) p1 p2 p3 p4 p5 p6 p7 p8))
  (ancepsref06_SameDFA.l9 (0 : Int) p1 p2 p3 p4 p5 p6 p7 p8) := (loopAt_step Go.Proofs.C06.ctx 14 4 _).trans (by kernel_rfl)
theorem automaton_both.f_eq (p0 : Int) (p1 : Int) (p2 : (List (List Int))) (p3 : (List Bool)) (p4 : Int) (p5 : Int) (p6 : (List (List Int))) (p7 : (List Bool)) : automaton_both.f p0 p1 p2 p3 p4 p5 p6 p7 =
  bindD (automaton_Valid.f p0 p1 p2 p3) fun t164 =>
  ifB (t164.1 != (0 : Int))
   (some ((1 : Int), ()))
  (bindD (automaton_Valid.f p4 p5 p6 p7) fun t165 =>
   ifB (t165.1 != (0 : Int))
    (some ((1 : Int), ()))
   (ifB (p0 != p4)
     (some ((1 : Int), ()))
    (some ((0 : Int), ())))) := (Einf_call Go.Proofs.C06.ctx 42 _).trans (by kernel_rfl)
theorem automaton_visits.f_eq (p0 : Int) (p1 : Int) (p2 : (List (List Int))) (p3 : (List Bool)) (p4 : Int) (p5 : Int) (p6 : (List (List Int))) (p7 : (List Bool)) : automaton_visits.f p0 p1 p2 p3 p4 p5 p6 p7 =
  bindD ((ixAt (((p1, p5), ((-(1 : Int)), (0 : Int))) :: ([] : (List ((Int × Int) × (Int × Int))))) (0 : Int))) fun t166 =>
  bindD ((ixAt (((p1, p5), ((-(1 : Int)), (0 : Int))) :: ([] : (List ((Int × Int) × (Int × Int))))) (0 : Int))) fun t167 =>
  automaton_visits.l4 (0 : Int) p0 p1 p2 p3 p4 p5 p6 p7 (((p1, p5), ((-(1 : Int)), (0 : Int))) :: ([] : (List ((Int × Int) × (Int × Int))))) (Go.Proofs.R.mput (Go.Proofs.R.Ty.pair (Go.Proofs.R.Ty.int Go.IntKind.i64) (Go.Proofs.R.Ty.int Go.IntKind.i64)) (t167.1.1, t167.1.2) true ([] : (List ((Int × Int) × Bool)))) := (Einf_call Go.Proofs.C06.ctx 43 _).trans (by kernel_rfl)
theorem automaton_Product.l9_eq (p0 : Int) (p1 : Int) (p2 : Int) (p3 : Int) (p4 : Int) (p5 : (List (List Int))) (p6 : (List Bool)) (p7 : Int) (p8 : Int) (p9 : (List (List Int))) (p10 : (List Bool)) (p11 : Int) (p12 : Int) (p13 : (List ((Int × Int) × (Int × Int)))) (p14 : (List ((Int × Int) × Int))) (p15 : (List (List Int))) (p16 : (List Bool)) : automaton_Product.l9 p0 p1 p2 p3 p4 p5 p6 p7 p8 p9 p10 p11 p12 p13 p14 p15 p16 =
  ifB (decide (p2 < p1))
   (bindD ((ixAt p13 p2)) fun t168 =>
   bindD ((ixAt p13 p2)) fun t169 =>
   automaton_Product.l9 p0 p1 (Go.IntKind.wrap Go.IntKind.i64 (p2 + (1 : Int))) p3 p4 p5 p6 p7 p8 p9 p10 p11 p12 p13 (Go.Proofs.R.mput (Go.Proofs.R.Ty.pair (Go.Proofs.R.Ty.int Go.IntKind.i64) (Go.Proofs.R.Ty.int Go.IntKind.i64)) (t169.1.1, t169.1.2) p2 p14) p15 p16)
  (automaton_Product.l15 p0 (((List.length p13) : Nat) : Int) (0 : Int) p3 p4 p5 p6 p7 p8 p9 p10 p11 p12 p14 p3 (0 : Int) p13 p15 p16 ([] : (List (List Int))) ([] : (List Bool))) := (loopAt_step Go.Proofs.C06.ctx 13 9 _).trans (by kernel_rfl)
theorem ancepsref06_both.f_eq (p0 : Int) (p1 : Int) (p2 : (List (List Int))) (p3 : (List Bool)) (p4 : Int) (p5 : Int) (p6 : (List (List Int))) (p7 : (List Bool)) : ancepsref06_both.f p0 p1 p2 p3 p4 p5 p6 p7 =
  bindD (ancepsref06_Valid.f p0 p1 p2 p3) fun t170 =>
  ifB (t170.1 != (0 : Int))
   (some ((1 : Int), ()))
  (bindD (ancepsref06_Valid.f p4 p5 p6 p7) fun t171 =>
   ifB (t171.1 != (0 : Int))
    (some ((1 : Int), ()))
   (ifB (p0 != p4)
     (some ((1 : Int), ()))
    (some ((0 : Int), ())))) := (Einf_call Go.Proofs.C06.ctx 53 _).trans (by kernel_rfl)
theorem ancepsref06_walk.f_eq (p0 : Int) (p1 : Int) (p2 : (List (List Int))) (p3 : (List Bool)) (p4 : Int) (p5 : Int) (p6 : (List (List Int))) (p7 : (List Bool)) : ancepsref06_walk.f p0 p1 p2 p3 p4 p5 p6 p7 =
  bindD ((ixAt (((p1, p5), ((-(1 : Int)), (0 : Int))) :: ([] : (List ((Int × Int) × (Int × Int))))) (0 : Int))) fun t172 =>
  bindD ((ixAt (((p1, p5), ((-(1 : Int)), (0 : Int))) :: ([] : (List ((Int × Int) × (Int × Int))))) (0 : Int))) fun t173 =>
  ancepsref06_walk.l4 (0 : Int) p0 p1 p2 p3 p4 p5 p6 p7 (((p1, p5), ((-(1 : Int)), (0 : Int))) :: ([] : (List ((Int × Int) × (Int × Int))))) (Go.Proofs.R.mput (Go.Proofs.R.Ty.pair (Go.Proofs.R.Ty.int Go.IntKind.i64) (Go.Proofs.R.Ty.int Go.IntKind.i64)) (t173.1.1, t173.1.2) true ([] : (List ((Int × Int) × Bool)))) := (Einf_call Go.Proofs.C06.ctx 54 _).trans (by kernel_rfl)
theorem ancepsref06_Product.l9_eq (p0 : Int) (p1 : Int) (p2 : Int) (p3 : Int) (p4 : (List (List Int))) (p5 : (List Bool)) (p6 : Int) (p7 : Int) (p8 : (List (List Int))) (p9 : (List Bool)) (p10 : Int) (p11 : Int) (p12 : (List ((Int × Int) × (Int × Int)))) (p13 : (List ((Int × Int) × Int))) (p14 : (List (List Int))) (p15 : (List Bool)) : ancepsref06_Product.l9 p0 p1 p2 p3 p4 p5 p6 p7 p8 p9 p10 p11 p12 p13 p14 p15 =
  ifB (decide (p1 < (((List.length p12) : Nat) : Int)))
   (bindD ((ixAt p12 p1)) fun t174 =>
   bindD ((ixAt p12 p1)) fun t175 =>
   ancepsref06_Product.l9 p0 (Go.IntKind.wrap Go.IntKind.i64 (p1 + (1 : Int))) p2 p3 p4 p5 p6 p7 p8 p9 p10 p11 p12 (Go.Proofs.R.mput (Go.Proofs.R.Ty.pair (Go.Proofs.R.Ty.int Go.IntKind.i64) (Go.Proofs.R.Ty.int Go.IntKind.i64)) (t175.1.1, t175.1.2) p1 p13) p14 p15)
  (ancepsref06_Product.l14 p0 (0 : Int) p2 p3 p4 p5 p6 p7 p8 p9 p10 p11 p12 p13 p2 (0 : Int) p14 p15 ([] : (List (List Int))) ([] : (List Bool))) := (loopAt_step Go.Proofs.C06.ctx 28 9 _).trans (by kernel_rfl)
theorem automaton_differ.f_eq (p0 : Int) (p1 : Int) (p2 : (List (List Int))) (p3 : (List Bool)) (p4 : Int) (p5 : Int) (p6 : (List (List Int))) (p7 : (List Bool)) (p8 : (List ((Int × Int) × (Int × Int)))) : automaton_differ.f p0 p1 p2 p3 p4 p5 p6 p7 p8 =
  bindD (automaton_visit.f p8 p0 p1 p2 p3 p4 p5 p6 p7) fun t176 =>
  some (t176.1, ()) := (Einf_call Go.Proofs.C06.ctx 58 _).trans (by kernel_rfl)
theorem automaton_word.f_eq (p0 : (List ((Int × Int) × (Int × Int)))) (p1 : Int) : automaton_word.f p0 p1 =
  automaton_word.l2 p0 p1 ([] : (List Int)) := (Einf_call Go.Proofs.C06.ctx 59 _).trans (by kernel_rfl)
theorem ancepsref06_Difference.l6_eq (p0 : Int) (p1 : Int) (p2 : Int) (p3 : (List (List Int))) (p4 : (List Bool)) (p5 : Int) (p6 : Int) (p7 : (List (List Int))) (p8 : (List Bool)) (p9 : (List ((Int × Int) × (Int × Int)))) : ancepsref06_Difference.l6 p0 p1 p2 p3 p4 p5 p6 p7 p8 p9 =
  ifB (decide (p0 < (((List.length p9) : Nat) : Int)))
   (bindD ((ixAt p9 p0)) fun t177 =>
   bindD ((ixAt p9 p0)) fun t178 =>
   bindD (ancepsref06_accepting.f p1 p2 p3 p4 t178.1.1) fun t179 =>
   bindD ((ixAt p9 p0)) fun t180 =>
   bindD ((ixAt p9 p0)) fun t181 =>
   bindD (ancepsref06_accepting.f p5 p6 p7 p8 t181.1.2) fun t182 =>
   ifB (t179.1 == t182.1)
    (ancepsref06_Difference.l6 (Go.IntKind.wrap Go.IntKind.i64 (p0 + (1 : Int))) p1 p2 p3 p4 p5 p6 p7 p8 p9)
   (ancepsref06_Difference.l11 p0 p9 ([] : (List Int))))
  (some (([] : (List Int)), ((10 : Int), ()))) := (loopAt_step Go.Proofs.C06.ctx 35 6 _).trans (by kernel_rfl)
theorem automaton_Count.l10_eq (p0 : Int) (p1 : (List Bool)) (p2 : Int) (p3 : Int) (p4 : Int) (p5 : Int) (p6 : (List (List Int))) (p7 : (List Bool)) (p8 : (List Int)) : automaton_Count.l10 p0 p1 p2 p3 p4 p5 p6 p7 p8 =
  ifB (decide (p3 < p2))
   (bindD ((ixAt p1 p3)) fun t183 =>
   ifB t183
    (bindD ((ixAt p8 p3)) fun t184 =>
    bindD ((ixAt p8 p3)) fun t185 =>
    automaton_Count.l10 p0 p1 p2 (Go.IntKind.wrap Go.IntKind.i64 (p3 + (1 : Int))) p4 p5 p6 p7 (setRow p8 p3 (1 : Int)))
   (automaton_Count.l10 p0 p1 p2 (Go.IntKind.wrap Go.IntKind.i64 (p3 + (1 : Int))) p4 p5 p6 p7 p8))
  (automaton_Count.l16 p0 (0 : Int) p4 p5 p6 p7 p8) := (loopAt_step Go.Proofs.C06.ctx 16 10 _).trans (by kernel_rfl)
theorem slices_ContainsFunc_int_int.f_eq (p0 : (List Int)) (p1 : Int) : slices_ContainsFunc_int_int.f p0 p1 =
  bindD (slices_IndexFunc_int_int.f p0 p1) fun t186 =>
  some ((decide (t186.1 ≥ (0 : Int))), ()) := (Einf_call Go.Proofs.C06.ctx 48 _).trans (by kernel_rfl)
theorem ancepsref06_Valid.l12_eq (p0 : Int) (p1 : Int) (p2 : Int) (p3 : Int) (p4 : Int) (p5 : (List (List Int))) (p6 : (List Bool)) : ancepsref06_Valid.l12 p0 p1 p2 p3 p4 p5 p6 =
  ifB (decide (p2 < p3))
   (bindD ((ixAt p5 p1)) fun t187 =>
   bindD ((ixAt t187 p2)) fun t188 =>
   ifB (decide (t188 < (-(1 : Int))))
    (some ((1 : Int), ()))
   (bindD ((ixAt p5 p1)) fun t189 =>
    bindD ((ixAt t189 p2)) fun t190 =>
    ifB (decide (t190 ≥ p0))
     (some ((1 : Int), ()))
    (ancepsref06_Valid.l12 p0 p1 (Go.IntKind.wrap Go.IntKind.i64 (p2 + (1 : Int))) p3 p4 p5 p6)))
  (ancepsref06_Valid.l7 p0 (Go.IntKind.wrap Go.IntKind.i64 (p1 + (1 : Int))) p3 p4 p5 p6) := (loopAt_step Go.Proofs.C06.ctx 20 12 _).trans (by kernel_rfl)
theorem automaton_next.f_eq (p0 : Int) (p1 : Int) (p2 : (List (List Int))) (p3 : (List Bool)) (p4 : Int) (p5 : Int) : automaton_next.f p0 p1 p2 p3 p4 p5 =
  ifB (decide (p4 < (0 : Int)))
   (some ((-(1 : Int)), ()))
  (ifB (decide (p5 < (0 : Int)))
    (some ((-(1 : Int)), ()))
   (ifB (decide (p5 ≥ p0))
     (some ((-(1 : Int)), ()))
    (bindD ((ixAt p2 p4)) fun t191 =>
     bindD ((ixAt t191 p5)) fun t192 =>
     some (t192, ())))) := (Einf_call Go.Proofs.C06.ctx 44 _).trans (by kernel_rfl)
theorem ancepsref06_From.l2_eq (p0 : Int) (p1 : (List Int)) (p2 : Int) (p3 : Int) (p4 : Int) (p5 : (List (List Int))) (p6 : (List Bool)) : ancepsref06_From.l2 p0 p1 p2 p3 p4 p5 p6 =
  ifB (decide (p2 < (((List.length p1) : Nat) : Int)))
   (bindD ((ixAt p1 p2)) fun t193 =>
   bindD (ancepsref06_step.f p3 p4 p5 p6 p0 t193) fun t194 =>
   ancepsref06_From.l2 t194.1 p1 (Go.IntKind.wrap Go.IntKind.i64 (p2 + (1 : Int))) p3 p4 p5 p6)
  (some (p0, ())) := (loopAt_step Go.Proofs.C06.ctx 51 2 _).trans (by kernel_rfl)
theorem automaton_classes.f_eq (p0 : Int) (p1 : Int) (p2 : (List (List Int))) (p3 : (List Bool)) : automaton_classes.f p0 p1 p2 p3 =
  bindD (automaton_useful.f p0 p1 p2 p3) fun t195 =>
  bindD ((Go.Proofs.R.mkLen (((List.length p2) : Nat) : Int) (((List.length p2) : Nat) : Int))) fun t196 =>
  automaton_classes.l4 (((List.length (List.replicate t196 (0 : Int))) : Nat) : Int) (0 : Int) p0 p1 p2 p3 t195.1 (List.replicate t196 (0 : Int)) := (Einf_call Go.Proofs.C06.ctx 66 _).trans (by kernel_rfl)
theorem automaton_minimal.l11_eq (p0 : Int) (p1 : Int) (p2 : Int) (p3 : (List (List Int))) (p4 : (List Bool)) (p5 : Int) (p6 : Int) (p7 : Int) (p8 : Int) (p9 : (List Int)) (p10 : (List (Int × Int))) (p11 : (List Int)) (p12 : (List (List Int))) (p13 : (List Bool)) (p14 : (List (List Int))) (p15 : (List Bool)) : automaton_minimal.l11 p0 p1 p2 p3 p4 p5 p6 p7 p8 p9 p10 p11 p12 p13 p14 p15 =
  ifB (decide (p0 < (((List.length p11) : Nat) : Int)))
   (bindD ((ixAt p11 p0)) fun t197 =>
   bindD ((ixAt p11 p0)) fun t198 =>
   bindD ((Go.Proofs.R.mkLen p1 p1)) fun t199 =>
   bindD ((ixAt p3 t198)) fun t200 =>
   automaton_minimal.l16 p0 t198 t200 (((List.length t200) : Nat) : Int) (0 : Int) p1 p2 p3 p4 p5 p6 p7 p8 p9 p10 p11 (List.replicate t199 (0 : Int)) p12 p13 p14 p15)
  (some (p7, (p8, (p14, (p15, ()))))) := (loopAt_step Go.Proofs.C06.ctx 46 11 _).trans (by kernel_rfl)
theorem ancepsref06_classes.f_eq (p0 : Int) (p1 : Int) (p2 : (List (List Int))) (p3 : (List Bool)) : ancepsref06_classes.f p0 p1 p2 p3 =
  bindD (ancepsref06_Live.f p0 p1 p2 p3) fun t201 =>
  bindD ((Go.Proofs.R.mkLen (((List.length p2) : Nat) : Int) (((List.length p2) : Nat) : Int))) fun t202 =>
  ancepsref06_classes.l4 (0 : Int) p0 p1 p2 p3 t201.1 (List.replicate t202 (0 : Int)) := (Einf_call Go.Proofs.C06.ctx 68 _).trans (by kernel_rfl)
theorem ancepsref06_minimal.l9_eq (p0 : Int) (p1 : Int) (p2 : Int) (p3 : (List (List Int))) (p4 : (List Bool)) (p5 : Int) (p6 : Int) (p7 : Int) (p8 : Int) (p9 : (List Int)) (p10 : (List Int)) (p11 : (List (Int × Int))) (p12 : (List (List Int))) (p13 : (List Bool)) (p14 : (List (List Int))) (p15 : (List Bool)) : ancepsref06_minimal.l9 p0 p1 p2 p3 p4 p5 p6 p7 p8 p9 p10 p11 p12 p13 p14 p15 =
  ifB (decide (p0 < (((List.length p10) : Nat) : Int)))
   (ancepsref06_minimal.l13 p0 (0 : Int) p1 p2 p3 p4 p5 p6 p7 p8 p9 p10 p11 ([] : (List Int)) p12 p13 p14 p15)
  (some (p7, (p8, (p14, (p15, ()))))) := (loopAt_step Go.Proofs.C06.ctx 52 9 _).trans (by kernel_rfl)
theorem ancepsref06_Equal.f_eq (p0 : (List Int)) (p1 : (List Int)) : ancepsref06_Equal.f p0 p1 =
  ifB ((((List.length p0) : Nat) : Int) != (((List.length p1) : Nat) : Int))
   (some (false, ()))
  (ancepsref06_Equal.l4 p0 p1 (0 : Int)) := (Einf_call Go.Proofs.C06.ctx 47 _).trans (by kernel_rfl)
theorem ancepsref06_SameDFA.l9_eq (p0 : Int) (p1 : Int) (p2 : Int) (p3 : (List (List Int))) (p4 : (List Bool)) (p5 : Int) (p6 : Int) (p7 : (List (List Int))) (p8 : (List Bool)) : ancepsref06_SameDFA.l9 p0 p1 p2 p3 p4 p5 p6 p7 p8 =
  ifB (decide (p0 < (((List.length p4) : Nat) : Int)))
   (bindD ((ixAt p4 p0)) fun t203 =>
   bindD ((ixAt p8 p0)) fun t204 =>
   ifB (!(t203 == t204))
    (some (false, ()))
   (ancepsref06_SameDFA.l9 (Go.IntKind.wrap Go.IntKind.i64 (p0 + (1 : Int))) p1 p2 p3 p4 p5 p6 p7 p8))
  (some (true, ())) := (loopAt_step Go.Proofs.C06.ctx 14 9 _).trans (by kernel_rfl)
theorem automaton_visits.l4_eq (p0 : Int) (p1 : Int) (p2 : Int) (p3 : (List (List Int))) (p4 : (List Bool)) (p5 : Int) (p6 : Int) (p7 : (List (List Int))) (p8 : (List Bool)) (p9 : (List ((Int × Int) × (Int × Int)))) (p10 : (List ((Int × Int) × Bool))) : automaton_visits.l4 p0 p1 p2 p3 p4 p5 p6 p7 p8 p9 p10 =
  ifB (decide (p0 < (((List.length p9) : Nat) : Int)))
   (bindD ((ixAt p9 p0)) fun t205 =>
   bindD ((ixAt p9 p0)) fun t206 =>
   automaton_visits.l8 p0 p1 (0 : Int) p1 p2 p3 p4 p5 p6 p7 p8 p9 p10 t206.1.1 t206.1.2)
  (some (p9, ())) := (loopAt_step Go.Proofs.C06.ctx 43 4 _).trans (by kernel_rfl)
theorem automaton_Product.l15_eq (p0 : Int) (p1 : Int) (p2 : Int) (p3 : Int) (p4 : Int) (p5 : (List (List Int))) (p6 : (List Bool)) (p7 : Int) (p8 : Int) (p9 : (List (List Int))) (p10 : (List Bool)) (p11 : Int) (p12 : Int) (p13 : (List ((Int × Int) × Int))) (p14 : Int) (p15 : Int) (p16 : (List ((Int × Int) × (Int × Int)))) (p17 : (List (List Int))) (p18 : (List Bool)) (p19 : (List (List Int))) (p20 : (List Bool)) : automaton_Product.l15 p0 p1 p2 p3 p4 p5 p6 p7 p8 p9 p10 p11 p12 p13 p14 p15 p16 p17 p18 p19 p20 =
  ifB (decide (p2 < p1))
   (bindD ((ixAt p16 p2)) fun t207 =>
   bindD ((ixAt p16 p2)) fun t208 =>
   bindD ((Go.Proofs.R.mkLen p3 p3)) fun t209 =>
   automaton_Product.l19 p0 p1 p2 (((List.length (List.replicate t209 (0 : Int))) : Nat) : Int) (0 : Int) p3 p4 p5 p6 p7 p8 p9 p10 p11 p12 p13 p14 p15 t208.1.1 t208.1.2 t208.2.1 t208.2.2 (List.replicate t209 (0 : Int)) p16 p17 p18 p19 p20)
  (bindD (automaton_minimal.f p14 p15 p19 p20) fun t210 =>
   ifB (decide ((((List.length t210.2.2.1) : Nat) : Int) > (400 : Int)))
    (some ((0 : Int), ((0 : Int), (([] : (List (List Int))), (([] : (List Bool)), ((3 : Int), ()))))))
   (some (t210.1, (t210.2.1, (t210.2.2.1, (t210.2.2.2.1, ((0 : Int), ()))))))) := (loopAt_step Go.Proofs.C06.ctx 13 15 _).trans (by kernel_rfl)
theorem ancepsref06_walk.l4_eq (p0 : Int) (p1 : Int) (p2 : Int) (p3 : (List (List Int))) (p4 : (List Bool)) (p5 : Int) (p6 : Int) (p7 : (List (List Int))) (p8 : (List Bool)) (p9 : (List ((Int × Int) × (Int × Int)))) (p10 : (List ((Int × Int) × Bool))) : ancepsref06_walk.l4 p0 p1 p2 p3 p4 p5 p6 p7 p8 p9 p10 =
  ifB (decide (p0 < (((List.length p9) : Nat) : Int)))
   (ancepsref06_walk.l7 p0 (0 : Int) p1 p2 p3 p4 p5 p6 p7 p8 p9 p10)
  (some (p9, ())) := (loopAt_step Go.Proofs.C06.ctx 54 4 _).trans (by kernel_rfl)
theorem ancepsref06_Product.l14_eq (p0 : Int) (p1 : Int) (p2 : Int) (p3 : Int) (p4 : (List (List Int))) (p5 : (List Bool)) (p6 : Int) (p7 : Int) (p8 : (List (List Int))) (p9 : (List Bool)) (p10 : Int) (p11 : Int) (p12 : (List ((Int × Int) × (Int × Int)))) (p13 : (List ((Int × Int) × Int))) (p14 : Int) (p15 : Int) (p16 : (List (List Int))) (p17 : (List Bool)) (p18 : (List (List Int))) (p19 : (List Bool)) : ancepsref06_Product.l14 p0 p1 p2 p3 p4 p5 p6 p7 p8 p9 p10 p11 p12 p13 p14 p15 p16 p17 p18 p19 =
  ifB (decide (p1 < (((List.length p12) : Nat) : Int)))
   (bindD ((ixAt p12 p1)) fun t211 =>
   bindD ((ixAt p12 p1)) fun t212 =>
   ancepsref06_Product.l19 p0 p1 (0 : Int) p2 p3 p4 p5 p6 p7 p8 p9 p10 p11 p12 p13 p14 p15 t212.1.1 t212.1.2 ([] : (List Int)) p16 p17 p18 p19)
  (bindD (ancepsref06_Small.f p14 p15 p18 p19) fun t213 =>
   ifB (!t213.2.2.2.2.1)
    (some ((0 : Int), ((0 : Int), (([] : (List (List Int))), (([] : (List Bool)), ((3 : Int), ()))))))
   (some (t213.1, (t213.2.1, (t213.2.2.1, (t213.2.2.2.1, ((0 : Int), ()))))))) := (loopAt_step Go.Proofs.C06.ctx 28 14 _).trans (by kernel_rfl)
theorem automaton_visit.f_eq (p0 : (List ((Int × Int) × (Int × Int)))) (p1 : Int) (p2 : Int) (p3 : (List (List Int))) (p4 : (List Bool)) (p5 : Int) (p6 : Int) (p7 : (List (List Int))) (p8 : (List Bool)) : automaton_visit.f p0 p1 p2 p3 p4 p5 p6 p7 p8 =
  automaton_visit.l2 p0 p1 p2 p3 p4 p5 p6 p7 p8 (((List.length p0) : Nat) : Int) (0 : Int) := (Einf_call Go.Proofs.C06.ctx 69 _).trans (by kernel_rfl)
theorem automaton_word.l2_eq (p0 : (List ((Int × Int) × (Int × Int)))) (p1 : Int) (p2 : (List Int)) : automaton_word.l2 p0 p1 p2 =
  bindD ((ixAt p0 p1)) fun t214 =>
  ifB (decide (t214.2.1 ≥ (0 : Int)))
   (bindD ((ixAt p0 p1)) fun t215 =>
   bindD ((Go.Proofs.R.grow ((List.length p2) + (List.length (t215.2.2 :: ([] : (List Int))))))) fun t216 =>
   bindD ((ixAt p0 p1)) fun t217 =>
   automaton_word.l2 p0 t217.2.1 (p2 ++ (t215.2.2 :: ([] : (List Int)))))
  (bindD ((Go.Proofs.R.grow (List.length p2))) fun t218 =>
   some ((Go.Proofs.R.revL p2), ())) := (loopAt_step Go.Proofs.C06.ctx 59 2 _).trans (by kernel_rfl)
theorem ancepsref06_accepting.f_eq (p0 : Int) (p1 : Int) (p2 : (List (List Int))) (p3 : (List Bool)) (p4 : Int) : ancepsref06_accepting.f p0 p1 p2 p3 p4 =
  ifB (decide (p4 ≥ (0 : Int)))
   (bindD ((ixAt p3 p4)) fun t219 =>
   some (t219, ()))
  (some (false, ())) := (Einf_call Go.Proofs.C06.ctx 56 _).trans (by kernel_rfl)
theorem ancepsref06_Difference.l11_eq (p0 : Int) (p1 : (List ((Int × Int) × (Int × Int)))) (p2 : (List Int)) : ancepsref06_Difference.l11 p0 p1 p2 =
  bindD ((ixAt p1 p0)) fun t220 =>
  bindD ((ixAt p1 p0)) fun t221 =>
  ifB (decide (t221.2.1 ≥ (0 : Int)))
   (bindD ((ixAt p1 p0)) fun t222 =>
   bindD ((ixAt p1 p0)) fun t223 =>
   bindD ((Go.Proofs.R.grow ((List.length (t223.2.2 :: ([] : (List Int)))) + (List.length p2)))) fun t224 =>
   bindD ((ixAt p1 p0)) fun t225 =>
   bindD ((ixAt p1 p0)) fun t226 =>
   ancepsref06_Difference.l11 t226.2.1 p1 ((t223.2.2 :: ([] : (List Int))) ++ p2))
  (some (p2, ((0 : Int), ()))) := (loopAt_step Go.Proofs.C06.ctx 35 11 _).trans (by kernel_rfl)
theorem automaton_Count.l16_eq (p0 : Int) (p1 : Int) (p2 : Int) (p3 : Int) (p4 : (List (List Int))) (p5 : (List Bool)) (p6 : (List Int)) : automaton_Count.l16 p0 p1 p2 p3 p4 p5 p6 =
  ifB (decide (p1 < p0))
   (bindD ((Go.Proofs.R.mkLen (((List.length p6) : Nat) : Int) (((List.length p6) : Nat) : Int))) fun t227 =>
   automaton_Count.l19 p0 p1 p4 (((List.length p4) : Nat) : Int) (0 : Int) p2 p3 p4 p5 p6 (List.replicate t227 (0 : Int)))
  (bindD ((ixAt p6 p3)) fun t228 =>
   bindD ((ixAt p6 p3)) fun t229 =>
   ifB (decide (t229 > (4611686018427387904 : Int)))
    (some ((0 : Int), ((3 : Int), ())))
   (bindD ((ixAt p6 p3)) fun t230 =>
    bindD ((ixAt p6 p3)) fun t231 =>
    some ((Go.IntKind.wrap Go.IntKind.i64 t231), ((0 : Int), ())))) := (loopAt_step Go.Proofs.C06.ctx 16 16 _).trans (by kernel_rfl)
theorem slices_IndexFunc_int_int.f_eq (p0 : (List Int)) (p1 : Int) : slices_IndexFunc_int_int.f p0 p1 =
  slices_IndexFunc_int_int.l2 p0 p1 (((List.length p0) : Nat) : Int) (0 : Int) := (Einf_call Go.Proofs.C06.ctx 67 _).trans (by kernel_rfl)
theorem ancepsref06_step.f_eq (p0 : Int) (p1 : Int) (p2 : (List (List Int))) (p3 : (List Bool)) (p4 : Int) (p5 : Int) : ancepsref06_step.f p0 p1 p2 p3 p4 p5 =
  ifB (decide (p4 < (0 : Int)))
   (some ((-(1 : Int)), ()))
  (ifB (decide (p5 < (0 : Int)))
    (some ((-(1 : Int)), ()))
   (ifB (decide (p5 ≥ p0))
     (some ((-(1 : Int)), ()))
    (bindD ((ixAt p2 p4)) fun t232 =>
     bindD ((ixAt t232 p5)) fun t233 =>
     some (t233, ())))) := (Einf_call Go.Proofs.C06.ctx 55 _).trans (by kernel_rfl)
theorem automaton_useful.f_eq (p0 : Int) (p1 : Int) (p2 : (List (List Int))) (p3 : (List Bool)) : automaton_useful.f p0 p1 p2 p3 =
  bindD ((Go.Proofs.R.mkLen (((List.length p2) : Nat) : Int) (((List.length p2) : Nat) : Int))) fun t234 =>
  automaton_useful.l3 p2 (((List.length p2) : Nat) : Int) (0 : Int) p0 p1 p2 p3 (List.replicate t234 ([] : (List Int))) := (Einf_call Go.Proofs.C06.ctx 76 _).trans (by kernel_rfl)
theorem automaton_classes.l4_eq (p0 : Int) (p1 : Int) (p2 : Int) (p3 : Int) (p4 : (List (List Int))) (p5 : (List Bool)) (p6 : (List Bool)) (p7 : (List Int)) : automaton_classes.l4 p0 p1 p2 p3 p4 p5 p6 p7 =
  ifB (decide (p1 < p0))
   (bindD ((ixAt p6 p1)) fun t235 =>
   bindD ((ixAt p6 p1)) fun t236 =>
   ifB t236
    (bindD ((ixAt p7 p1)) fun t237 =>
    bindD ((ixAt p7 p1)) fun t238 =>
    bindD ((ixAt p5 p1)) fun t239 =>
    ifB t239
     (bindD ((ixAt (setRow p7 p1 (1 : Int)) p1)) fun t240 =>
     bindD ((ixAt (setRow p7 p1 (1 : Int)) p1)) fun t241 =>
     automaton_classes.l4 p0 (Go.IntKind.wrap Go.IntKind.i64 (p1 + (1 : Int))) p2 p3 p4 p5 p6 (setRow (setRow p7 p1 (1 : Int)) p1 (2 : Int)))
    (automaton_classes.l4 p0 (Go.IntKind.wrap Go.IntKind.i64 (p1 + (1 : Int))) p2 p3 p4 p5 p6 (setRow p7 p1 (1 : Int))))
   (bindD ((ixAt p5 p1)) fun t242 =>
    ifB t242
     (bindD ((ixAt p7 p1)) fun t243 =>
     bindD ((ixAt p7 p1)) fun t244 =>
     automaton_classes.l4 p0 (Go.IntKind.wrap Go.IntKind.i64 (p1 + (1 : Int))) p2 p3 p4 p5 p6 (setRow p7 p1 (2 : Int)))
    (automaton_classes.l4 p0 (Go.IntKind.wrap Go.IntKind.i64 (p1 + (1 : Int))) p2 p3 p4 p5 p6 p7)))
  (automaton_classes.l12 (0 : Int) p2 p3 p4 p5 p7) := (loopAt_step Go.Proofs.C06.ctx 66 4 _).trans (by kernel_rfl)
theorem automaton_minimal.l16_eq (p0 : Int) (p1 : Int) (p2 : (List Int)) (p3 : Int) (p4 : Int) (p5 : Int) (p6 : Int) (p7 : (List (List Int))) (p8 : (List Bool)) (p9 : Int) (p10 : Int) (p11 : Int) (p12 : Int) (p13 : (List Int)) (p14 : (List (Int × Int))) (p15 : (List Int)) (p16 : (List Int)) (p17 : (List (List Int))) (p18 : (List Bool)) (p19 : (List (List Int))) (p20 : (List Bool)) : automaton_minimal.l16 p0 p1 p2 p3 p4 p5 p6 p7 p8 p9 p10 p11 p12 p13 p14 p15 p16 p17 p18 p19 p20 =
  ifB (decide (p4 < p3))
   (bindD ((ixAt p2 p4)) fun t245 =>
   ifB (decide (t245 < (0 : Int)))
    (bindD ((ixAt p16 p4)) fun t246 =>
    bindD ((ixAt p16 p4)) fun t247 =>
    automaton_minimal.l16 p0 p1 p2 p3 (Go.IntKind.wrap Go.IntKind.i64 (p4 + (1 : Int))) p5 p6 p7 p8 p9 p10 p11 p12 p13 p14 p15 (setRow p16 p4 (-(1 : Int))) p17 p18 p19 p20)
   (bindD ((ixAt p13 t245)) fun t248 =>
    bindD ((ixAt p13 t245)) fun t249 =>
    ifB (t249 == (0 : Int))
     (bindD ((ixAt p16 p4)) fun t250 =>
     bindD ((ixAt p16 p4)) fun t251 =>
     automaton_minimal.l16 p0 p1 p2 p3 (Go.IntKind.wrap Go.IntKind.i64 (p4 + (1 : Int))) p5 p6 p7 p8 p9 p10 p11 p12 p13 p14 p15 (setRow p16 p4 (-(1 : Int))) p17 p18 p19 p20)
    (bindD ((ixAt p13 t245)) fun t252 =>
     bindD ((ixAt p13 t245)) fun t253 =>
     ifB (!(Go.Proofs.R.mget (Go.Proofs.R.Ty.int Go.IntKind.i64) (0 : Int) t253 p14).2)
      (bindD ((ixAt p13 t245)) fun t254 =>
      bindD ((ixAt p13 t245)) fun t255 =>
      bindD ((Go.Proofs.R.grow ((List.length p15) + (List.length (t245 :: ([] : (List Int))))))) fun t256 =>
      bindD ((ixAt p16 p4)) fun t257 =>
      bindD ((ixAt p16 p4)) fun t258 =>
      automaton_minimal.l16 p0 p1 p2 p3 (Go.IntKind.wrap Go.IntKind.i64 (p4 + (1 : Int))) p5 p6 p7 p8 p9 p10 p11 p12 p13 (Go.Proofs.R.mput (Go.Proofs.R.Ty.int Go.IntKind.i64) t255 (((List.length p15) : Nat) : Int) p14) (p15 ++ (t245 :: ([] : (List Int)))) (setRow p16 p4 (((List.length p15) : Nat) : Int)) p17 p18 p19 p20)
     (bindD ((ixAt p16 p4)) fun t259 =>
      bindD ((ixAt p16 p4)) fun t260 =>
      automaton_minimal.l16 p0 p1 p2 p3 (Go.IntKind.wrap Go.IntKind.i64 (p4 + (1 : Int))) p5 p6 p7 p8 p9 p10 p11 p12 p13 p14 p15 (setRow p16 p4 (Go.Proofs.R.mget (Go.Proofs.R.Ty.int Go.IntKind.i64) (0 : Int) t253 p14).1) p17 p18 p19 p20))))
  (bindD ((Go.Proofs.R.grow ((List.length p19) + (List.length (p16 :: ([] : (List (List Int)))))))) fun t261 =>
   bindD ((ixAt p8 p1)) fun t262 =>
   bindD ((Go.Proofs.R.grow ((List.length p20) + (List.length (t262 :: ([] : (List Bool))))))) fun t263 =>
   automaton_minimal.l11 (Go.IntKind.wrap Go.IntKind.i64 (p0 + (1 : Int))) p5 p6 p7 p8 p9 p10 p11 p12 p13 p14 p15 p17 p18 (p19 ++ (p16 :: ([] : (List (List Int))))) (p20 ++ (t262 :: ([] : (List Bool))))) := (loopAt_step Go.Proofs.C06.ctx 46 16 _).trans (by kernel_rfl)
theorem ancepsref06_Live.f_eq (p0 : Int) (p1 : Int) (p2 : (List (List Int))) (p3 : (List Bool)) : ancepsref06_Live.f p0 p1 p2 p3 =
  bindD ((Go.Proofs.R.grow ((List.length ([] : (List Bool))) + (List.length p3)))) fun t264 =>
  ancepsref06_Live.l3 true p0 p1 p2 p3 (([] : (List Bool)) ++ p3) := (Einf_call Go.Proofs.C06.ctx 77 _).trans (by kernel_rfl)
theorem ancepsref06_classes.l4_eq (p0 : Int) (p1 : Int) (p2 : Int) (p3 : (List (List Int))) (p4 : (List Bool)) (p5 : (List Bool)) (p6 : (List Int)) : ancepsref06_classes.l4 p0 p1 p2 p3 p4 p5 p6 =
  ifB (decide (p0 < (((List.length p6) : Nat) : Int)))
   (bindD ((ixAt p5 p0)) fun t265 =>
   bindD ((ixAt p5 p0)) fun t266 =>
   ifB t266
    (bindD ((ixAt p6 p0)) fun t267 =>
    bindD ((ixAt p6 p0)) fun t268 =>
    bindD ((ixAt p4 p0)) fun t269 =>
    ifB t269
     (bindD ((ixAt (setRow p6 p0 (1 : Int)) p0)) fun t270 =>
     bindD ((ixAt (setRow p6 p0 (1 : Int)) p0)) fun t271 =>
     ancepsref06_classes.l4 (Go.IntKind.wrap Go.IntKind.i64 (p0 + (1 : Int))) p1 p2 p3 p4 p5 (setRow (setRow p6 p0 (1 : Int)) p0 (2 : Int)))
    (ancepsref06_classes.l4 (Go.IntKind.wrap Go.IntKind.i64 (p0 + (1 : Int))) p1 p2 p3 p4 p5 (setRow p6 p0 (1 : Int))))
   (ancepsref06_classes.l4 (Go.IntKind.wrap Go.IntKind.i64 (p0 + (1 : Int))) p1 p2 p3 p4 p5 p6))
  (ancepsref06_classes.l11 (0 : Int) p1 p2 p3 p4 p5 p6) := (loopAt_step Go.Proofs.C06.ctx 68 4 _).trans (by kernel_rfl)
theorem ancepsref06_minimal.l13_eq (p0 : Int) (p1 : Int) (p2 : Int) (p3 : Int) (p4 : (List (List Int))) (p5 : (List Bool)) (p6 : Int) (p7 : Int) (p8 : Int) (p9 : Int) (p10 : (List Int)) (p11 : (List Int)) (p12 : (List (Int × Int))) (p13 : (List Int)) (p14 : (List (List Int))) (p15 : (List Bool)) (p16 : (List (List Int))) (p17 : (List Bool)) : ancepsref06_minimal.l13 p0 p1 p2 p3 p4 p5 p6 p7 p8 p9 p10 p11 p12 p13 p14 p15 p16 p17 =
  ifB (decide (p1 < p2))
   (bindD ((ixAt p11 p0)) fun t272 =>
   bindD ((ixAt p11 p0)) fun t273 =>
   bindD ((ixAt p4 t273)) fun t274 =>
   bindD ((ixAt t274 p1)) fun t275 =>
   ifB (decide (t275 < (0 : Int)))
    (bindD ((Go.Proofs.R.grow ((List.length p13) + (List.length ((-(1 : Int)) :: ([] : (List Int))))))) fun t276 =>
    ancepsref06_minimal.l13 p0 (Go.IntKind.wrap Go.IntKind.i64 (p1 + (1 : Int))) p2 p3 p4 p5 p6 p7 p8 p9 p10 p11 p12 (p13 ++ ((-(1 : Int)) :: ([] : (List Int)))) p14 p15 p16 p17)
   (bindD ((ixAt p10 t275)) fun t277 =>
    bindD ((ixAt p10 t275)) fun t278 =>
    ifB (t278 == (0 : Int))
     (bindD ((Go.Proofs.R.grow ((List.length p13) + (List.length ((-(1 : Int)) :: ([] : (List Int))))))) fun t279 =>
     ancepsref06_minimal.l13 p0 (Go.IntKind.wrap Go.IntKind.i64 (p1 + (1 : Int))) p2 p3 p4 p5 p6 p7 p8 p9 p10 p11 p12 (p13 ++ ((-(1 : Int)) :: ([] : (List Int)))) p14 p15 p16 p17)
    (bindD ((ixAt p10 t275)) fun t280 =>
     bindD ((ixAt p10 t275)) fun t281 =>
     ifB (!(Go.Proofs.R.mget (Go.Proofs.R.Ty.int Go.IntKind.i64) (0 : Int) t281 p12).2)
      (bindD ((ixAt p10 t275)) fun t282 =>
      bindD ((ixAt p10 t275)) fun t283 =>
      bindD ((Go.Proofs.R.grow ((List.length p11) + (List.length (t275 :: ([] : (List Int))))))) fun t284 =>
      bindD ((Go.Proofs.R.grow ((List.length p13) + (List.length ((((List.length p11) : Nat) : Int) :: ([] : (List Int))))))) fun t285 =>
      ancepsref06_minimal.l13 p0 (Go.IntKind.wrap Go.IntKind.i64 (p1 + (1 : Int))) p2 p3 p4 p5 p6 p7 p8 p9 p10 (p11 ++ (t275 :: ([] : (List Int)))) (Go.Proofs.R.mput (Go.Proofs.R.Ty.int Go.IntKind.i64) t283 (((List.length p11) : Nat) : Int) p12) (p13 ++ ((((List.length p11) : Nat) : Int) :: ([] : (List Int)))) p14 p15 p16 p17)
     (bindD ((Go.Proofs.R.grow ((List.length p13) + (List.length ((Go.Proofs.R.mget (Go.Proofs.R.Ty.int Go.IntKind.i64) (0 : Int) t281 p12).1 :: ([] : (List Int))))))) fun t286 =>
      ancepsref06_minimal.l13 p0 (Go.IntKind.wrap Go.IntKind.i64 (p1 + (1 : Int))) p2 p3 p4 p5 p6 p7 p8 p9 p10 p11 p12 (p13 ++ ((Go.Proofs.R.mget (Go.Proofs.R.Ty.int Go.IntKind.i64) (0 : Int) t281 p12).1 :: ([] : (List Int)))) p14 p15 p16 p17))))
  (bindD ((Go.Proofs.R.grow ((List.length p16) + (List.length (p13 :: ([] : (List (List Int)))))))) fun t287 =>
   bindD ((ixAt p11 p0)) fun t288 =>
   bindD ((ixAt p11 p0)) fun t289 =>
   bindD ((ixAt p5 t289)) fun t290 =>
   bindD ((Go.Proofs.R.grow ((List.length p17) + (List.length (t290 :: ([] : (List Bool))))))) fun t291 =>
   ancepsref06_minimal.l9 (Go.IntKind.wrap Go.IntKind.i64 (p0 + (1 : Int))) p2 p3 p4 p5 p6 p7 p8 p9 p10 p11 p12 p14 p15 (p16 ++ (p13 :: ([] : (List (List Int))))) (p17 ++ (t290 :: ([] : (List Bool))))) := (loopAt_step Go.Proofs.C06.ctx 52 13 _).trans (by kernel_rfl)
theorem ancepsref06_Equal.l4_eq (p0 : (List Int)) (p1 : (List Int)) (p2 : Int) : ancepsref06_Equal.l4 p0 p1 p2 =
  ifB (decide (p2 < (((List.length p0) : Nat) : Int)))
   (bindD ((ixAt p0 p2)) fun t292 =>
   bindD ((ixAt p1 p2)) fun t293 =>
   ifB (t292 != t293)
    (some (false, ()))
   (ancepsref06_Equal.l4 p0 p1 (Go.IntKind.wrap Go.IntKind.i64 (p2 + (1 : Int)))))
  (some (true, ())) := (loopAt_step Go.Proofs.C06.ctx 47 4 _).trans (by kernel_rfl)
theorem automaton_visits.l8_eq (p0 : Int) (p1 : Int) (p2 : Int) (p3 : Int) (p4 : Int) (p5 : (List (List Int))) (p6 : (List Bool)) (p7 : Int) (p8 : Int) (p9 : (List (List Int))) (p10 : (List Bool)) (p11 : (List ((Int × Int) × (Int × Int)))) (p12 : (List ((Int × Int) × Bool))) (p13 : Int) (p14 : Int) : automaton_visits.l8 p0 p1 p2 p3 p4 p5 p6 p7 p8 p9 p10 p11 p12 p13 p14 =
  ifB (decide (p2 < p1))
   (bindD (automaton_next.f p3 p4 p5 p6 p13 p2) fun t294 =>
   bindD (automaton_next.f p7 p8 p9 p10 p14 p2) fun t295 =>
   ifB (!(Go.Proofs.R.mget (Go.Proofs.R.Ty.pair (Go.Proofs.R.Ty.int Go.IntKind.i64) (Go.Proofs.R.Ty.int Go.IntKind.i64)) false (t294.1, t295.1) p12).1)
    (bindD ((Go.Proofs.R.grow ((List.length p11) + (List.length (((t294.1, t295.1), (p0, p2)) :: ([] : (List ((Int × Int) × (Int × Int))))))))) fun t296 =>
    automaton_visits.l8 p0 p1 (Go.IntKind.wrap Go.IntKind.i64 (p2 + (1 : Int))) p3 p4 p5 p6 p7 p8 p9 p10 (p11 ++ (((t294.1, t295.1), (p0, p2)) :: ([] : (List ((Int × Int) × (Int × Int)))))) (Go.Proofs.R.mput (Go.Proofs.R.Ty.pair (Go.Proofs.R.Ty.int Go.IntKind.i64) (Go.Proofs.R.Ty.int Go.IntKind.i64)) (t294.1, t295.1) true p12) p13 p14)
   (automaton_visits.l8 p0 p1 (Go.IntKind.wrap Go.IntKind.i64 (p2 + (1 : Int))) p3 p4 p5 p6 p7 p8 p9 p10 p11 p12 p13 p14))
  (automaton_visits.l4 (Go.IntKind.wrap Go.IntKind.i64 (p0 + (1 : Int))) p3 p4 p5 p6 p7 p8 p9 p10 p11 p12) := (loopAt_step Go.Proofs.C06.ctx 43 8 _).trans (by kernel_rfl)
theorem automaton_Product.l19_eq (p0 : Int) (p1 : Int) (p2 : Int) (p3 : Int) (p4 : Int) (p5 : Int) (p6 : Int) (p7 : (List (List Int))) (p8 : (List Bool)) (p9 : Int) (p10 : Int) (p11 : (List (List Int))) (p12 : (List Bool)) (p13 : Int) (p14 : Int) (p15 : (List ((Int × Int) × Int))) (p16 : Int) (p17 : Int) (p18 : Int) (p19 : Int) (p20 : Int) (p21 : Int) (p22 : (List Int)) (p23 : (List ((Int × Int) × (Int × Int)))) (p24 : (List (List Int))) (p25 : (List Bool)) (p26 : (List (List Int))) (p27 : (List Bool)) : automaton_Product.l19 p0 p1 p2 p3 p4 p5 p6 p7 p8 p9 p10 p11 p12 p13 p14 p15 p16 p17 p18 p19 p20 p21 p22 p23 p24 p25 p26 p27 =
  ifB (decide (p4 < p3))
   (bindD (automaton_next.f p5 p6 p7 p8 p18 p4) fun t297 =>
   bindD (automaton_next.f p9 p10 p11 p12 p19 p4) fun t298 =>
   bindD ((ixAt p22 p4)) fun t299 =>
   bindD ((ixAt p22 p4)) fun t300 =>
   automaton_Product.l19 p0 p1 p2 p3 (Go.IntKind.wrap Go.IntKind.i64 (p4 + (1 : Int))) p5 p6 p7 p8 p9 p10 p11 p12 p13 p14 p15 p16 p17 p18 p19 p20 p21 (setRow p22 p4 (Go.Proofs.R.mget (Go.Proofs.R.Ty.pair (Go.Proofs.R.Ty.int Go.IntKind.i64) (Go.Proofs.R.Ty.int Go.IntKind.i64)) (0 : Int) (t297.1, t298.1) p15).1) p23 p24 p25 p26 p27)
  (bindD (automaton_ends.f p5 p6 p7 p8 p18) fun t301 =>
   bindD (automaton_ends.f p9 p10 p11 p12 p19) fun t302 =>
   ifB t301.1
    (ifB (p0 == (2 : Int))
     (ifB t301.1
      (bindD ((Go.Proofs.R.grow ((List.length p26) + (List.length (p22 :: ([] : (List (List Int)))))))) fun t303 =>
      bindD ((Go.Proofs.R.grow ((List.length p27) + (List.length (true :: ([] : (List Bool))))))) fun t304 =>
      automaton_Product.l15 p0 p1 (Go.IntKind.wrap Go.IntKind.i64 (p2 + (1 : Int))) p5 p6 p7 p8 p9 p10 p11 p12 p13 p14 p15 p16 p17 p23 p24 p25 (p26 ++ (p22 :: ([] : (List (List Int))))) (p27 ++ (true :: ([] : (List Bool)))))
     (bindD ((Go.Proofs.R.grow ((List.length p26) + (List.length (p22 :: ([] : (List (List Int)))))))) fun t305 =>
      bindD ((Go.Proofs.R.grow ((List.length p27) + (List.length (t302.1 :: ([] : (List Bool))))))) fun t306 =>
      automaton_Product.l15 p0 p1 (Go.IntKind.wrap Go.IntKind.i64 (p2 + (1 : Int))) p5 p6 p7 p8 p9 p10 p11 p12 p13 p14 p15 p16 p17 p23 p24 p25 (p26 ++ (p22 :: ([] : (List (List Int))))) (p27 ++ (t302.1 :: ([] : (List Bool))))))
    (ifB (p0 == (3 : Int))
      (ifB t301.1
       (bindD ((Go.Proofs.R.grow ((List.length p26) + (List.length (p22 :: ([] : (List (List Int)))))))) fun t307 =>
       bindD ((Go.Proofs.R.grow ((List.length p27) + (List.length ((!t302.1) :: ([] : (List Bool))))))) fun t308 =>
       automaton_Product.l15 p0 p1 (Go.IntKind.wrap Go.IntKind.i64 (p2 + (1 : Int))) p5 p6 p7 p8 p9 p10 p11 p12 p13 p14 p15 p16 p17 p23 p24 p25 (p26 ++ (p22 :: ([] : (List (List Int))))) (p27 ++ ((!t302.1) :: ([] : (List Bool)))))
      (bindD ((Go.Proofs.R.grow ((List.length p26) + (List.length (p22 :: ([] : (List (List Int)))))))) fun t309 =>
       bindD ((Go.Proofs.R.grow ((List.length p27) + (List.length (false :: ([] : (List Bool))))))) fun t310 =>
       automaton_Product.l15 p0 p1 (Go.IntKind.wrap Go.IntKind.i64 (p2 + (1 : Int))) p5 p6 p7 p8 p9 p10 p11 p12 p13 p14 p15 p16 p17 p23 p24 p25 (p26 ++ (p22 :: ([] : (List (List Int))))) (p27 ++ (false :: ([] : (List Bool))))))
     (bindD ((Go.Proofs.R.grow ((List.length p26) + (List.length (p22 :: ([] : (List (List Int)))))))) fun t311 =>
      bindD ((Go.Proofs.R.grow ((List.length p27) + (List.length (t302.1 :: ([] : (List Bool))))))) fun t312 =>
      automaton_Product.l15 p0 p1 (Go.IntKind.wrap Go.IntKind.i64 (p2 + (1 : Int))) p5 p6 p7 p8 p9 p10 p11 p12 p13 p14 p15 p16 p17 p23 p24 p25 (p26 ++ (p22 :: ([] : (List (List Int))))) (p27 ++ (t302.1 :: ([] : (List Bool)))))))
   (ifB (p0 == (2 : Int))
     (ifB t301.1
      (bindD ((Go.Proofs.R.grow ((List.length p26) + (List.length (p22 :: ([] : (List (List Int)))))))) fun t313 =>
      bindD ((Go.Proofs.R.grow ((List.length p27) + (List.length (true :: ([] : (List Bool))))))) fun t314 =>
      automaton_Product.l15 p0 p1 (Go.IntKind.wrap Go.IntKind.i64 (p2 + (1 : Int))) p5 p6 p7 p8 p9 p10 p11 p12 p13 p14 p15 p16 p17 p23 p24 p25 (p26 ++ (p22 :: ([] : (List (List Int))))) (p27 ++ (true :: ([] : (List Bool)))))
     (bindD ((Go.Proofs.R.grow ((List.length p26) + (List.length (p22 :: ([] : (List (List Int)))))))) fun t315 =>
      bindD ((Go.Proofs.R.grow ((List.length p27) + (List.length (t302.1 :: ([] : (List Bool))))))) fun t316 =>
      automaton_Product.l15 p0 p1 (Go.IntKind.wrap Go.IntKind.i64 (p2 + (1 : Int))) p5 p6 p7 p8 p9 p10 p11 p12 p13 p14 p15 p16 p17 p23 p24 p25 (p26 ++ (p22 :: ([] : (List (List Int))))) (p27 ++ (t302.1 :: ([] : (List Bool))))))
    (ifB (p0 == (3 : Int))
      (ifB t301.1
       (bindD ((Go.Proofs.R.grow ((List.length p26) + (List.length (p22 :: ([] : (List (List Int)))))))) fun t317 =>
       bindD ((Go.Proofs.R.grow ((List.length p27) + (List.length ((!t302.1) :: ([] : (List Bool))))))) fun t318 =>
       automaton_Product.l15 p0 p1 (Go.IntKind.wrap Go.IntKind.i64 (p2 + (1 : Int))) p5 p6 p7 p8 p9 p10 p11 p12 p13 p14 p15 p16 p17 p23 p24 p25 (p26 ++ (p22 :: ([] : (List (List Int))))) (p27 ++ ((!t302.1) :: ([] : (List Bool)))))
      (bindD ((Go.Proofs.R.grow ((List.length p26) + (List.length (p22 :: ([] : (List (List Int)))))))) fun t319 =>
       bindD ((Go.Proofs.R.grow ((List.length p27) + (List.length (false :: ([] : (List Bool))))))) fun t320 =>
       automaton_Product.l15 p0 p1 (Go.IntKind.wrap Go.IntKind.i64 (p2 + (1 : Int))) p5 p6 p7 p8 p9 p10 p11 p12 p13 p14 p15 p16 p17 p23 p24 p25 (p26 ++ (p22 :: ([] : (List (List Int))))) (p27 ++ (false :: ([] : (List Bool))))))
     (bindD ((Go.Proofs.R.grow ((List.length p26) + (List.length (p22 :: ([] : (List (List Int)))))))) fun t321 =>
      bindD ((Go.Proofs.R.grow ((List.length p27) + (List.length (false :: ([] : (List Bool))))))) fun t322 =>
      automaton_Product.l15 p0 p1 (Go.IntKind.wrap Go.IntKind.i64 (p2 + (1 : Int))) p5 p6 p7 p8 p9 p10 p11 p12 p13 p14 p15 p16 p17 p23 p24 p25 (p26 ++ (p22 :: ([] : (List (List Int))))) (p27 ++ (false :: ([] : (List Bool)))))))) := (loopAt_step Go.Proofs.C06.ctx 13 19 _).trans (by kernel_rfl)
theorem ancepsref06_walk.l7_eq (p0 : Int) (p1 : Int) (p2 : Int) (p3 : Int) (p4 : (List (List Int))) (p5 : (List Bool)) (p6 : Int) (p7 : Int) (p8 : (List (List Int))) (p9 : (List Bool)) (p10 : (List ((Int × Int) × (Int × Int)))) (p11 : (List ((Int × Int) × Bool))) : ancepsref06_walk.l7 p0 p1 p2 p3 p4 p5 p6 p7 p8 p9 p10 p11 =
  ifB (decide (p1 < p2))
   (bindD ((ixAt p10 p0)) fun t323 =>
   bindD ((ixAt p10 p0)) fun t324 =>
   bindD (ancepsref06_step.f p2 p3 p4 p5 t324.1.1 p1) fun t325 =>
   bindD ((ixAt p10 p0)) fun t326 =>
   bindD ((ixAt p10 p0)) fun t327 =>
   bindD (ancepsref06_step.f p6 p7 p8 p9 t327.1.2 p1) fun t328 =>
   ifB (!(Go.Proofs.R.mget (Go.Proofs.R.Ty.pair (Go.Proofs.R.Ty.int Go.IntKind.i64) (Go.Proofs.R.Ty.int Go.IntKind.i64)) false (t325.1, t328.1) p11).1)
    (bindD ((Go.Proofs.R.grow ((List.length p10) + (List.length (((t325.1, t328.1), (p0, p1)) :: ([] : (List ((Int × Int) × (Int × Int))))))))) fun t329 =>
    ancepsref06_walk.l7 p0 (Go.IntKind.wrap Go.IntKind.i64 (p1 + (1 : Int))) p2 p3 p4 p5 p6 p7 p8 p9 (p10 ++ (((t325.1, t328.1), (p0, p1)) :: ([] : (List ((Int × Int) × (Int × Int)))))) (Go.Proofs.R.mput (Go.Proofs.R.Ty.pair (Go.Proofs.R.Ty.int Go.IntKind.i64) (Go.Proofs.R.Ty.int Go.IntKind.i64)) (t325.1, t328.1) true p11))
   (ancepsref06_walk.l7 p0 (Go.IntKind.wrap Go.IntKind.i64 (p1 + (1 : Int))) p2 p3 p4 p5 p6 p7 p8 p9 p10 p11))
  (ancepsref06_walk.l4 (Go.IntKind.wrap Go.IntKind.i64 (p0 + (1 : Int))) p2 p3 p4 p5 p6 p7 p8 p9 p10 p11) := (loopAt_step Go.Proofs.C06.ctx 54 7 _).trans (by kernel_rfl)
theorem ancepsref06_Product.l19_eq (p0 : Int) (p1 : Int) (p2 : Int) (p3 : Int) (p4 : Int) (p5 : (List (List Int))) (p6 : (List Bool)) (p7 : Int) (p8 : Int) (p9 : (List (List Int))) (p10 : (List Bool)) (p11 : Int) (p12 : Int) (p13 : (List ((Int × Int) × (Int × Int)))) (p14 : (List ((Int × Int) × Int))) (p15 : Int) (p16 : Int) (p17 : Int) (p18 : Int) (p19 : (List Int)) (p20 : (List (List Int))) (p21 : (List Bool)) (p22 : (List (List Int))) (p23 : (List Bool)) : ancepsref06_Product.l19 p0 p1 p2 p3 p4 p5 p6 p7 p8 p9 p10 p11 p12 p13 p14 p15 p16 p17 p18 p19 p20 p21 p22 p23 =
  ifB (decide (p2 < p3))
   (bindD (ancepsref06_step.f p3 p4 p5 p6 p17 p2) fun t330 =>
   bindD (ancepsref06_step.f p7 p8 p9 p10 p18 p2) fun t331 =>
   bindD ((Go.Proofs.R.grow ((List.length p19) + (List.length ((Go.Proofs.R.mget (Go.Proofs.R.Ty.pair (Go.Proofs.R.Ty.int Go.IntKind.i64) (Go.Proofs.R.Ty.int Go.IntKind.i64)) (0 : Int) (t330.1, t331.1) p14).1 :: ([] : (List Int))))))) fun t332 =>
   ancepsref06_Product.l19 p0 p1 (Go.IntKind.wrap Go.IntKind.i64 (p2 + (1 : Int))) p3 p4 p5 p6 p7 p8 p9 p10 p11 p12 p13 p14 p15 p16 p17 p18 (p19 ++ ((Go.Proofs.R.mget (Go.Proofs.R.Ty.pair (Go.Proofs.R.Ty.int Go.IntKind.i64) (Go.Proofs.R.Ty.int Go.IntKind.i64)) (0 : Int) (t330.1, t331.1) p14).1 :: ([] : (List Int)))) p20 p21 p22 p23)
  (bindD (ancepsref06_accepting.f p3 p4 p5 p6 p17) fun t333 =>
   bindD (ancepsref06_accepting.f p7 p8 p9 p10 p18) fun t334 =>
   bindD ((Go.Proofs.R.grow ((List.length p22) + (List.length (p19 :: ([] : (List (List Int)))))))) fun t335 =>
   ifB (p0 == (1 : Int))
    (ifB t333.1
     (ifB t334.1
      (bindD ((Go.Proofs.R.grow ((List.length p23) + (List.length (true :: ([] : (List Bool))))))) fun t336 =>
      ancepsref06_Product.l14 p0 (Go.IntKind.wrap Go.IntKind.i64 (p1 + (1 : Int))) p3 p4 p5 p6 p7 p8 p9 p10 p11 p12 p13 p14 p15 p16 p20 p21 (p22 ++ (p19 :: ([] : (List (List Int))))) (p23 ++ (true :: ([] : (List Bool)))))
     (ifB (p0 == (2 : Int))
       (ifB t333.1
        (bindD ((Go.Proofs.R.grow ((List.length p23) + (List.length (true :: ([] : (List Bool))))))) fun t337 =>
        ancepsref06_Product.l14 p0 (Go.IntKind.wrap Go.IntKind.i64 (p1 + (1 : Int))) p3 p4 p5 p6 p7 p8 p9 p10 p11 p12 p13 p14 p15 p16 p20 p21 (p22 ++ (p19 :: ([] : (List (List Int))))) (p23 ++ (true :: ([] : (List Bool)))))
       (ifB t334.1
         (bindD ((Go.Proofs.R.grow ((List.length p23) + (List.length (true :: ([] : (List Bool))))))) fun t338 =>
         ancepsref06_Product.l14 p0 (Go.IntKind.wrap Go.IntKind.i64 (p1 + (1 : Int))) p3 p4 p5 p6 p7 p8 p9 p10 p11 p12 p13 p14 p15 p16 p20 p21 (p22 ++ (p19 :: ([] : (List (List Int))))) (p23 ++ (true :: ([] : (List Bool)))))
        (ifB (p0 == (3 : Int))
          (ifB t333.1
           (bindD ((Go.Proofs.R.grow ((List.length p23) + (List.length ((!t334.1) :: ([] : (List Bool))))))) fun t339 =>
           ancepsref06_Product.l14 p0 (Go.IntKind.wrap Go.IntKind.i64 (p1 + (1 : Int))) p3 p4 p5 p6 p7 p8 p9 p10 p11 p12 p13 p14 p15 p16 p20 p21 (p22 ++ (p19 :: ([] : (List (List Int))))) (p23 ++ ((!t334.1) :: ([] : (List Bool)))))
          (bindD ((Go.Proofs.R.grow ((List.length p23) + (List.length (false :: ([] : (List Bool))))))) fun t340 =>
           ancepsref06_Product.l14 p0 (Go.IntKind.wrap Go.IntKind.i64 (p1 + (1 : Int))) p3 p4 p5 p6 p7 p8 p9 p10 p11 p12 p13 p14 p15 p16 p20 p21 (p22 ++ (p19 :: ([] : (List (List Int))))) (p23 ++ (false :: ([] : (List Bool))))))
         (bindD ((Go.Proofs.R.grow ((List.length p23) + (List.length (false :: ([] : (List Bool))))))) fun t341 =>
          ancepsref06_Product.l14 p0 (Go.IntKind.wrap Go.IntKind.i64 (p1 + (1 : Int))) p3 p4 p5 p6 p7 p8 p9 p10 p11 p12 p13 p14 p15 p16 p20 p21 (p22 ++ (p19 :: ([] : (List (List Int))))) (p23 ++ (false :: ([] : (List Bool))))))))
      (ifB (p0 == (3 : Int))
        (ifB t333.1
         (bindD ((Go.Proofs.R.grow ((List.length p23) + (List.length ((!t334.1) :: ([] : (List Bool))))))) fun t342 =>
         ancepsref06_Product.l14 p0 (Go.IntKind.wrap Go.IntKind.i64 (p1 + (1 : Int))) p3 p4 p5 p6 p7 p8 p9 p10 p11 p12 p13 p14 p15 p16 p20 p21 (p22 ++ (p19 :: ([] : (List (List Int))))) (p23 ++ ((!t334.1) :: ([] : (List Bool)))))
        (bindD ((Go.Proofs.R.grow ((List.length p23) + (List.length (false :: ([] : (List Bool))))))) fun t343 =>
         ancepsref06_Product.l14 p0 (Go.IntKind.wrap Go.IntKind.i64 (p1 + (1 : Int))) p3 p4 p5 p6 p7 p8 p9 p10 p11 p12 p13 p14 p15 p16 p20 p21 (p22 ++ (p19 :: ([] : (List (List Int))))) (p23 ++ (false :: ([] : (List Bool))))))
       (bindD ((Go.Proofs.R.grow ((List.length p23) + (List.length (false :: ([] : (List Bool))))))) fun t344 =>
        ancepsref06_Product.l14 p0 (Go.IntKind.wrap Go.IntKind.i64 (p1 + (1 : Int))) p3 p4 p5 p6 p7 p8 p9 p10 p11 p12 p13 p14 p15 p16 p20 p21 (p22 ++ (p19 :: ([] : (List (List Int))))) (p23 ++ (false :: ([] : (List Bool))))))))
    (ifB (p0 == (2 : Int))
      (ifB t333.1
       (bindD ((Go.Proofs.R.grow ((List.length p23) + (List.length (true :: ([] : (List Bool))))))) fun t345 =>
       ancepsref06_Product.l14 p0 (Go.IntKind.wrap Go.IntKind.i64 (p1 + (1 : Int))) p3 p4 p5 p6 p7 p8 p9 p10 p11 p12 p13 p14 p15 p16 p20 p21 (p22 ++ (p19 :: ([] : (List (List Int))))) (p23 ++ (true :: ([] : (List Bool)))))
      (ifB t334.1
        (bindD ((Go.Proofs.R.grow ((List.length p23) + (List.length (true :: ([] : (List Bool))))))) fun t346 =>
        ancepsref06_Product.l14 p0 (Go.IntKind.wrap Go.IntKind.i64 (p1 + (1 : Int))) p3 p4 p5 p6 p7 p8 p9 p10 p11 p12 p13 p14 p15 p16 p20 p21 (p22 ++ (p19 :: ([] : (List (List Int))))) (p23 ++ (true :: ([] : (List Bool)))))
       (ifB (p0 == (3 : Int))
         (ifB t333.1
          (bindD ((Go.Proofs.R.grow ((List.length p23) + (List.length ((!t334.1) :: ([] : (List Bool))))))) fun t347 =>
          ancepsref06_Product.l14 p0 (Go.IntKind.wrap Go.IntKind.i64 (p1 + (1 : Int))) p3 p4 p5 p6 p7 p8 p9 p10 p11 p12 p13 p14 p15 p16 p20 p21 (p22 ++ (p19 :: ([] : (List (List Int))))) (p23 ++ ((!t334.1) :: ([] : (List Bool)))))
         (bindD ((Go.Proofs.R.grow ((List.length p23) + (List.length (false :: ([] : (List Bool))))))) fun t348 =>
          ancepsref06_Product.l14 p0 (Go.IntKind.wrap Go.IntKind.i64 (p1 + (1 : Int))) p3 p4 p5 p6 p7 p8 p9 p10 p11 p12 p13 p14 p15 p16 p20 p21 (p22 ++ (p19 :: ([] : (List (List Int))))) (p23 ++ (false :: ([] : (List Bool))))))
        (bindD ((Go.Proofs.R.grow ((List.length p23) + (List.length (false :: ([] : (List Bool))))))) fun t349 =>
         ancepsref06_Product.l14 p0 (Go.IntKind.wrap Go.IntKind.i64 (p1 + (1 : Int))) p3 p4 p5 p6 p7 p8 p9 p10 p11 p12 p13 p14 p15 p16 p20 p21 (p22 ++ (p19 :: ([] : (List (List Int))))) (p23 ++ (false :: ([] : (List Bool))))))))
     (ifB (p0 == (3 : Int))
       (ifB t333.1
        (bindD ((Go.Proofs.R.grow ((List.length p23) + (List.length ((!t334.1) :: ([] : (List Bool))))))) fun t350 =>
        ancepsref06_Product.l14 p0 (Go.IntKind.wrap Go.IntKind.i64 (p1 + (1 : Int))) p3 p4 p5 p6 p7 p8 p9 p10 p11 p12 p13 p14 p15 p16 p20 p21 (p22 ++ (p19 :: ([] : (List (List Int))))) (p23 ++ ((!t334.1) :: ([] : (List Bool)))))
       (bindD ((Go.Proofs.R.grow ((List.length p23) + (List.length (false :: ([] : (List Bool))))))) fun t351 =>
        ancepsref06_Product.l14 p0 (Go.IntKind.wrap Go.IntKind.i64 (p1 + (1 : Int))) p3 p4 p5 p6 p7 p8 p9 p10 p11 p12 p13 p14 p15 p16 p20 p21 (p22 ++ (p19 :: ([] : (List (List Int))))) (p23 ++ (false :: ([] : (List Bool))))))
      (bindD ((Go.Proofs.R.grow ((List.length p23) + (List.length (false :: ([] : (List Bool))))))) fun t352 =>
       ancepsref06_Product.l14 p0 (Go.IntKind.wrap Go.IntKind.i64 (p1 + (1 : Int))) p3 p4 p5 p6 p7 p8 p9 p10 p11 p12 p13 p14 p15 p16 p20 p21 (p22 ++ (p19 :: ([] : (List (List Int))))) (p23 ++ (false :: ([] : (List Bool))))))))
   (ifB (p0 == (2 : Int))
     (ifB t333.1
      (bindD ((Go.Proofs.R.grow ((List.length p23) + (List.length (true :: ([] : (List Bool))))))) fun t353 =>
      ancepsref06_Product.l14 p0 (Go.IntKind.wrap Go.IntKind.i64 (p1 + (1 : Int))) p3 p4 p5 p6 p7 p8 p9 p10 p11 p12 p13 p14 p15 p16 p20 p21 (p22 ++ (p19 :: ([] : (List (List Int))))) (p23 ++ (true :: ([] : (List Bool)))))
     (ifB t334.1
       (bindD ((Go.Proofs.R.grow ((List.length p23) + (List.length (true :: ([] : (List Bool))))))) fun t354 =>
       ancepsref06_Product.l14 p0 (Go.IntKind.wrap Go.IntKind.i64 (p1 + (1 : Int))) p3 p4 p5 p6 p7 p8 p9 p10 p11 p12 p13 p14 p15 p16 p20 p21 (p22 ++ (p19 :: ([] : (List (List Int))))) (p23 ++ (true :: ([] : (List Bool)))))
      (ifB (p0 == (3 : Int))
        (ifB t333.1
         (bindD ((Go.Proofs.R.grow ((List.length p23) + (List.length ((!t334.1) :: ([] : (List Bool))))))) fun t355 =>
         ancepsref06_Product.l14 p0 (Go.IntKind.wrap Go.IntKind.i64 (p1 + (1 : Int))) p3 p4 p5 p6 p7 p8 p9 p10 p11 p12 p13 p14 p15 p16 p20 p21 (p22 ++ (p19 :: ([] : (List (List Int))))) (p23 ++ ((!t334.1) :: ([] : (List Bool)))))
        (bindD ((Go.Proofs.R.grow ((List.length p23) + (List.length (false :: ([] : (List Bool))))))) fun t356 =>
         ancepsref06_Product.l14 p0 (Go.IntKind.wrap Go.IntKind.i64 (p1 + (1 : Int))) p3 p4 p5 p6 p7 p8 p9 p10 p11 p12 p13 p14 p15 p16 p20 p21 (p22 ++ (p19 :: ([] : (List (List Int))))) (p23 ++ (false :: ([] : (List Bool))))))
       (bindD ((Go.Proofs.R.grow ((List.length p23) + (List.length (false :: ([] : (List Bool))))))) fun t357 =>
        ancepsref06_Product.l14 p0 (Go.IntKind.wrap Go.IntKind.i64 (p1 + (1 : Int))) p3 p4 p5 p6 p7 p8 p9 p10 p11 p12 p13 p14 p15 p16 p20 p21 (p22 ++ (p19 :: ([] : (List (List Int))))) (p23 ++ (false :: ([] : (List Bool))))))))
    (ifB (p0 == (3 : Int))
      (ifB t333.1
       (bindD ((Go.Proofs.R.grow ((List.length p23) + (List.length ((!t334.1) :: ([] : (List Bool))))))) fun t358 =>
       ancepsref06_Product.l14 p0 (Go.IntKind.wrap Go.IntKind.i64 (p1 + (1 : Int))) p3 p4 p5 p6 p7 p8 p9 p10 p11 p12 p13 p14 p15 p16 p20 p21 (p22 ++ (p19 :: ([] : (List (List Int))))) (p23 ++ ((!t334.1) :: ([] : (List Bool)))))
      (bindD ((Go.Proofs.R.grow ((List.length p23) + (List.length (false :: ([] : (List Bool))))))) fun t359 =>
       ancepsref06_Product.l14 p0 (Go.IntKind.wrap Go.IntKind.i64 (p1 + (1 : Int))) p3 p4 p5 p6 p7 p8 p9 p10 p11 p12 p13 p14 p15 p16 p20 p21 (p22 ++ (p19 :: ([] : (List (List Int))))) (p23 ++ (false :: ([] : (List Bool))))))
     (bindD ((Go.Proofs.R.grow ((List.length p23) + (List.length (false :: ([] : (List Bool))))))) fun t360 =>
      ancepsref06_Product.l14 p0 (Go.IntKind.wrap Go.IntKind.i64 (p1 + (1 : Int))) p3 p4 p5 p6 p7 p8 p9 p10 p11 p12 p13 p14 p15 p16 p20 p21 (p22 ++ (p19 :: ([] : (List (List Int))))) (p23 ++ (false :: ([] : (List Bool)))))))) := (loopAt_step Go.Proofs.C06.ctx 28 19 _).trans (by kernel_rfl)
theorem ancepsref06_Small.f_eq (p0 : Int) (p1 : Int) (p2 : (List (List Int))) (p3 : (List Bool)) : ancepsref06_Small.f p0 p1 p2 p3 =
  bindD (ancepsref06_minimal.f p0 p1 p2 p3) fun t361 =>
  ifB (decide ((((List.length t361.2.2.1) : Nat) : Int) > (400 : Int)))
   (some ((0 : Int), ((0 : Int), (([] : (List (List Int))), (([] : (List Bool)), (false, ()))))))
  (some (t361.1, (t361.2.1, (t361.2.2.1, (t361.2.2.2.1, (true, ())))))) := (Einf_call Go.Proofs.C06.ctx 57 _).trans (by kernel_rfl)
theorem automaton_visit.l2_eq (p0 : (List ((Int × Int) × (Int × Int)))) (p1 : Int) (p2 : Int) (p3 : (List (List Int))) (p4 : (List Bool)) (p5 : Int) (p6 : Int) (p7 : (List (List Int))) (p8 : (List Bool)) (p9 : Int) (p10 : Int) : automaton_visit.l2 p0 p1 p2 p3 p4 p5 p6 p7 p8 p9 p10 =
  ifB (decide (p10 < p9))
   (bindD ((ixAt p0 p10)) fun t362 =>
   bindD (automaton_differ_1.f t362.1.1 t362.1.2 t362.2.1 t362.2.2 p1 p2 p3 p4 p5 p6 p7 p8) fun t363 =>
   ifB t363.1
    (some (p10, ()))
   (automaton_visit.l2 p0 p1 p2 p3 p4 p5 p6 p7 p8 p9 (Go.IntKind.wrap Go.IntKind.i64 (p10 + (1 : Int)))))
  (some ((-(1 : Int)), ())) := (loopAt_step Go.Proofs.C06.ctx 69 2 _).trans (by kernel_rfl)
theorem automaton_Count.l19_eq (p0 : Int) (p1 : Int) (p2 : (List (List Int))) (p3 : Int) (p4 : Int) (p5 : Int) (p6 : Int) (p7 : (List (List Int))) (p8 : (List Bool)) (p9 : (List Int)) (p10 : (List Int)) : automaton_Count.l19 p0 p1 p2 p3 p4 p5 p6 p7 p8 p9 p10 =
  ifB (decide (p4 < p3))
   (bindD ((ixAt p2 p4)) fun t364 =>
   automaton_Count.l22 p4 p0 p1 p2 p3 p4 t364 (((List.length t364) : Nat) : Int) (0 : Int) p5 p6 p7 p8 p9 p10)
  (automaton_Count.l16 p0 (Go.IntKind.wrap Go.IntKind.i64 (p1 + (1 : Int))) p5 p6 p7 p8 p10) := (loopAt_step Go.Proofs.C06.ctx 16 19 _).trans (by kernel_rfl)
theorem slices_IndexFunc_int_int.l2_eq (p0 : (List Int)) (p1 : Int) (p2 : Int) (p3 : Int) : slices_IndexFunc_int_int.l2 p0 p1 p2 p3 =
  ifB (decide (p3 < p2))
   (bindD ((ixAt p0 p3)) fun t365 =>
   bindD (automaton_Valid_1.f t365 p1) fun t366 =>
   ifB t366.1
    (some (p3, ()))
   (slices_IndexFunc_int_int.l2 p0 p1 p2 (Go.IntKind.wrap Go.IntKind.i64 (p3 + (1 : Int)))))
  (some ((-(1 : Int)), ())) := (loopAt_step Go.Proofs.C06.ctx 67 2 _).trans (by kernel_rfl)
theorem automaton_useful.l3_eq (p0 : (List (List Int))) (p1 : Int) (p2 : Int) (p3 : Int) (p4 : Int) (p5 : (List (List Int))) (p6 : (List Bool)) (p7 : (List (List Int))) : automaton_useful.l3 p0 p1 p2 p3 p4 p5 p6 p7 =
  ifB (decide (p2 < p1))
   (bindD ((ixAt p0 p2)) fun t367 =>
   automaton_useful.l6 p2 p0 p1 p2 t367 (((List.length t367) : Nat) : Int) (0 : Int) p3 p4 p5 p6 p7)
  (bindD ((Go.Proofs.R.mkLen (((List.length p5) : Nat) : Int) (((List.length p5) : Nat) : Int))) fun t368 =>
   automaton_useful.l15 p6 (((List.length p6) : Nat) : Int) (0 : Int) p7 (List.replicate t368 false) ([] : (List Int))) := (loopAt_step Go.Proofs.C06.ctx 76 3 _).trans (by kernel_rfl)
theorem automaton_classes.l12_eq (p0 : Int) (p1 : Int) (p2 : Int) (p3 : (List (List Int))) (p4 : (List Bool)) (p5 : (List Int)) : automaton_classes.l12 p0 p1 p2 p3 p4 p5 =
  bindD ((Go.Proofs.R.mkLen (((List.length p5) : Nat) : Int) (((List.length p5) : Nat) : Int))) fun t369 =>
  automaton_classes.l15 p0 p3 (((List.length p3) : Nat) : Int) (0 : Int) p1 p2 p3 p4 p5 ([] : (List ((List Int) × Int))) (List.replicate t369 (0 : Int)) := (loopAt_step Go.Proofs.C06.ctx 66 12 _).trans (by kernel_rfl)
theorem ancepsref06_Live.l3_eq (p0 : Bool) (p1 : Int) (p2 : Int) (p3 : (List (List Int))) (p4 : (List Bool)) (p5 : (List Bool)) : ancepsref06_Live.l3 p0 p1 p2 p3 p4 p5 =
  ifB p0
   (ancepsref06_Live.l6 false (0 : Int) p1 p2 p3 p4 p5)
  (some (p5, ())) := (loopAt_step Go.Proofs.C06.ctx 77 3 _).trans (by kernel_rfl)
theorem ancepsref06_classes.l11_eq (p0 : Int) (p1 : Int) (p2 : Int) (p3 : (List (List Int))) (p4 : (List Bool)) (p5 : (List Bool)) (p6 : (List Int)) : ancepsref06_classes.l11 p0 p1 p2 p3 p4 p5 p6 =
  bindD ((Go.Proofs.R.mkLen (((List.length p6) : Nat) : Int) (((List.length p6) : Nat) : Int))) fun t370 =>
  ancepsref06_classes.l14 p0 (0 : Int) p1 p2 p3 p4 p5 p6 (List.replicate t370 (0 : Int)) ([] : (List (List Int))) := (loopAt_step Go.Proofs.C06.ctx 68 11 _).trans (by kernel_rfl)
theorem automaton_differ_1.f_eq (p0 : Int) (p1 : Int) (p2 : Int) (p3 : Int) (p4 : Int) (p5 : Int) (p6 : (List (List Int))) (p7 : (List Bool)) (p8 : Int) (p9 : Int) (p10 : (List (List Int))) (p11 : (List Bool)) : automaton_differ_1.f p0 p1 p2 p3 p4 p5 p6 p7 p8 p9 p10 p11 =
  bindD (automaton_ends.f p4 p5 p6 p7 p0) fun t371 =>
  bindD (automaton_ends.f p8 p9 p10 p11 p1) fun t372 =>
  some ((!(t371.1 == t372.1)), ()) := (Einf_call Go.Proofs.C06.ctx 70 _).trans (by kernel_rfl)
theorem automaton_Count.l22_eq (p0 : Int) (p1 : Int) (p2 : Int) (p3 : (List (List Int))) (p4 : Int) (p5 : Int) (p6 : (List Int)) (p7 : Int) (p8 : Int) (p9 : Int) (p10 : Int) (p11 : (List (List Int))) (p12 : (List Bool)) (p13 : (List Int)) (p14 : (List Int)) : automaton_Count.l22 p0 p1 p2 p3 p4 p5 p6 p7 p8 p9 p10 p11 p12 p13 p14 =
  ifB (decide (p8 < p7))
   (bindD ((ixAt p6 p8)) fun t373 =>
   ifB (decide (t373 ≥ (0 : Int)))
    (bindD ((ixAt p14 p0)) fun t374 =>
    bindD ((ixAt p14 p0)) fun t375 =>
    bindD ((ixAt p13 t373)) fun t376 =>
    bindD ((ixAt p13 t373)) fun t377 =>
    bindD ((ixAt p14 p0)) fun t378 =>
    bindD ((ixAt p14 p0)) fun t379 =>
    automaton_Count.l22 p0 p1 p2 p3 p4 p5 p6 p7 (Go.IntKind.wrap Go.IntKind.i64 (p8 + (1 : Int))) p9 p10 p11 p12 p13 (setRow p14 p0 (if ((4611686018427387905 : Int) < (Go.IntKind.wrap Go.IntKind.u64 (t375 + t377))) then (4611686018427387905 : Int) else (Go.IntKind.wrap Go.IntKind.u64 (t375 + t377)))))
   (automaton_Count.l22 p0 p1 p2 p3 p4 p5 p6 p7 (Go.IntKind.wrap Go.IntKind.i64 (p8 + (1 : Int))) p9 p10 p11 p12 p13 p14))
  (automaton_Count.l19 p1 p2 p3 p4 (Go.IntKind.wrap Go.IntKind.i64 (p5 + (1 : Int))) p9 p10 p11 p12 p13 p14) := (loopAt_step Go.Proofs.C06.ctx 16 22 _).trans (by kernel_rfl)
theorem automaton_Valid_1.f_eq (p0 : Int) (p1 : Int) : automaton_Valid_1.f p0 p1 =
  ifB (decide (p0 < (-(1 : Int))))
   (some (true, ()))
  (some ((decide (p0 ≥ p1)), ())) := (Einf_call Go.Proofs.C06.ctx 49 _).trans (by kernel_rfl)
theorem automaton_useful.l6_eq (p0 : Int) (p1 : (List (List Int))) (p2 : Int) (p3 : Int) (p4 : (List Int)) (p5 : Int) (p6 : Int) (p7 : Int) (p8 : Int) (p9 : (List (List Int))) (p10 : (List Bool)) (p11 : (List (List Int))) : automaton_useful.l6 p0 p1 p2 p3 p4 p5 p6 p7 p8 p9 p10 p11 =
  ifB (decide (p6 < p5))
   (bindD ((ixAt p4 p6)) fun t380 =>
   ifB (decide (t380 ≥ (0 : Int)))
    (bindD ((ixAt p11 t380)) fun t381 =>
    bindD ((ixAt p11 t380)) fun t382 =>
    bindD ((ixAt p11 t380)) fun t383 =>
    bindD ((Go.Proofs.R.grow ((List.length t383) + (List.length (p0 :: ([] : (List Int))))))) fun t384 =>
    bindD ((ixAt p11 t380)) fun t385 =>
    ifB (decide (t380 = t380))
     (automaton_useful.l6 p0 p1 p2 p3 p4 p5 (Go.IntKind.wrap Go.IntKind.i64 (p6 + (1 : Int))) p7 p8 p9 p10 (setRow p11 t380 (t383 ++ (p0 :: ([] : (List Int))))))
    (none))
   (automaton_useful.l6 p0 p1 p2 p3 p4 p5 (Go.IntKind.wrap Go.IntKind.i64 (p6 + (1 : Int))) p7 p8 p9 p10 p11))
  (automaton_useful.l3 p1 p2 (Go.IntKind.wrap Go.IntKind.i64 (p3 + (1 : Int))) p7 p8 p9 p10 p11) := (loopAt_step Go.Proofs.C06.ctx 76 6 _).trans (by kernel_rfl)
theorem automaton_useful.l15_eq (p0 : (List Bool)) (p1 : Int) (p2 : Int) (p3 : (List (List Int))) (p4 : (List Bool)) (p5 : (List Int)) : automaton_useful.l15 p0 p1 p2 p3 p4 p5 =
  ifB (decide (p2 < p1))
   (bindD ((ixAt p0 p2)) fun t386 =>
   ifB t386
    (bindD ((ixAt p4 p2)) fun t387 =>
    bindD ((ixAt p4 p2)) fun t388 =>
    bindD ((Go.Proofs.R.grow ((List.length p5) + (List.length (p2 :: ([] : (List Int))))))) fun t389 =>
    automaton_useful.l15 p0 p1 (Go.IntKind.wrap Go.IntKind.i64 (p2 + (1 : Int))) p3 (setRow p4 p2 true) (p5 ++ (p2 :: ([] : (List Int)))))
   (automaton_useful.l15 p0 p1 (Go.IntKind.wrap Go.IntKind.i64 (p2 + (1 : Int))) p3 p4 p5))
  (automaton_useful.l21 p3 p4 p5) := (loopAt_step Go.Proofs.C06.ctx 76 15 _).trans (by kernel_rfl)
theorem automaton_classes.l15_eq (p0 : Int) (p1 : (List (List Int))) (p2 : Int) (p3 : Int) (p4 : Int) (p5 : Int) (p6 : (List (List Int))) (p7 : (List Bool)) (p8 : (List Int)) (p9 : (List ((List Int) × Int))) (p10 : (List Int)) : automaton_classes.l15 p0 p1 p2 p3 p4 p5 p6 p7 p8 p9 p10 =
  ifB (decide (p3 < p2))
   (bindD ((ixAt p1 p3)) fun t390 =>
   bindD ((ixAt p8 p3)) fun t391 =>
   bindD ((ixAt p8 p3)) fun t392 =>
   ifB (t392 == (0 : Int))
    (automaton_classes.l15 p0 p1 p2 (Go.IntKind.wrap Go.IntKind.i64 (p3 + (1 : Int))) p4 p5 p6 p7 p8 p9 p10)
   (bindD ((ixAt p8 p3)) fun t393 =>
    bindD ((ixAt p8 p3)) fun t394 =>
    automaton_classes.l20 p0 p3 p1 p2 p3 t390 (((List.length t390) : Nat) : Int) (0 : Int) p4 p5 p6 p7 p8 p9 p10 (List.set (List.replicate (9 : Nat) (0 : Int)) (0 : Nat) t394)))
  (ifB ((((List.length p9) : Nat) : Int) == p0)
    (some (p10, ()))
   (automaton_classes.l12 (((List.length p9) : Nat) : Int) p4 p5 p6 p7 p10)) := (loopAt_step Go.Proofs.C06.ctx 66 15 _).trans (by kernel_rfl)
theorem ancepsref06_Live.l6_eq (p0 : Bool) (p1 : Int) (p2 : Int) (p3 : Int) (p4 : (List (List Int))) (p5 : (List Bool)) (p6 : (List Bool)) : ancepsref06_Live.l6 p0 p1 p2 p3 p4 p5 p6 =
  ifB (decide (p1 < (((List.length p4) : Nat) : Int)))
   (ancepsref06_Live.l9 p0 p1 (0 : Int) p2 p3 p4 p5 p6)
  (ancepsref06_Live.l3 p0 p2 p3 p4 p5 p6) := (loopAt_step Go.Proofs.C06.ctx 77 6 _).trans (by kernel_rfl)
theorem ancepsref06_classes.l14_eq (p0 : Int) (p1 : Int) (p2 : Int) (p3 : Int) (p4 : (List (List Int))) (p5 : (List Bool)) (p6 : (List Bool)) (p7 : (List Int)) (p8 : (List Int)) (p9 : (List (List Int))) : ancepsref06_classes.l14 p0 p1 p2 p3 p4 p5 p6 p7 p8 p9 =
  ifB (decide (p1 < (((List.length p7) : Nat) : Int)))
   (bindD ((ixAt p6 p1)) fun t395 =>
   bindD ((ixAt p6 p1)) fun t396 =>
   ifB (!t396)
    (ancepsref06_classes.l14 p0 (Go.IntKind.wrap Go.IntKind.i64 (p1 + (1 : Int))) p2 p3 p4 p5 p6 p7 p8 p9)
   (bindD ((ixAt p7 p1)) fun t397 =>
    bindD ((ixAt p7 p1)) fun t398 =>
    ancepsref06_classes.l19 p0 p1 (0 : Int) p2 p3 p4 p5 p6 p7 p8 p9 (t398 :: ([] : (List Int)))))
  (ifB ((((List.length p9) : Nat) : Int) == p0)
    (some (p8, ()))
   (ancepsref06_classes.l11 (((List.length p9) : Nat) : Int) p2 p3 p4 p5 p6 p8)) := (loopAt_step Go.Proofs.C06.ctx 68 14 _).trans (by kernel_rfl)
theorem automaton_useful.l21_eq (p0 : (List (List Int))) (p1 : (List Bool)) (p2 : (List Int)) : automaton_useful.l21 p0 p1 p2 =
  ifB (decide ((((List.length p2) : Nat) : Int) > (0 : Int)))
   (bindD ((ixAt p2 (0 : Int))) fun t399 =>
   bindD ((ixAt p2 (0 : Int))) fun t400 =>
   bindD ((subL p2 (1 : Int) (((List.length p2) : Nat) : Int))) fun t401 =>
   bindD ((ixAt p0 t400)) fun t402 =>
   bindD ((ixAt p0 t400)) fun t403 =>
   automaton_useful.l25 t403 (((List.length t403) : Nat) : Int) (0 : Int) p0 p1 t401)
  (some (p1, ())) := (loopAt_step Go.Proofs.C06.ctx 76 21 _).trans (by kernel_rfl)
theorem automaton_classes.l20_eq (p0 : Int) (p1 : Int) (p2 : (List (List Int))) (p3 : Int) (p4 : Int) (p5 : (List Int)) (p6 : Int) (p7 : Int) (p8 : Int) (p9 : Int) (p10 : (List (List Int))) (p11 : (List Bool)) (p12 : (List Int)) (p13 : (List ((List Int) × Int))) (p14 : (List Int)) (p15 : (List Int)) : automaton_classes.l20 p0 p1 p2 p3 p4 p5 p6 p7 p8 p9 p10 p11 p12 p13 p14 p15 =
  ifB (decide (p7 < p6))
   (bindD ((ixAt p5 p7)) fun t404 =>
   ifB (decide (t404 ≥ (0 : Int)))
    (bindD ((ixAt p12 t404)) fun t405 =>
    bindD ((ixAt p12 t404)) fun t406 =>
    bindD ((ixAt p15 (Go.IntKind.wrap Go.IntKind.i64 (p7 + (1 : Int))))) fun t407 =>
    bindD ((ixAt p15 (Go.IntKind.wrap Go.IntKind.i64 (p7 + (1 : Int))))) fun t408 =>
    automaton_classes.l20 p0 p1 p2 p3 p4 p5 p6 (Go.IntKind.wrap Go.IntKind.i64 (p7 + (1 : Int))) p8 p9 p10 p11 p12 p13 p14 (setRow p15 (Go.IntKind.wrap Go.IntKind.i64 (p7 + (1 : Int))) t406))
   (automaton_classes.l20 p0 p1 p2 p3 p4 p5 p6 (Go.IntKind.wrap Go.IntKind.i64 (p7 + (1 : Int))) p8 p9 p10 p11 p12 p13 p14 p15))
  (ifB ((Go.Proofs.R.mget (Go.Proofs.R.Ty.arr (9 : Nat) (Go.Proofs.R.Ty.int Go.IntKind.i64)) (0 : Int) p15 p13).1 == (0 : Int))
    (bindD ((ixAt p14 p1)) fun t409 =>
    bindD ((ixAt p14 p1)) fun t410 =>
    automaton_classes.l15 p0 p2 p3 (Go.IntKind.wrap Go.IntKind.i64 (p4 + (1 : Int))) p8 p9 p10 p11 p12 (Go.Proofs.R.mput (Go.Proofs.R.Ty.arr (9 : Nat) (Go.Proofs.R.Ty.int Go.IntKind.i64)) p15 (Go.IntKind.wrap Go.IntKind.i64 ((((List.length p13) : Nat) : Int) + (1 : Int))) p13) (setRow p14 p1 (Go.Proofs.R.mget (Go.Proofs.R.Ty.arr (9 : Nat) (Go.Proofs.R.Ty.int Go.IntKind.i64)) (0 : Int) p15 (Go.Proofs.R.mput (Go.Proofs.R.Ty.arr (9 : Nat) (Go.Proofs.R.Ty.int Go.IntKind.i64)) p15 (Go.IntKind.wrap Go.IntKind.i64 ((((List.length p13) : Nat) : Int) + (1 : Int))) p13)).1))
   (bindD ((ixAt p14 p1)) fun t411 =>
    bindD ((ixAt p14 p1)) fun t412 =>
    automaton_classes.l15 p0 p2 p3 (Go.IntKind.wrap Go.IntKind.i64 (p4 + (1 : Int))) p8 p9 p10 p11 p12 p13 (setRow p14 p1 (Go.Proofs.R.mget (Go.Proofs.R.Ty.arr (9 : Nat) (Go.Proofs.R.Ty.int Go.IntKind.i64)) (0 : Int) p15 p13).1))) := (loopAt_step Go.Proofs.C06.ctx 66 20 _).trans (by kernel_rfl)
theorem ancepsref06_Live.l9_eq (p0 : Bool) (p1 : Int) (p2 : Int) (p3 : Int) (p4 : Int) (p5 : (List (List Int))) (p6 : (List Bool)) (p7 : (List Bool)) : ancepsref06_Live.l9 p0 p1 p2 p3 p4 p5 p6 p7 =
  ifB (decide (p2 < p3))
   (bindD ((ixAt p7 p1)) fun t413 =>
   bindD ((ixAt p7 p1)) fun t414 =>
   ifB (!t414)
    (bindD ((ixAt p5 p1)) fun t415 =>
    bindD ((ixAt t415 p2)) fun t416 =>
    ifB (decide (t416 ≥ (0 : Int)))
     (bindD ((ixAt p7 t416)) fun t417 =>
     bindD ((ixAt p7 t416)) fun t418 =>
     ifB t418
      (bindD ((ixAt p7 p1)) fun t419 =>
      bindD ((ixAt p7 p1)) fun t420 =>
      ancepsref06_Live.l9 true p1 (Go.IntKind.wrap Go.IntKind.i64 (p2 + (1 : Int))) p3 p4 p5 p6 (setRow p7 p1 true))
     (ancepsref06_Live.l9 p0 p1 (Go.IntKind.wrap Go.IntKind.i64 (p2 + (1 : Int))) p3 p4 p5 p6 p7))
    (ancepsref06_Live.l9 p0 p1 (Go.IntKind.wrap Go.IntKind.i64 (p2 + (1 : Int))) p3 p4 p5 p6 p7))
   (ancepsref06_Live.l6 p0 (Go.IntKind.wrap Go.IntKind.i64 (p1 + (1 : Int))) p3 p4 p5 p6 p7))
  (ancepsref06_Live.l6 p0 (Go.IntKind.wrap Go.IntKind.i64 (p1 + (1 : Int))) p3 p4 p5 p6 p7) := (loopAt_step Go.Proofs.C06.ctx 77 9 _).trans (by kernel_rfl)
theorem ancepsref06_classes.l19_eq (p0 : Int) (p1 : Int) (p2 : Int) (p3 : Int) (p4 : Int) (p5 : (List (List Int))) (p6 : (List Bool)) (p7 : (List Bool)) (p8 : (List Int)) (p9 : (List Int)) (p10 : (List (List Int))) (p11 : (List Int)) : ancepsref06_classes.l19 p0 p1 p2 p3 p4 p5 p6 p7 p8 p9 p10 p11 =
  ifB (decide (p2 < p3))
   (bindD ((ixAt p5 p1)) fun t421 =>
   bindD ((ixAt t421 p2)) fun t422 =>
   ifB (decide (t422 ≥ (0 : Int)))
    (bindD ((ixAt p5 p1)) fun t423 =>
    bindD ((ixAt t423 p2)) fun t424 =>
    bindD ((ixAt p8 t424)) fun t425 =>
    bindD ((ixAt p8 t424)) fun t426 =>
    bindD ((Go.Proofs.R.grow ((List.length p11) + (List.length (t426 :: ([] : (List Int))))))) fun t427 =>
    ancepsref06_classes.l19 p0 p1 (Go.IntKind.wrap Go.IntKind.i64 (p2 + (1 : Int))) p3 p4 p5 p6 p7 p8 p9 p10 (p11 ++ (t426 :: ([] : (List Int)))))
   (bindD ((Go.Proofs.R.grow ((List.length p11) + (List.length ((0 : Int) :: ([] : (List Int))))))) fun t428 =>
    ancepsref06_classes.l19 p0 p1 (Go.IntKind.wrap Go.IntKind.i64 (p2 + (1 : Int))) p3 p4 p5 p6 p7 p8 p9 p10 (p11 ++ ((0 : Int) :: ([] : (List Int))))))
  (bindD (ancepsref06_index.f p10 p11) fun t429 =>
   ifB (decide (t429.1 < (0 : Int)))
    (bindD ((Go.Proofs.R.grow ((List.length p10) + (List.length (p11 :: ([] : (List (List Int)))))))) fun t430 =>
    bindD ((ixAt p9 p1)) fun t431 =>
    bindD ((ixAt p9 p1)) fun t432 =>
    ancepsref06_classes.l14 p0 (Go.IntKind.wrap Go.IntKind.i64 (p1 + (1 : Int))) p3 p4 p5 p6 p7 p8 (setRow p9 p1 (Go.IntKind.wrap Go.IntKind.i64 ((Go.IntKind.wrap Go.IntKind.i64 ((((List.length (p10 ++ (p11 :: ([] : (List (List Int)))))) : Nat) : Int) - (1 : Int))) + (1 : Int)))) (p10 ++ (p11 :: ([] : (List (List Int))))))
   (bindD ((ixAt p9 p1)) fun t433 =>
    bindD ((ixAt p9 p1)) fun t434 =>
    ancepsref06_classes.l14 p0 (Go.IntKind.wrap Go.IntKind.i64 (p1 + (1 : Int))) p3 p4 p5 p6 p7 p8 (setRow p9 p1 (Go.IntKind.wrap Go.IntKind.i64 (t429.1 + (1 : Int)))) p10)) := (loopAt_step Go.Proofs.C06.ctx 68 19 _).trans (by kernel_rfl)
theorem automaton_useful.l25_eq (p0 : (List Int)) (p1 : Int) (p2 : Int) (p3 : (List (List Int))) (p4 : (List Bool)) (p5 : (List Int)) : automaton_useful.l25 p0 p1 p2 p3 p4 p5 =
  ifB (decide (p2 < p1))
   (bindD ((ixAt p0 p2)) fun t435 =>
   bindD ((ixAt p4 t435)) fun t436 =>
   bindD ((ixAt p4 t435)) fun t437 =>
   ifB (!t437)
    (bindD ((ixAt p4 t435)) fun t438 =>
    bindD ((ixAt p4 t435)) fun t439 =>
    bindD ((Go.Proofs.R.grow ((List.length p5) + (List.length (t435 :: ([] : (List Int))))))) fun t440 =>
    automaton_useful.l25 p0 p1 (Go.IntKind.wrap Go.IntKind.i64 (p2 + (1 : Int))) p3 (setRow p4 t435 true) (p5 ++ (t435 :: ([] : (List Int)))))
   (automaton_useful.l25 p0 p1 (Go.IntKind.wrap Go.IntKind.i64 (p2 + (1 : Int))) p3 p4 p5))
  (automaton_useful.l21 p3 p4 p5) := (loopAt_step Go.Proofs.C06.ctx 76 25 _).trans (by kernel_rfl)
theorem ancepsref06_index.f_eq (p0 : (List (List Int))) (p1 : (List Int)) : ancepsref06_index.f p0 p1 =
  ancepsref06_index.l2 p0 p1 (0 : Int) := (Einf_call Go.Proofs.C06.ctx 78 _).trans (by kernel_rfl)
theorem ancepsref06_index.l2_eq (p0 : (List (List Int))) (p1 : (List Int)) (p2 : Int) : ancepsref06_index.l2 p0 p1 p2 =
  ifB (decide (p2 < (((List.length p0) : Nat) : Int)))
   (bindD ((ixAt p0 p2)) fun t441 =>
   bindD (ancepsref06_Equal.f t441 p1) fun t442 =>
   ifB t442.1
    (some (p2, ()))
   (ancepsref06_index.l2 p0 p1 (Go.IntKind.wrap Go.IntKind.i64 (p2 + (1 : Int)))))
  (some ((-(1 : Int)), ())) := (loopAt_step Go.Proofs.C06.ctx 78 2 _).trans (by kernel_rfl)
end Go.Proofs.C06
