/- C06B: what the row's functions are, as the evaluator tells them. No condition. -/
import Derived.Test.YtbbikmikiefcoaaC06
set_option linter.unusedVariables false
set_option linter.unusedSimpArgs false
set_option maxRecDepth 100000
set_option linter.unusedVariables false
namespace Go.Proofs.C06
open Go Go.Proofs.R
noncomputable def ancepslaw06_AutomatonRuns.f (p0 : Int) (p1 : Int) (p2 : (List (List Int))) (p3 : (List Bool)) (p4 : (List Int)) : Option (Bool × Unit) := (Go.Proofs.R.Einf Go.Proofs.C06.ctx).call 4 [(.agg [(.v (.int .i64) p0), (.v (.int .i64) p1), (.v (.sl (.sl (.int .i64))) p2), (.v (.sl .bool) p3)]), (.one (.v (.sl (.int .i64)) p4))]
noncomputable def ancepslaw06_AutomatonShortest.f (p0 : Int) (p1 : Int) (p2 : (List (List Int))) (p3 : (List Bool)) : Option (Bool × Unit) := (Go.Proofs.R.Einf Go.Proofs.C06.ctx).call 7 [(.agg [(.v (.int .i64) p0), (.v (.int .i64) p1), (.v (.sl (.sl (.int .i64))) p2), (.v (.sl .bool) p3)])]
noncomputable def ancepslaw06_AutomatonMinimal.f (p0 : Int) (p1 : Int) (p2 : (List (List Int))) (p3 : (List Bool)) (p4 : (List Int)) : Option (Bool × Unit) := (Go.Proofs.R.Einf Go.Proofs.C06.ctx).call 5 [(.agg [(.v (.int .i64) p0), (.v (.int .i64) p1), (.v (.sl (.sl (.int .i64))) p2), (.v (.sl .bool) p3)]), (.one (.v (.sl (.int .i64)) p4))]
noncomputable def ancepslaw06_AutomatonProduct.f (p0 : Int) (p1 : Int) (p2 : (List (List Int))) (p3 : (List Bool)) (p4 : Int) (p5 : Int) (p6 : (List (List Int))) (p7 : (List Bool)) (p8 : Int) (p9 : (List Int)) : Option (Bool × Unit) := (Go.Proofs.R.Einf Go.Proofs.C06.ctx).call 6 [(.agg [(.v (.int .i64) p0), (.v (.int .i64) p1), (.v (.sl (.sl (.int .i64))) p2), (.v (.sl .bool) p3), (.v (.int .i64) p4), (.v (.int .i64) p5), (.v (.sl (.sl (.int .i64))) p6), (.v (.sl .bool) p7), (.v (.int .i64) p8), (.v (.sl (.int .i64)) p9)])]
noncomputable def ancepslaw06_AutomatonSame.f (p0 : Int) (p1 : Int) (p2 : (List (List Int))) (p3 : (List Bool)) (p4 : Int) (p5 : Int) (p6 : (List (List Int))) (p7 : (List Bool)) : Option (Bool × Unit) := (Go.Proofs.R.Einf Go.Proofs.C06.ctx).call 8 [(.agg [(.v (.int .i64) p0), (.v (.int .i64) p1), (.v (.sl (.sl (.int .i64))) p2), (.v (.sl .bool) p3)]), (.agg [(.v (.int .i64) p4), (.v (.int .i64) p5), (.v (.sl (.sl (.int .i64))) p6), (.v (.sl .bool) p7)])]
noncomputable def ancepslaw06_AutomatonParts.f (p0 : Int) (p1 : (List Int)) (p2 : Int) (p3 : Int) (p4 : (List Int)) (p5 : Int) (p6 : Int) : Option (Bool × Unit) := (Go.Proofs.R.Einf Go.Proofs.C06.ctx).call 3 [(.agg [(.v (.int .u8) p0), (.v (.sl (.int .u8)) p1), (.v (.int .u16) p2)]), (.agg [(.v (.int .u8) p3), (.v (.sl (.int .u8)) p4), (.v (.int .u16) p5)]), (.one (.v (.int .u8) p6))]
noncomputable def ancepslaw06_AutomatonChecks.f (p0 : Int) (p1 : Int) (p2 : (List (List Int))) (p3 : (List Bool)) (p4 : Int) (p5 : Int) (p6 : (List (List Int))) (p7 : (List Bool)) (p8 : (List (Int × Int))) : Option (Bool × Unit) := (Go.Proofs.R.Einf Go.Proofs.C06.ctx).call 9 [(.agg [(.v (.int .i64) p0), (.v (.int .i64) p1), (.v (.sl (.sl (.int .i64))) p2), (.v (.sl .bool) p3)]), (.agg [(.v (.int .i64) p4), (.v (.int .i64) p5), (.v (.sl (.sl (.int .i64))) p6), (.v (.sl .bool) p7)]), (.one (.v (.sl (.pair (.int .i64) (.int .i64))) p8))]
noncomputable def ancepslaw06_awake.f : Option (Bool × Unit) := (Go.Proofs.R.Einf Go.Proofs.C06.ctx).call 12 []
noncomputable def ancepsref06_Few.f (p0 : Int) (p1 : Int) (p2 : (List (List Int))) (p3 : (List Bool)) : Option (Bool × Unit) := (Go.Proofs.R.Einf Go.Proofs.C06.ctx).call 17 [(.agg [(.v (.int .i64) p0), (.v (.int .i64) p1), (.v (.sl (.sl (.int .i64))) p2), (.v (.sl .bool) p3)])]
noncomputable def ancepslaw06_copied.f (p0 : Int) (p1 : Int) (p2 : (List (List Int))) (p3 : (List Bool)) : Option (Int × (Int × ((List (List Int)) × ((List Bool) × Unit)))) := (Go.Proofs.R.Einf Go.Proofs.C06.ctx).call 19 [(.agg [(.v (.int .i64) p0), (.v (.int .i64) p1), (.v (.sl (.sl (.int .i64))) p2), (.v (.sl .bool) p3)])]
noncomputable def automaton_Valid.f (p0 : Int) (p1 : Int) (p2 : (List (List Int))) (p3 : (List Bool)) : Option (Int × Unit) := (Go.Proofs.R.Einf Go.Proofs.C06.ctx).call 18 [(.agg [(.v (.int .i64) p0), (.v (.int .i64) p1), (.v (.sl (.sl (.int .i64))) p2), (.v (.sl .bool) p3)])]
noncomputable def ancepsref06_Valid.f (p0 : Int) (p1 : Int) (p2 : (List (List Int))) (p3 : (List Bool)) : Option (Int × Unit) := (Go.Proofs.R.Einf Go.Proofs.C06.ctx).call 20 [(.agg [(.v (.int .i64) p0), (.v (.int .i64) p1), (.v (.sl (.sl (.int .i64))) p2), (.v (.sl .bool) p3)])]
noncomputable def slices_Clone_int_int.f (p0 : (List Int)) : Option ((List Int) × Unit) := (Go.Proofs.R.Einf Go.Proofs.C06.ctx).call 22 [(.one (.v (.sl (.int .i64)) p0))]
noncomputable def automaton_Run.f (p0 : Int) (p1 : Int) (p2 : (List (List Int))) (p3 : (List Bool)) (p4 : (List Int)) : Option (Int × Unit) := (Go.Proofs.R.Einf Go.Proofs.C06.ctx).call 21 [(.agg [(.v (.int .i64) p0), (.v (.int .i64) p1), (.v (.sl (.sl (.int .i64))) p2), (.v (.sl .bool) p3)]), (.one (.v (.sl (.int .i64)) p4))]
noncomputable def ancepsref06_Run.f (p0 : Int) (p1 : Int) (p2 : (List (List Int))) (p3 : (List Bool)) (p4 : (List Int)) : Option (Int × Unit) := (Go.Proofs.R.Einf Go.Proofs.C06.ctx).call 23 [(.agg [(.v (.int .i64) p0), (.v (.int .i64) p1), (.v (.sl (.sl (.int .i64))) p2), (.v (.sl .bool) p3)]), (.one (.v (.sl (.int .i64)) p4))]
noncomputable def automaton_Accepts.f (p0 : Int) (p1 : Int) (p2 : (List (List Int))) (p3 : (List Bool)) (p4 : (List Int)) : Option (Bool × Unit) := (Go.Proofs.R.Einf Go.Proofs.C06.ctx).call 24 [(.agg [(.v (.int .i64) p0), (.v (.int .i64) p1), (.v (.sl (.sl (.int .i64))) p2), (.v (.sl .bool) p3)]), (.one (.v (.sl (.int .i64)) p4))]
noncomputable def ancepsref06_Accepts.f (p0 : Int) (p1 : Int) (p2 : (List (List Int))) (p3 : (List Bool)) (p4 : (List Int)) : Option (Bool × Unit) := (Go.Proofs.R.Einf Go.Proofs.C06.ctx).call 25 [(.agg [(.v (.int .i64) p0), (.v (.int .i64) p1), (.v (.sl (.sl (.int .i64))) p2), (.v (.sl .bool) p3)]), (.one (.v (.sl (.int .i64)) p4))]
noncomputable def automaton_Shortest.f (p0 : Int) (p1 : Int) (p2 : (List (List Int))) (p3 : (List Bool)) : Option ((List Int) × (Int × Unit)) := (Go.Proofs.R.Einf Go.Proofs.C06.ctx).call 29 [(.agg [(.v (.int .i64) p0), (.v (.int .i64) p1), (.v (.sl (.sl (.int .i64))) p2), (.v (.sl .bool) p3)])]
noncomputable def ancepsref06_Shortest.f (p0 : Int) (p1 : Int) (p2 : (List (List Int))) (p3 : (List Bool)) : Option ((List Int) × (Int × Unit)) := (Go.Proofs.R.Einf Go.Proofs.C06.ctx).call 30 [(.agg [(.v (.int .i64) p0), (.v (.int .i64) p1), (.v (.sl (.sl (.int .i64))) p2), (.v (.sl .bool) p3)])]
noncomputable def slices_Equal_int_int.f (p0 : (List Int)) (p1 : (List Int)) : Option (Bool × Unit) := (Go.Proofs.R.Einf Go.Proofs.C06.ctx).call 31 [(.one (.v (.sl (.int .i64)) p0)), (.one (.v (.sl (.int .i64)) p1))]
noncomputable def ancepslaw06_AutomatonShortest.l10 (p0 : Int) (p1 : Int) (p2 : Int) (p3 : (List (List Int))) (p4 : (List Bool)) (p5 : (List Int)) : Option (Bool × Unit) := Go.Proofs.R.loopAt Go.Proofs.C06.ctx (Go.Proofs.R.Einf Go.Proofs.C06.ctx) 7 10 (.mk [(1, (.one (.ref 7 0))), (3, (.one (.row 15))), (7, (.one (.v (.int .i64) p0)))] [(7, (.box 29 [(.v (.int .i64) p1), (.v (.int .i64) p2), (.v (.sl (.sl (.int .i64))) p3), (.v (.sl .bool) p4)])), (15, (.row 3 (.int .i64) p5 false))])
noncomputable def automaton_Minimal.f (p0 : Int) (p1 : Int) (p2 : (List (List Int))) (p3 : (List Bool)) : Option (Int × (Int × ((List (List Int)) × ((List Bool) × (Int × Unit))))) := (Go.Proofs.R.Einf Go.Proofs.C06.ctx).call 15 [(.agg [(.v (.int .i64) p0), (.v (.int .i64) p1), (.v (.sl (.sl (.int .i64))) p2), (.v (.sl .bool) p3)])]
noncomputable def ancepsref06_Minimal.f (p0 : Int) (p1 : Int) (p2 : (List (List Int))) (p3 : (List Bool)) : Option (Int × (Int × ((List (List Int)) × ((List Bool) × (Int × Unit))))) := (Go.Proofs.R.Einf Go.Proofs.C06.ctx).call 26 [(.agg [(.v (.int .i64) p0), (.v (.int .i64) p1), (.v (.sl (.sl (.int .i64))) p2), (.v (.sl .bool) p3)])]
noncomputable def ancepsref06_SameDFA.f (p0 : Int) (p1 : Int) (p2 : (List (List Int))) (p3 : (List Bool)) (p4 : Int) (p5 : Int) (p6 : (List (List Int))) (p7 : (List Bool)) : Option (Bool × Unit) := (Go.Proofs.R.Einf Go.Proofs.C06.ctx).call 14 [(.agg [(.v (.int .i64) p0), (.v (.int .i64) p1), (.v (.sl (.sl (.int .i64))) p2), (.v (.sl .bool) p3)]), (.agg [(.v (.int .i64) p4), (.v (.int .i64) p5), (.v (.sl (.sl (.int .i64))) p6), (.v (.sl .bool) p7)])]
noncomputable def ancepslaw06_small.f (p0 : Int) (p1 : Int) (p2 : (List (List Int))) (p3 : (List Bool)) (p4 : Int) (p5 : Int) (p6 : (List (List Int))) (p7 : (List Bool)) : Option (Bool × Unit) := (Go.Proofs.R.Einf Go.Proofs.C06.ctx).call 27 [(.agg [(.v (.int .i64) p0), (.v (.int .i64) p1), (.v (.sl (.sl (.int .i64))) p2), (.v (.sl .bool) p3)]), (.agg [(.v (.int .i64) p4), (.v (.int .i64) p5), (.v (.sl (.sl (.int .i64))) p6), (.v (.sl .bool) p7)])]
noncomputable def automaton_Product.f (p0 : Int) (p1 : Int) (p2 : (List (List Int))) (p3 : (List Bool)) (p4 : Int) (p5 : Int) (p6 : (List (List Int))) (p7 : (List Bool)) (p8 : Int) : Option (Int × (Int × ((List (List Int)) × ((List Bool) × (Int × Unit))))) := (Go.Proofs.R.Einf Go.Proofs.C06.ctx).call 13 [(.agg [(.v (.int .i64) p0), (.v (.int .i64) p1), (.v (.sl (.sl (.int .i64))) p2), (.v (.sl .bool) p3)]), (.agg [(.v (.int .i64) p4), (.v (.int .i64) p5), (.v (.sl (.sl (.int .i64))) p6), (.v (.sl .bool) p7)]), (.one (.v (.int .i64) p8))]
noncomputable def ancepsref06_Product.f (p0 : Int) (p1 : Int) (p2 : (List (List Int))) (p3 : (List Bool)) (p4 : Int) (p5 : Int) (p6 : (List (List Int))) (p7 : (List Bool)) (p8 : Int) : Option (Int × (Int × ((List (List Int)) × ((List Bool) × (Int × Unit))))) := (Go.Proofs.R.Einf Go.Proofs.C06.ctx).call 28 [(.agg [(.v (.int .i64) p0), (.v (.int .i64) p1), (.v (.sl (.sl (.int .i64))) p2), (.v (.sl .bool) p3)]), (.agg [(.v (.int .i64) p4), (.v (.int .i64) p5), (.v (.sl (.sl (.int .i64))) p6), (.v (.sl .bool) p7)]), (.one (.v (.int .i64) p8))]
noncomputable def automaton_Same.f (p0 : Int) (p1 : Int) (p2 : (List (List Int))) (p3 : (List Bool)) (p4 : Int) (p5 : Int) (p6 : (List (List Int))) (p7 : (List Bool)) : Option (Bool × (Int × Unit)) := (Go.Proofs.R.Einf Go.Proofs.C06.ctx).call 32 [(.agg [(.v (.int .i64) p0), (.v (.int .i64) p1), (.v (.sl (.sl (.int .i64))) p2), (.v (.sl .bool) p3)]), (.agg [(.v (.int .i64) p4), (.v (.int .i64) p5), (.v (.sl (.sl (.int .i64))) p6), (.v (.sl .bool) p7)])]
noncomputable def ancepsref06_Same.f (p0 : Int) (p1 : Int) (p2 : (List (List Int))) (p3 : (List Bool)) (p4 : Int) (p5 : Int) (p6 : (List (List Int))) (p7 : (List Bool)) : Option (Bool × (Int × Unit)) := (Go.Proofs.R.Einf Go.Proofs.C06.ctx).call 33 [(.agg [(.v (.int .i64) p0), (.v (.int .i64) p1), (.v (.sl (.sl (.int .i64))) p2), (.v (.sl .bool) p3)]), (.agg [(.v (.int .i64) p4), (.v (.int .i64) p5), (.v (.sl (.sl (.int .i64))) p6), (.v (.sl .bool) p7)])]
noncomputable def automaton_Difference.f (p0 : Int) (p1 : Int) (p2 : (List (List Int))) (p3 : (List Bool)) (p4 : Int) (p5 : Int) (p6 : (List (List Int))) (p7 : (List Bool)) : Option ((List Int) × (Int × Unit)) := (Go.Proofs.R.Einf Go.Proofs.C06.ctx).call 34 [(.agg [(.v (.int .i64) p0), (.v (.int .i64) p1), (.v (.sl (.sl (.int .i64))) p2), (.v (.sl .bool) p3)]), (.agg [(.v (.int .i64) p4), (.v (.int .i64) p5), (.v (.sl (.sl (.int .i64))) p6), (.v (.sl .bool) p7)])]
noncomputable def ancepsref06_Difference.f (p0 : Int) (p1 : Int) (p2 : (List (List Int))) (p3 : (List Bool)) (p4 : Int) (p5 : Int) (p6 : (List (List Int))) (p7 : (List Bool)) : Option ((List Int) × (Int × Unit)) := (Go.Proofs.R.Einf Go.Proofs.C06.ctx).call 35 [(.agg [(.v (.int .i64) p0), (.v (.int .i64) p1), (.v (.sl (.sl (.int .i64))) p2), (.v (.sl .bool) p3)]), (.agg [(.v (.int .i64) p4), (.v (.int .i64) p5), (.v (.sl (.sl (.int .i64))) p6), (.v (.sl .bool) p7)])]
noncomputable def ancepsref06_Made.f (p0 : Int) (p1 : (List Int)) (p2 : Int) : Option (Int × (Int × ((List (List Int)) × ((List Bool) × Unit)))) := (Go.Proofs.R.Einf Go.Proofs.C06.ctx).call 11 [(.agg [(.v (.int .u8) p0), (.v (.sl (.int .u8)) p1), (.v (.int .u16) p2)])]
noncomputable def automaton_Count.f (p0 : Int) (p1 : Int) (p2 : (List (List Int))) (p3 : (List Bool)) (p4 : Int) : Option (Int × (Int × Unit)) := (Go.Proofs.R.Einf Go.Proofs.C06.ctx).call 16 [(.agg [(.v (.int .i64) p0), (.v (.int .i64) p1), (.v (.sl (.sl (.int .i64))) p2), (.v (.sl .bool) p3)]), (.one (.v (.int .i64) p4))]
noncomputable def api_Pair.f (p0 : (List (Int × Int))) : Option ((List (Int × Int)) × Unit) := (Go.Proofs.R.Einf Go.Proofs.C06.ctx).call 37 [(.one (.v (.sl (.pair (.int .i64) (.int .i64))) p0))]
noncomputable def automaton_CheckRelation.f (p0 : Int) (p1 : Int) (p2 : (List (List Int))) (p3 : (List Bool)) (p4 : Int) (p5 : Int) (p6 : (List (List Int))) (p7 : (List Bool)) (p8 : (List (Int × Int))) : Option (Bool × Unit) := (Go.Proofs.R.Einf Go.Proofs.C06.ctx).call 36 [(.agg [(.v (.int .i64) p0), (.v (.int .i64) p1), (.v (.sl (.sl (.int .i64))) p2), (.v (.sl .bool) p3)]), (.agg [(.v (.int .i64) p4), (.v (.int .i64) p5), (.v (.sl (.sl (.int .i64))) p6), (.v (.sl .bool) p7)]), (.one (.v (.sl (.pair (.int .i64) (.int .i64))) p8))]
noncomputable def ancepsref06_CheckRelation.f (p0 : Int) (p1 : Int) (p2 : (List (List Int))) (p3 : (List Bool)) (p4 : Int) (p5 : Int) (p6 : (List (List Int))) (p7 : (List Bool)) (p8 : (List (Int × Int))) : Option (Bool × Unit) := (Go.Proofs.R.Einf Go.Proofs.C06.ctx).call 38 [(.agg [(.v (.int .i64) p0), (.v (.int .i64) p1), (.v (.sl (.sl (.int .i64))) p2), (.v (.sl .bool) p3)]), (.agg [(.v (.int .i64) p4), (.v (.int .i64) p5), (.v (.sl (.sl (.int .i64))) p6), (.v (.sl .bool) p7)]), (.one (.v (.sl (.pair (.int .i64) (.int .i64))) p8))]
noncomputable def ancepsref06_Few.l5 (p0 : Int) (p1 : Int) (p2 : Int) (p3 : Int) (p4 : (List (List Int))) (p5 : (List Bool)) : Option (Bool × Unit) := Go.Proofs.R.loopAt Go.Proofs.C06.ctx (Go.Proofs.R.Einf Go.Proofs.C06.ctx) 17 5 (.mk [(1, (.one (.ref 7 0))), (3, (.one (.v (.int .i64) p0))), (4, (.one (.v (.int .i64) p1)))] [(7, (.box 29 [(.v (.int .i64) p2), (.v (.int .i64) p3), (.v (.sl (.sl (.int .i64))) p4), (.v (.sl .bool) p5)]))])
noncomputable def slices_Clone_bool_bool.f (p0 : (List Bool)) : Option ((List Bool) × Unit) := (Go.Proofs.R.Einf Go.Proofs.C06.ctx).call 50 [(.one (.v (.sl .bool) p0))]
noncomputable def ancepslaw06_copied.l3 (p0 : (List (List Int))) (p1 : Int) (p2 : Int) (p3 : Int) (p4 : Int) (p5 : Int) (p6 : Int) (p7 : (List (List Int))) (p8 : (List Bool)) (p9 : (List (List Int))) (p10 : (List Bool)) : Option (Int × (Int × ((List (List Int)) × ((List Bool) × Unit)))) := Go.Proofs.R.loopAt Go.Proofs.C06.ctx (Go.Proofs.R.Einf Go.Proofs.C06.ctx) 19 3 (.mk [(2, (.one (.ref 7 0))), (3, (.one (.ref 15 0))), (15, (.one (.v (.sl (.sl (.int .i64))) p0))), (16, (.one (.v (.int .i64) p1))), (17, (.one (.v (.int .i64) p2)))] [(7, (.box 29 [(.v (.int .i64) p3), (.v (.int .i64) p4), (.row 23), (.row 31)])), (15, (.box 29 [(.v (.int .i64) p5), (.v (.int .i64) p6), (.row 39), (.row 47)])), (23, (.row 40 (.sl (.int .i64)) p7 false)), (31, (.row 4 .bool p8 false)), (39, (.row 40 (.sl (.int .i64)) p9 false)), (47, (.row 4 .bool p10 false))])
noncomputable def automaton_Valid.l7 (p0 : (List (List Int))) (p1 : Int) (p2 : Int) (p3 : Int) (p4 : Int) (p5 : (List (List Int))) (p6 : (List Bool)) (p7 : Int) : Option (Int × Unit) := Go.Proofs.R.loopAt Go.Proofs.C06.ctx (Go.Proofs.R.Einf Go.Proofs.C06.ctx) 18 7 (.mk [(1, (.one (.ref 7 0))), (3, (.one (.ref 15 0))), (47, (.one (.v (.sl (.sl (.int .i64))) p0))), (48, (.one (.v (.int .i64) p1))), (49, (.one (.v (.int .i64) p2)))] [(7, (.box 29 [(.v (.int .i64) p3), (.v (.int .i64) p4), (.v (.sl (.sl (.int .i64))) p5), (.v (.sl .bool) p6)])), (15, (.box 3 [(.v (.int .i64) p7)]))])
noncomputable def ancepsref06_Valid.l7 (p0 : Int) (p1 : Int) (p2 : Int) (p3 : Int) (p4 : (List (List Int))) (p5 : (List Bool)) : Option (Int × Unit) := Go.Proofs.R.loopAt Go.Proofs.C06.ctx (Go.Proofs.R.Einf Go.Proofs.C06.ctx) 20 7 (.mk [(1, (.one (.ref 7 0))), (3, (.one (.v (.int .i64) p0))), (4, (.one (.v (.int .i64) p1)))] [(7, (.box 29 [(.v (.int .i64) p2), (.v (.int .i64) p3), (.v (.sl (.sl (.int .i64))) p4), (.v (.sl .bool) p5)]))])
noncomputable def automaton_Run.l5 (p0 : Int) (p1 : (List Int)) (p2 : Int) (p3 : Int) (p4 : Int) (p5 : Int) (p6 : (List (List Int))) (p7 : (List Bool)) : Option (Int × Unit) := Go.Proofs.R.loopAt Go.Proofs.C06.ctx (Go.Proofs.R.Einf Go.Proofs.C06.ctx) 21 5 (.mk [(2, (.one (.ref 7 0))), (5, (.one (.v (.int .i64) p0))), (13, (.one (.v (.sl (.int .i64)) p1))), (14, (.one (.v (.int .i64) p2))), (15, (.one (.v (.int .i64) p3)))] [(7, (.box 29 [(.v (.int .i64) p4), (.v (.int .i64) p5), (.v (.sl (.sl (.int .i64))) p6), (.v (.sl .bool) p7)]))])
noncomputable def ancepsref06_From.f (p0 : Int) (p1 : Int) (p2 : (List (List Int))) (p3 : (List Bool)) (p4 : Int) (p5 : (List Int)) : Option (Int × Unit) := (Go.Proofs.R.Einf Go.Proofs.C06.ctx).call 51 [(.agg [(.v (.int .i64) p0), (.v (.int .i64) p1), (.v (.sl (.sl (.int .i64))) p2), (.v (.sl .bool) p3)]), (.one (.v (.int .i64) p4)), (.one (.v (.sl (.int .i64)) p5))]
noncomputable def automaton_ends.f (p0 : Int) (p1 : Int) (p2 : (List (List Int))) (p3 : (List Bool)) (p4 : Int) : Option (Bool × Unit) := (Go.Proofs.R.Einf Go.Proofs.C06.ctx).call 45 [(.agg [(.v (.int .i64) p0), (.v (.int .i64) p1), (.v (.sl (.sl (.int .i64))) p2), (.v (.sl .bool) p3)]), (.one (.v (.int .i64) p4))]
noncomputable def slices_Equal_int_int.l4 (p0 : (List Int)) (p1 : (List Int)) (p2 : Int) (p3 : Int) : Option (Bool × Unit) := Go.Proofs.R.loopAt Go.Proofs.C06.ctx (Go.Proofs.R.Einf Go.Proofs.C06.ctx) 31 4 (.mk [(0, (.one (.v (.sl (.int .i64)) p0))), (1, (.one (.v (.sl (.int .i64)) p1))), (12, (.one (.v (.int .i64) p2))), (13, (.one (.v (.int .i64) p3)))] [])
noncomputable def automaton_minimal.f (p0 : Int) (p1 : Int) (p2 : (List (List Int))) (p3 : (List Bool)) : Option (Int × (Int × ((List (List Int)) × ((List Bool) × Unit)))) := (Go.Proofs.R.Einf Go.Proofs.C06.ctx).call 46 [(.agg [(.v (.int .i64) p0), (.v (.int .i64) p1), (.v (.sl (.sl (.int .i64))) p2), (.v (.sl .bool) p3)])]
noncomputable def ancepsref06_minimal.f (p0 : Int) (p1 : Int) (p2 : (List (List Int))) (p3 : (List Bool)) : Option (Int × (Int × ((List (List Int)) × ((List Bool) × Unit)))) := (Go.Proofs.R.Einf Go.Proofs.C06.ctx).call 52 [(.agg [(.v (.int .i64) p0), (.v (.int .i64) p1), (.v (.sl (.sl (.int .i64))) p2), (.v (.sl .bool) p3)])]
noncomputable def ancepsref06_SameDFA.l4 (p0 : Int) (p1 : Int) (p2 : Int) (p3 : (List (List Int))) (p4 : (List Bool)) (p5 : Int) (p6 : Int) (p7 : (List (List Int))) (p8 : (List Bool)) : Option (Bool × Unit) := Go.Proofs.R.loopAt Go.Proofs.C06.ctx (Go.Proofs.R.Einf Go.Proofs.C06.ctx) 14 4 (.mk [(2, (.one (.ref 7 0))), (3, (.one (.ref 15 0))), (5, (.one (.v (.int .i64) p0)))] [(7, (.box 29 [(.v (.int .i64) p1), (.v (.int .i64) p2), (.v (.sl (.sl (.int .i64))) p3), (.v (.sl .bool) p4)])), (15, (.box 29 [(.v (.int .i64) p5), (.v (.int .i64) p6), (.v (.sl (.sl (.int .i64))) p7), (.v (.sl .bool) p8)]))])
noncomputable def automaton_both.f (p0 : Int) (p1 : Int) (p2 : (List (List Int))) (p3 : (List Bool)) (p4 : Int) (p5 : Int) (p6 : (List (List Int))) (p7 : (List Bool)) : Option (Int × Unit) := (Go.Proofs.R.Einf Go.Proofs.C06.ctx).call 42 [(.agg [(.v (.int .i64) p0), (.v (.int .i64) p1), (.v (.sl (.sl (.int .i64))) p2), (.v (.sl .bool) p3)]), (.agg [(.v (.int .i64) p4), (.v (.int .i64) p5), (.v (.sl (.sl (.int .i64))) p6), (.v (.sl .bool) p7)])]
noncomputable def automaton_visits.f (p0 : Int) (p1 : Int) (p2 : (List (List Int))) (p3 : (List Bool)) (p4 : Int) (p5 : Int) (p6 : (List (List Int))) (p7 : (List Bool)) : Option ((List ((Int × Int) × (Int × Int))) × Unit) := (Go.Proofs.R.Einf Go.Proofs.C06.ctx).call 43 [(.agg [(.v (.int .i64) p0), (.v (.int .i64) p1), (.v (.sl (.sl (.int .i64))) p2), (.v (.sl .bool) p3)]), (.agg [(.v (.int .i64) p4), (.v (.int .i64) p5), (.v (.sl (.sl (.int .i64))) p6), (.v (.sl .bool) p7)])]
noncomputable def automaton_Product.l9 (p0 : Int) (p1 : Int) (p2 : Int) (p3 : Int) (p4 : Int) (p5 : (List (List Int))) (p6 : (List Bool)) (p7 : Int) (p8 : Int) (p9 : (List (List Int))) (p10 : (List Bool)) (p11 : Int) (p12 : Int) (p13 : (List ((Int × Int) × (Int × Int)))) (p14 : (List ((Int × Int) × Int))) (p15 : (List (List Int))) (p16 : (List Bool)) : Option (Int × (Int × ((List (List Int)) × ((List Bool) × (Int × Unit))))) := Go.Proofs.R.loopAt Go.Proofs.C06.ctx (Go.Proofs.R.Einf Go.Proofs.C06.ctx) 13 9 (.mk [(2, (.one (.v (.int .i64) p0))), (3, (.one (.ref 7 0))), (4, (.one (.ref 15 0))), (6, (.one (.ref 23 0))), (9, (.one (.row 31))), (10, (.one (.mp 39))), (43, (.one (.row 31))), (44, (.one (.v (.int .i64) p1))), (45, (.one (.v (.int .i64) p2)))] [(7, (.box 29 [(.v (.int .i64) p3), (.v (.int .i64) p4), (.v (.sl (.sl (.int .i64))) p5), (.v (.sl .bool) p6)])), (15, (.box 29 [(.v (.int .i64) p7), (.v (.int .i64) p8), (.v (.sl (.sl (.int .i64))) p9), (.v (.sl .bool) p10)])), (23, (.box 29 [(.v (.int .i64) p11), (.v (.int .i64) p12), (.row 47), (.row 55)])), (31, (.row 69 (.pair (.pair (.int .i64) (.int .i64)) (.pair (.int .i64) (.int .i64))) p13 false)), (39, (.mp 60 3 (.pair (.int .i64) (.int .i64)) (.int .i64) p14)), (47, (.row 40 (.sl (.int .i64)) p15 false)), (55, (.row 4 .bool p16 false))])
noncomputable def ancepsref06_both.f (p0 : Int) (p1 : Int) (p2 : (List (List Int))) (p3 : (List Bool)) (p4 : Int) (p5 : Int) (p6 : (List (List Int))) (p7 : (List Bool)) : Option (Int × Unit) := (Go.Proofs.R.Einf Go.Proofs.C06.ctx).call 53 [(.agg [(.v (.int .i64) p0), (.v (.int .i64) p1), (.v (.sl (.sl (.int .i64))) p2), (.v (.sl .bool) p3)]), (.agg [(.v (.int .i64) p4), (.v (.int .i64) p5), (.v (.sl (.sl (.int .i64))) p6), (.v (.sl .bool) p7)])]
noncomputable def ancepsref06_walk.f (p0 : Int) (p1 : Int) (p2 : (List (List Int))) (p3 : (List Bool)) (p4 : Int) (p5 : Int) (p6 : (List (List Int))) (p7 : (List Bool)) : Option ((List ((Int × Int) × (Int × Int))) × Unit) := (Go.Proofs.R.Einf Go.Proofs.C06.ctx).call 54 [(.agg [(.v (.int .i64) p0), (.v (.int .i64) p1), (.v (.sl (.sl (.int .i64))) p2), (.v (.sl .bool) p3)]), (.agg [(.v (.int .i64) p4), (.v (.int .i64) p5), (.v (.sl (.sl (.int .i64))) p6), (.v (.sl .bool) p7)])]
noncomputable def ancepsref06_Product.l9 (p0 : Int) (p1 : Int) (p2 : Int) (p3 : Int) (p4 : (List (List Int))) (p5 : (List Bool)) (p6 : Int) (p7 : Int) (p8 : (List (List Int))) (p9 : (List Bool)) (p10 : Int) (p11 : Int) (p12 : (List ((Int × Int) × (Int × Int)))) (p13 : (List ((Int × Int) × Int))) (p14 : (List (List Int))) (p15 : (List Bool)) : Option (Int × (Int × ((List (List Int)) × ((List Bool) × (Int × Unit))))) := Go.Proofs.R.loopAt Go.Proofs.C06.ctx (Go.Proofs.R.Einf Go.Proofs.C06.ctx) 28 9 (.mk [(2, (.one (.v (.int .i64) p0))), (3, (.one (.ref 7 0))), (4, (.one (.ref 15 0))), (6, (.one (.ref 23 0))), (9, (.one (.row 31))), (10, (.one (.mp 39))), (11, (.one (.v (.int .i64) p1)))] [(7, (.box 29 [(.v (.int .i64) p2), (.v (.int .i64) p3), (.v (.sl (.sl (.int .i64))) p4), (.v (.sl .bool) p5)])), (15, (.box 29 [(.v (.int .i64) p6), (.v (.int .i64) p7), (.v (.sl (.sl (.int .i64))) p8), (.v (.sl .bool) p9)])), (23, (.box 29 [(.v (.int .i64) p10), (.v (.int .i64) p11), (.row 47), (.row 55)])), (31, (.row 81 (.pair (.pair (.int .i64) (.int .i64)) (.pair (.int .i64) (.int .i64))) p12 false)), (39, (.mp 60 3 (.pair (.int .i64) (.int .i64)) (.int .i64) p13)), (47, (.row 40 (.sl (.int .i64)) p14 false)), (55, (.row 4 .bool p15 false))])
noncomputable def automaton_differ.f (p0 : Int) (p1 : Int) (p2 : (List (List Int))) (p3 : (List Bool)) (p4 : Int) (p5 : Int) (p6 : (List (List Int))) (p7 : (List Bool)) (p8 : (List ((Int × Int) × (Int × Int)))) : Option (Int × Unit) := (Go.Proofs.R.Einf Go.Proofs.C06.ctx).call 58 [(.agg [(.v (.int .i64) p0), (.v (.int .i64) p1), (.v (.sl (.sl (.int .i64))) p2), (.v (.sl .bool) p3)]), (.agg [(.v (.int .i64) p4), (.v (.int .i64) p5), (.v (.sl (.sl (.int .i64))) p6), (.v (.sl .bool) p7)]), (.one (.v (.sl (.pair (.pair (.int .i64) (.int .i64)) (.pair (.int .i64) (.int .i64)))) p8))]
noncomputable def automaton_word.f (p0 : (List ((Int × Int) × (Int × Int)))) (p1 : Int) : Option ((List Int) × Unit) := (Go.Proofs.R.Einf Go.Proofs.C06.ctx).call 59 [(.one (.v (.sl (.pair (.pair (.int .i64) (.int .i64)) (.pair (.int .i64) (.int .i64)))) p0)), (.one (.v (.int .i64) p1))]
noncomputable def ancepsref06_Difference.l6 (p0 : Int) (p1 : Int) (p2 : Int) (p3 : (List (List Int))) (p4 : (List Bool)) (p5 : Int) (p6 : Int) (p7 : (List (List Int))) (p8 : (List Bool)) (p9 : (List ((Int × Int) × (Int × Int)))) : Option ((List Int) × (Int × Unit)) := Go.Proofs.R.loopAt Go.Proofs.C06.ctx (Go.Proofs.R.Einf Go.Proofs.C06.ctx) 35 6 (.mk [(2, (.one (.ref 7 0))), (3, (.one (.ref 15 0))), (7, (.one (.row 23))), (8, (.one (.v (.int .i64) p0)))] [(7, (.box 29 [(.v (.int .i64) p1), (.v (.int .i64) p2), (.v (.sl (.sl (.int .i64))) p3), (.v (.sl .bool) p4)])), (15, (.box 29 [(.v (.int .i64) p5), (.v (.int .i64) p6), (.v (.sl (.sl (.int .i64))) p7), (.v (.sl .bool) p8)])), (23, (.row 81 (.pair (.pair (.int .i64) (.int .i64)) (.pair (.int .i64) (.int .i64))) p9 false))])
noncomputable def ancepsref06_Made.l4 (p0 : Int) (p1 : Int) (p2 : Int) (p3 : (List Int)) (p4 : Int) (p5 : Int) (p6 : Int) (p7 : Int) (p8 : Int) (p9 : (List (List Int))) (p10 : (List Bool)) (p11 : (List (List Int))) (p12 : (List Bool)) : Option (Int × (Int × ((List (List Int)) × ((List Bool) × Unit)))) := Go.Proofs.R.loopAt Go.Proofs.C06.ctx (Go.Proofs.R.Einf Go.Proofs.C06.ctx) 11 4 (.mk [(1, (.one (.ref 7 0))), (2, (.one (.ref 15 0))), (3, (.one (.ref 23 0))), (4, (.one (.v (.int .i64) p0))), (5, (.one (.v (.int .i64) p1)))] [(7, (.box 25 [(.v (.int .u8) p2), (.v (.sl (.int .u8)) p3), (.v (.int .u16) p4)])), (15, (.box 29 [(.v (.int .i64) p5), (.v (.int .i64) p6), (.row 31), (.row 39)])), (23, (.box 29 [(.v (.int .i64) p7), (.v (.int .i64) p8), (.row 47), (.row 55)])), (31, (.row 40 (.sl (.int .i64)) p9 false)), (39, (.row 4 .bool p10 false)), (47, (.row 40 (.sl (.int .i64)) p11 false)), (55, (.row 4 .bool p12 false))])
noncomputable def automaton_Count.l10 (p0 : Int) (p1 : (List Bool)) (p2 : Int) (p3 : Int) (p4 : Int) (p5 : Int) (p6 : (List (List Int))) (p7 : (List Bool)) (p8 : (List Int)) : Option (Int × (Int × Unit)) := Go.Proofs.R.loopAt Go.Proofs.C06.ctx (Go.Proofs.R.Einf Go.Proofs.C06.ctx) 16 10 (.mk [(1, (.one (.v (.int .i64) p0))), (2, (.one (.ref 7 0))), (7, (.one (.row 15))), (34, (.one (.v (.sl .bool) p1))), (35, (.one (.v (.int .i64) p2))), (36, (.one (.v (.int .i64) p3)))] [(7, (.box 29 [(.v (.int .i64) p4), (.v (.int .i64) p5), (.v (.sl (.sl (.int .i64))) p6), (.v (.sl .bool) p7)])), (15, (.row 73 (.int .u64) p8 false))])
noncomputable def automaton_CheckRelation.l6 (p0 : (List (Int × Int))) (p1 : Int) (p2 : Int) (p3 : Int) (p4 : Int) (p5 : (List (List Int))) (p6 : (List Bool)) (p7 : Int) (p8 : Int) (p9 : (List (List Int))) (p10 : (List Bool)) (p11 : (List (Int × Int))) (p12 : Int) (p13 : Int) : Option (Bool × Unit) := Go.Proofs.R.loopAt Go.Proofs.C06.ctx (Go.Proofs.R.Einf Go.Proofs.C06.ctx) 36 6 (.mk [(3, (.one (.ref 7 0))), (4, (.one (.ref 15 0))), (5, (.one (.ref 23 0))), (7, (.one (.ref 31 0))), (8, (.one (.clo 60 [(.ref 23 0), (.ref 31 0)]))), (20, (.one (.v (.sl (.pair (.int .i64) (.int .i64))) p0))), (21, (.one (.v (.int .i64) p1))), (22, (.one (.v (.int .i64) p2)))] [(7, (.box 29 [(.v (.int .i64) p3), (.v (.int .i64) p4), (.v (.sl (.sl (.int .i64))) p5), (.v (.sl .bool) p6)])), (15, (.box 29 [(.v (.int .i64) p7), (.v (.int .i64) p8), (.v (.sl (.sl (.int .i64))) p9), (.v (.sl .bool) p10)])), (23, (.box 56 [(.v (.sl (.pair (.int .i64) (.int .i64))) p11)])), (31, (.box 60 [(.v (.int .i64) p12), (.v (.int .i64) p13)]))])
noncomputable def ancepsref06_in.f (p0 : (List (Int × Int))) (p1 : Int) (p2 : Int) : Option (Bool × Unit) := (Go.Proofs.R.Einf Go.Proofs.C06.ctx).call 63 [(.one (.v (.sl (.pair (.int .i64) (.int .i64))) p0)), (.agg [(.v (.int .i64) p1), (.v (.int .i64) p2)])]
noncomputable def ancepsref06_CheckRelation.l4 (p0 : (List (Int × Int))) (p1 : Int) (p2 : Int) (p3 : Int) (p4 : (List (List Int))) (p5 : (List Bool)) (p6 : Int) (p7 : Int) (p8 : (List (List Int))) (p9 : (List Bool)) : Option (Bool × Unit) := Go.Proofs.R.loopAt Go.Proofs.C06.ctx (Go.Proofs.R.Einf Go.Proofs.C06.ctx) 38 4 (.mk [(2, (.one (.v (.sl (.pair (.int .i64) (.int .i64))) p0))), (3, (.one (.ref 7 0))), (4, (.one (.ref 15 0))), (7, (.one (.v (.int .i64) p1)))] [(7, (.box 29 [(.v (.int .i64) p2), (.v (.int .i64) p3), (.v (.sl (.sl (.int .i64))) p4), (.v (.sl .bool) p5)])), (15, (.box 29 [(.v (.int .i64) p6), (.v (.int .i64) p7), (.v (.sl (.sl (.int .i64))) p8), (.v (.sl .bool) p9)]))])
noncomputable def slices_ContainsFunc_int_int.f (p0 : (List Int)) (p1 : Int) : Option (Bool × Unit) := (Go.Proofs.R.Einf Go.Proofs.C06.ctx).call 48 [(.one (.v (.sl (.int .i64)) p0)), (.one (.clo 49 [(.pref [(.v (.int .i64) p1)] 0)]))]
noncomputable def ancepsref06_Valid.l12 (p0 : Int) (p1 : Int) (p2 : Int) (p3 : Int) (p4 : Int) (p5 : (List (List Int))) (p6 : (List Bool)) : Option (Int × Unit) := Go.Proofs.R.loopAt Go.Proofs.C06.ctx (Go.Proofs.R.Einf Go.Proofs.C06.ctx) 20 12 (.mk [(1, (.one (.ref 7 0))), (3, (.one (.v (.int .i64) p0))), (4, (.one (.v (.int .i64) p1))), (5, (.one (.v (.int .i64) p2)))] [(7, (.box 29 [(.v (.int .i64) p3), (.v (.int .i64) p4), (.v (.sl (.sl (.int .i64))) p5), (.v (.sl .bool) p6)]))])
noncomputable def automaton_next.f (p0 : Int) (p1 : Int) (p2 : (List (List Int))) (p3 : (List Bool)) (p4 : Int) (p5 : Int) : Option (Int × Unit) := (Go.Proofs.R.Einf Go.Proofs.C06.ctx).call 44 [(.agg [(.v (.int .i64) p0), (.v (.int .i64) p1), (.v (.sl (.sl (.int .i64))) p2), (.v (.sl .bool) p3)]), (.one (.v (.int .i64) p4)), (.one (.v (.int .i64) p5))]
noncomputable def ancepsref06_From.l2 (p0 : Int) (p1 : (List Int)) (p2 : Int) (p3 : Int) (p4 : Int) (p5 : (List (List Int))) (p6 : (List Bool)) : Option (Int × Unit) := Go.Proofs.R.loopAt Go.Proofs.C06.ctx (Go.Proofs.R.Einf Go.Proofs.C06.ctx) 51 2 (.mk [(1, (.one (.v (.int .i64) p0))), (2, (.one (.v (.sl (.int .i64)) p1))), (3, (.one (.ref 7 0))), (7, (.one (.v (.int .i64) p2)))] [(7, (.box 29 [(.v (.int .i64) p3), (.v (.int .i64) p4), (.v (.sl (.sl (.int .i64))) p5), (.v (.sl .bool) p6)]))])
noncomputable def automaton_classes.f (p0 : Int) (p1 : Int) (p2 : (List (List Int))) (p3 : (List Bool)) : Option ((List Int) × Unit) := (Go.Proofs.R.Einf Go.Proofs.C06.ctx).call 66 [(.agg [(.v (.int .i64) p0), (.v (.int .i64) p1), (.v (.sl (.sl (.int .i64))) p2), (.v (.sl .bool) p3)])]
noncomputable def automaton_minimal.l11 (p0 : Int) (p1 : Int) (p2 : Int) (p3 : (List (List Int))) (p4 : (List Bool)) (p5 : Int) (p6 : Int) (p7 : Int) (p8 : Int) (p9 : (List Int)) (p10 : (List (Int × Int))) (p11 : (List Int)) (p12 : (List (List Int))) (p13 : (List Bool)) (p14 : (List (List Int))) (p15 : (List Bool)) : Option (Int × (Int × ((List (List Int)) × ((List Bool) × Unit)))) := Go.Proofs.R.loopAt Go.Proofs.C06.ctx (Go.Proofs.R.Einf Go.Proofs.C06.ctx) 46 11 (.mk [(1, (.one (.ref 7 0))), (2, (.one (.ref 15 0))), (3, (.one (.ref 23 0))), (4, (.one (.row 31))), (5, (.one (.mp 39))), (6, (.one (.row 47))), (7, (.one (.v (.int .i64) p0)))] [(7, (.box 29 [(.v (.int .i64) p1), (.v (.int .i64) p2), (.v (.sl (.sl (.int .i64))) p3), (.v (.sl .bool) p4)])), (15, (.box 29 [(.v (.int .i64) p5), (.v (.int .i64) p6), (.row 55), (.row 63)])), (23, (.box 29 [(.v (.int .i64) p7), (.v (.int .i64) p8), (.row 71), (.row 79)])), (31, (.row 3 (.int .i64) p9 false)), (39, (.mp 3 3 (.int .i64) (.int .i64) p10)), (47, (.row 3 (.int .i64) p11 false)), (55, (.row 40 (.sl (.int .i64)) p12 false)), (63, (.row 4 .bool p13 false)), (71, (.row 40 (.sl (.int .i64)) p14 false)), (79, (.row 4 .bool p15 false))])
noncomputable def ancepsref06_classes.f (p0 : Int) (p1 : Int) (p2 : (List (List Int))) (p3 : (List Bool)) : Option ((List Int) × Unit) := (Go.Proofs.R.Einf Go.Proofs.C06.ctx).call 68 [(.agg [(.v (.int .i64) p0), (.v (.int .i64) p1), (.v (.sl (.sl (.int .i64))) p2), (.v (.sl .bool) p3)])]
noncomputable def ancepsref06_minimal.l9 (p0 : Int) (p1 : Int) (p2 : Int) (p3 : (List (List Int))) (p4 : (List Bool)) (p5 : Int) (p6 : Int) (p7 : Int) (p8 : Int) (p9 : (List Int)) (p10 : (List Int)) (p11 : (List (Int × Int))) (p12 : (List (List Int))) (p13 : (List Bool)) (p14 : (List (List Int))) (p15 : (List Bool)) : Option (Int × (Int × ((List (List Int)) × ((List Bool) × Unit)))) := Go.Proofs.R.loopAt Go.Proofs.C06.ctx (Go.Proofs.R.Einf Go.Proofs.C06.ctx) 52 9 (.mk [(1, (.one (.ref 7 0))), (2, (.one (.ref 15 0))), (3, (.one (.ref 23 0))), (4, (.one (.row 31))), (5, (.one (.row 39))), (6, (.one (.mp 47))), (7, (.one (.v (.int .i64) p0)))] [(7, (.box 29 [(.v (.int .i64) p1), (.v (.int .i64) p2), (.v (.sl (.sl (.int .i64))) p3), (.v (.sl .bool) p4)])), (15, (.box 29 [(.v (.int .i64) p5), (.v (.int .i64) p6), (.row 55), (.row 63)])), (23, (.box 29 [(.v (.int .i64) p7), (.v (.int .i64) p8), (.row 71), (.row 79)])), (31, (.row 3 (.int .i64) p9 false)), (39, (.row 3 (.int .i64) p10 false)), (47, (.mp 3 3 (.int .i64) (.int .i64) p11)), (55, (.row 40 (.sl (.int .i64)) p12 false)), (63, (.row 4 .bool p13 false)), (71, (.row 40 (.sl (.int .i64)) p14 false)), (79, (.row 4 .bool p15 false))])
noncomputable def ancepsref06_Equal.f (p0 : (List Int)) (p1 : (List Int)) : Option (Bool × Unit) := (Go.Proofs.R.Einf Go.Proofs.C06.ctx).call 47 [(.one (.v (.sl (.int .i64)) p0)), (.one (.v (.sl (.int .i64)) p1))]
noncomputable def ancepsref06_SameDFA.l9 (p0 : Int) (p1 : Int) (p2 : Int) (p3 : (List (List Int))) (p4 : (List Bool)) (p5 : Int) (p6 : Int) (p7 : (List (List Int))) (p8 : (List Bool)) : Option (Bool × Unit) := Go.Proofs.R.loopAt Go.Proofs.C06.ctx (Go.Proofs.R.Einf Go.Proofs.C06.ctx) 14 9 (.mk [(2, (.one (.ref 7 0))), (3, (.one (.ref 15 0))), (6, (.one (.v (.int .i64) p0)))] [(7, (.box 29 [(.v (.int .i64) p1), (.v (.int .i64) p2), (.v (.sl (.sl (.int .i64))) p3), (.v (.sl .bool) p4)])), (15, (.box 29 [(.v (.int .i64) p5), (.v (.int .i64) p6), (.v (.sl (.sl (.int .i64))) p7), (.v (.sl .bool) p8)]))])
noncomputable def automaton_visits.l4 (p0 : Int) (p1 : Int) (p2 : Int) (p3 : (List (List Int))) (p4 : (List Bool)) (p5 : Int) (p6 : Int) (p7 : (List (List Int))) (p8 : (List Bool)) (p9 : (List ((Int × Int) × (Int × Int)))) (p10 : (List ((Int × Int) × Bool))) : Option ((List ((Int × Int) × (Int × Int))) × Unit) := Go.Proofs.R.loopAt Go.Proofs.C06.ctx (Go.Proofs.R.Einf Go.Proofs.C06.ctx) 43 4 (.mk [(2, (.one (.ref 7 0))), (3, (.one (.ref 15 0))), (5, (.one (.row 23))), (6, (.one (.mp 31))), (7, (.one (.v (.int .i64) p0)))] [(7, (.box 29 [(.v (.int .i64) p1), (.v (.int .i64) p2), (.v (.sl (.sl (.int .i64))) p3), (.v (.sl .bool) p4)])), (15, (.box 29 [(.v (.int .i64) p5), (.v (.int .i64) p6), (.v (.sl (.sl (.int .i64))) p7), (.v (.sl .bool) p8)])), (23, (.row 69 (.pair (.pair (.int .i64) (.int .i64)) (.pair (.int .i64) (.int .i64))) p9 false)), (31, (.mp 60 4 (.pair (.int .i64) (.int .i64)) .bool p10))])
noncomputable def automaton_Product.l15 (p0 : Int) (p1 : Int) (p2 : Int) (p3 : Int) (p4 : Int) (p5 : (List (List Int))) (p6 : (List Bool)) (p7 : Int) (p8 : Int) (p9 : (List (List Int))) (p10 : (List Bool)) (p11 : Int) (p12 : Int) (p13 : (List ((Int × Int) × Int))) (p14 : Int) (p15 : Int) (p16 : (List ((Int × Int) × (Int × Int)))) (p17 : (List (List Int))) (p18 : (List Bool)) (p19 : (List (List Int))) (p20 : (List Bool)) : Option (Int × (Int × ((List (List Int)) × ((List Bool) × (Int × Unit))))) := Go.Proofs.R.loopAt Go.Proofs.C06.ctx (Go.Proofs.R.Einf Go.Proofs.C06.ctx) 13 15 (.mk [(2, (.one (.v (.int .i64) p0))), (3, (.one (.ref 7 0))), (4, (.one (.ref 15 0))), (6, (.one (.ref 23 0))), (10, (.one (.mp 31))), (13, (.one (.ref 39 0))), (58, (.one (.row 47))), (59, (.one (.v (.int .i64) p1))), (60, (.one (.v (.int .i64) p2)))] [(7, (.box 29 [(.v (.int .i64) p3), (.v (.int .i64) p4), (.v (.sl (.sl (.int .i64))) p5), (.v (.sl .bool) p6)])), (15, (.box 29 [(.v (.int .i64) p7), (.v (.int .i64) p8), (.v (.sl (.sl (.int .i64))) p9), (.v (.sl .bool) p10)])), (23, (.box 29 [(.v (.int .i64) p11), (.v (.int .i64) p12), (.row 55), (.row 63)])), (31, (.mp 60 3 (.pair (.int .i64) (.int .i64)) (.int .i64) p13)), (39, (.box 29 [(.v (.int .i64) p14), (.v (.int .i64) p15), (.row 71), (.row 79)])), (47, (.row 69 (.pair (.pair (.int .i64) (.int .i64)) (.pair (.int .i64) (.int .i64))) p16 false)), (55, (.row 40 (.sl (.int .i64)) p17 false)), (63, (.row 4 .bool p18 false)), (71, (.row 40 (.sl (.int .i64)) p19 false)), (79, (.row 4 .bool p20 false))])
noncomputable def ancepsref06_walk.l4 (p0 : Int) (p1 : Int) (p2 : Int) (p3 : (List (List Int))) (p4 : (List Bool)) (p5 : Int) (p6 : Int) (p7 : (List (List Int))) (p8 : (List Bool)) (p9 : (List ((Int × Int) × (Int × Int)))) (p10 : (List ((Int × Int) × Bool))) : Option ((List ((Int × Int) × (Int × Int))) × Unit) := Go.Proofs.R.loopAt Go.Proofs.C06.ctx (Go.Proofs.R.Einf Go.Proofs.C06.ctx) 54 4 (.mk [(2, (.one (.ref 7 0))), (3, (.one (.ref 15 0))), (5, (.one (.row 23))), (6, (.one (.mp 31))), (7, (.one (.v (.int .i64) p0)))] [(7, (.box 29 [(.v (.int .i64) p1), (.v (.int .i64) p2), (.v (.sl (.sl (.int .i64))) p3), (.v (.sl .bool) p4)])), (15, (.box 29 [(.v (.int .i64) p5), (.v (.int .i64) p6), (.v (.sl (.sl (.int .i64))) p7), (.v (.sl .bool) p8)])), (23, (.row 81 (.pair (.pair (.int .i64) (.int .i64)) (.pair (.int .i64) (.int .i64))) p9 false)), (31, (.mp 60 4 (.pair (.int .i64) (.int .i64)) .bool p10))])
noncomputable def ancepsref06_Product.l14 (p0 : Int) (p1 : Int) (p2 : Int) (p3 : Int) (p4 : (List (List Int))) (p5 : (List Bool)) (p6 : Int) (p7 : Int) (p8 : (List (List Int))) (p9 : (List Bool)) (p10 : Int) (p11 : Int) (p12 : (List ((Int × Int) × (Int × Int)))) (p13 : (List ((Int × Int) × Int))) (p14 : Int) (p15 : Int) (p16 : (List (List Int))) (p17 : (List Bool)) (p18 : (List (List Int))) (p19 : (List Bool)) : Option (Int × (Int × ((List (List Int)) × ((List Bool) × (Int × Unit))))) := Go.Proofs.R.loopAt Go.Proofs.C06.ctx (Go.Proofs.R.Einf Go.Proofs.C06.ctx) 28 14 (.mk [(2, (.one (.v (.int .i64) p0))), (3, (.one (.ref 7 0))), (4, (.one (.ref 15 0))), (6, (.one (.ref 23 0))), (9, (.one (.row 31))), (10, (.one (.mp 39))), (12, (.one (.ref 47 0))), (13, (.one (.v (.int .i64) p1)))] [(7, (.box 29 [(.v (.int .i64) p2), (.v (.int .i64) p3), (.v (.sl (.sl (.int .i64))) p4), (.v (.sl .bool) p5)])), (15, (.box 29 [(.v (.int .i64) p6), (.v (.int .i64) p7), (.v (.sl (.sl (.int .i64))) p8), (.v (.sl .bool) p9)])), (23, (.box 29 [(.v (.int .i64) p10), (.v (.int .i64) p11), (.row 55), (.row 63)])), (31, (.row 81 (.pair (.pair (.int .i64) (.int .i64)) (.pair (.int .i64) (.int .i64))) p12 false)), (39, (.mp 60 3 (.pair (.int .i64) (.int .i64)) (.int .i64) p13)), (47, (.box 29 [(.v (.int .i64) p14), (.v (.int .i64) p15), (.row 71), (.row 79)])), (55, (.row 40 (.sl (.int .i64)) p16 false)), (63, (.row 4 .bool p17 false)), (71, (.row 40 (.sl (.int .i64)) p18 false)), (79, (.row 4 .bool p19 false))])
noncomputable def automaton_visit.f (p0 : (List ((Int × Int) × (Int × Int)))) (p1 : Int) (p2 : Int) (p3 : (List (List Int))) (p4 : (List Bool)) (p5 : Int) (p6 : Int) (p7 : (List (List Int))) (p8 : (List Bool)) : Option (Int × Unit) := (Go.Proofs.R.Einf Go.Proofs.C06.ctx).call 69 [(.one (.v (.sl (.pair (.pair (.int .i64) (.int .i64)) (.pair (.int .i64) (.int .i64)))) p0)), (.one (.clo 70 [(.pref [(.v (.int .i64) p1), (.v (.int .i64) p2), (.v (.sl (.sl (.int .i64))) p3), (.v (.sl .bool) p4)] 0), (.pref [(.v (.int .i64) p5), (.v (.int .i64) p6), (.v (.sl (.sl (.int .i64))) p7), (.v (.sl .bool) p8)] 0)]))]
noncomputable def automaton_word.l2 (p0 : (List ((Int × Int) × (Int × Int)))) (p1 : Int) (p2 : (List Int)) : Option ((List Int) × Unit) := Go.Proofs.R.loopAt Go.Proofs.C06.ctx (Go.Proofs.R.Einf Go.Proofs.C06.ctx) 59 2 (.mk [(0, (.one (.v (.sl (.pair (.pair (.int .i64) (.int .i64)) (.pair (.int .i64) (.int .i64)))) p0))), (1, (.one (.v (.int .i64) p1))), (5, (.one (.row 7)))] [(7, (.row 3 (.int .i64) p2 false))])
noncomputable def ancepsref06_accepting.f (p0 : Int) (p1 : Int) (p2 : (List (List Int))) (p3 : (List Bool)) (p4 : Int) : Option (Bool × Unit) := (Go.Proofs.R.Einf Go.Proofs.C06.ctx).call 56 [(.agg [(.v (.int .i64) p0), (.v (.int .i64) p1), (.v (.sl (.sl (.int .i64))) p2), (.v (.sl .bool) p3)]), (.one (.v (.int .i64) p4))]
noncomputable def ancepsref06_Difference.l11 (p0 : Int) (p1 : (List ((Int × Int) × (Int × Int)))) (p2 : (List Int)) : Option ((List Int) × (Int × Unit)) := Go.Proofs.R.loopAt Go.Proofs.C06.ctx (Go.Proofs.R.Einf Go.Proofs.C06.ctx) 35 11 (.mk [(7, (.one (.row 7))), (9, (.one (.row 15))), (10, (.one (.v (.int .i64) p0)))] [(7, (.row 81 (.pair (.pair (.int .i64) (.int .i64)) (.pair (.int .i64) (.int .i64))) p1 false)), (15, (.row 3 (.int .i64) p2 false))])
noncomputable def ancepsref06_Made.l8 (p0 : Int) (p1 : Int) (p2 : Int) (p3 : Int) (p4 : (List Int)) (p5 : Int) (p6 : Int) (p7 : Int) (p8 : Int) (p9 : Int) (p10 : (List Int)) (p11 : (List (List Int))) (p12 : (List Bool)) (p13 : (List (List Int))) (p14 : (List Bool)) : Option (Int × (Int × ((List (List Int)) × ((List Bool) × Unit)))) := Go.Proofs.R.loopAt Go.Proofs.C06.ctx (Go.Proofs.R.Einf Go.Proofs.C06.ctx) 11 8 (.mk [(1, (.one (.ref 7 0))), (2, (.one (.ref 15 0))), (3, (.one (.ref 23 0))), (4, (.one (.v (.int .i64) p0))), (5, (.one (.v (.int .i64) p1))), (6, (.one (.row 31))), (7, (.one (.v (.int .i64) p2)))] [(7, (.box 25 [(.v (.int .u8) p3), (.v (.sl (.int .u8)) p4), (.v (.int .u16) p5)])), (15, (.box 29 [(.v (.int .i64) p6), (.v (.int .i64) p7), (.row 39), (.row 47)])), (23, (.box 29 [(.v (.int .i64) p8), (.v (.int .i64) p9), (.row 55), (.row 63)])), (31, (.row 3 (.int .i64) p10 false)), (39, (.row 40 (.sl (.int .i64)) p11 false)), (47, (.row 4 .bool p12 false)), (55, (.row 40 (.sl (.int .i64)) p13 false)), (63, (.row 4 .bool p14 false))])
noncomputable def automaton_Count.l16 (p0 : Int) (p1 : Int) (p2 : Int) (p3 : Int) (p4 : (List (List Int))) (p5 : (List Bool)) (p6 : (List Int)) : Option (Int × (Int × Unit)) := Go.Proofs.R.loopAt Go.Proofs.C06.ctx (Go.Proofs.R.Einf Go.Proofs.C06.ctx) 16 16 (.mk [(2, (.one (.ref 7 0))), (7, (.one (.row 15))), (46, (.one (.v (.int .i64) p0))), (47, (.one (.v (.int .i64) p1)))] [(7, (.box 29 [(.v (.int .i64) p2), (.v (.int .i64) p3), (.v (.sl (.sl (.int .i64))) p4), (.v (.sl .bool) p5)])), (15, (.row 73 (.int .u64) p6 false))])
noncomputable def automaton_order.f (p0 : Int) (p1 : Int) (p2 : Int) (p3 : Int) : Option (Int × Unit) := (Go.Proofs.R.Einf Go.Proofs.C06.ctx).call 62 [(.agg [(.v (.int .i64) p0), (.v (.int .i64) p1)]), (.agg [(.v (.int .i64) p2), (.v (.int .i64) p3)])]
noncomputable def automaton_CheckRelation_1.f (p0 : Int) (p1 : Int) (p2 : (List (Int × Int))) (p3 : Int) (p4 : Int) : Option (Bool × Unit) := (Go.Proofs.R.Einf Go.Proofs.C06.ctx).call 60 [(.agg [(.v (.int .i64) p0), (.v (.int .i64) p1)]), (.one (.pref [(.v (.sl (.pair (.int .i64) (.int .i64))) p2)] 0)), (.one (.pref [(.v (.int .i64) p3), (.v (.int .i64) p4)] 0))]
noncomputable def automaton_CheckRelation.l14 (p0 : (List (Int × Int))) (p1 : Int) (p2 : Int) (p3 : Int) (p4 : Int) (p5 : (List (List Int))) (p6 : (List Bool)) (p7 : Int) (p8 : Int) (p9 : (List (List Int))) (p10 : (List Bool)) (p11 : (List (Int × Int))) (p12 : Int) (p13 : Int) : Option (Bool × Unit) := Go.Proofs.R.loopAt Go.Proofs.C06.ctx (Go.Proofs.R.Einf Go.Proofs.C06.ctx) 36 14 (.mk [(3, (.one (.ref 7 0))), (4, (.one (.ref 15 0))), (8, (.one (.clo 60 [(.ref 23 0), (.ref 31 0)]))), (79, (.one (.v (.sl (.pair (.int .i64) (.int .i64))) p0))), (80, (.one (.v (.int .i64) p1))), (81, (.one (.v (.int .i64) p2)))] [(7, (.box 29 [(.v (.int .i64) p3), (.v (.int .i64) p4), (.v (.sl (.sl (.int .i64))) p5), (.v (.sl .bool) p6)])), (15, (.box 29 [(.v (.int .i64) p7), (.v (.int .i64) p8), (.v (.sl (.sl (.int .i64))) p9), (.v (.sl .bool) p10)])), (23, (.box 56 [(.v (.sl (.pair (.int .i64) (.int .i64))) p11)])), (31, (.box 60 [(.v (.int .i64) p12), (.v (.int .i64) p13)]))])
noncomputable def ancepsref06_in.l2 (p0 : (List (Int × Int))) (p1 : Int) (p2 : Int) (p3 : Int) : Option (Bool × Unit) := Go.Proofs.R.loopAt Go.Proofs.C06.ctx (Go.Proofs.R.Einf Go.Proofs.C06.ctx) 63 2 (.mk [(0, (.one (.v (.sl (.pair (.int .i64) (.int .i64))) p0))), (3, (.one (.ref 7 0))), (5, (.one (.v (.int .i64) p1)))] [(7, (.box 60 [(.v (.int .i64) p2), (.v (.int .i64) p3)]))])
noncomputable def ancepsref06_less.f (p0 : Int) (p1 : Int) (p2 : Int) (p3 : Int) : Option (Bool × Unit) := (Go.Proofs.R.Einf Go.Proofs.C06.ctx).call 64 [(.agg [(.v (.int .i64) p0), (.v (.int .i64) p1)]), (.agg [(.v (.int .i64) p2), (.v (.int .i64) p3)])]
noncomputable def ancepsref06_CheckRelation.l12 (p0 : (List (Int × Int))) (p1 : Int) (p2 : Int) (p3 : Int) (p4 : Int) (p5 : (List (List Int))) (p6 : (List Bool)) (p7 : Int) (p8 : Int) (p9 : (List (List Int))) (p10 : (List Bool)) (p11 : Int) (p12 : Int) : Option (Bool × Unit) := Go.Proofs.R.loopAt Go.Proofs.C06.ctx (Go.Proofs.R.Einf Go.Proofs.C06.ctx) 38 12 (.mk [(2, (.one (.v (.sl (.pair (.int .i64) (.int .i64))) p0))), (3, (.one (.ref 7 0))), (4, (.one (.ref 15 0))), (7, (.one (.v (.int .i64) p1))), (8, (.one (.ref 23 0))), (9, (.one (.v (.int .i64) p2)))] [(7, (.box 29 [(.v (.int .i64) p3), (.v (.int .i64) p4), (.v (.sl (.sl (.int .i64))) p5), (.v (.sl .bool) p6)])), (15, (.box 29 [(.v (.int .i64) p7), (.v (.int .i64) p8), (.v (.sl (.sl (.int .i64))) p9), (.v (.sl .bool) p10)])), (23, (.box 60 [(.v (.int .i64) p11), (.v (.int .i64) p12)]))])
noncomputable def slices_IndexFunc_int_int.f (p0 : (List Int)) (p1 : Int) : Option (Int × Unit) := (Go.Proofs.R.Einf Go.Proofs.C06.ctx).call 67 [(.one (.v (.sl (.int .i64)) p0)), (.one (.clo 49 [(.pref [(.v (.int .i64) p1)] 0)]))]
noncomputable def ancepsref06_step.f (p0 : Int) (p1 : Int) (p2 : (List (List Int))) (p3 : (List Bool)) (p4 : Int) (p5 : Int) : Option (Int × Unit) := (Go.Proofs.R.Einf Go.Proofs.C06.ctx).call 55 [(.agg [(.v (.int .i64) p0), (.v (.int .i64) p1), (.v (.sl (.sl (.int .i64))) p2), (.v (.sl .bool) p3)]), (.one (.v (.int .i64) p4)), (.one (.v (.int .i64) p5))]
noncomputable def automaton_useful.f (p0 : Int) (p1 : Int) (p2 : (List (List Int))) (p3 : (List Bool)) : Option ((List Bool) × Unit) := (Go.Proofs.R.Einf Go.Proofs.C06.ctx).call 76 [(.agg [(.v (.int .i64) p0), (.v (.int .i64) p1), (.v (.sl (.sl (.int .i64))) p2), (.v (.sl .bool) p3)])]
noncomputable def automaton_classes.l4 (p0 : Int) (p1 : Int) (p2 : Int) (p3 : Int) (p4 : (List (List Int))) (p5 : (List Bool)) (p6 : (List Bool)) (p7 : (List Int)) : Option ((List Int) × Unit) := Go.Proofs.R.loopAt Go.Proofs.C06.ctx (Go.Proofs.R.Einf Go.Proofs.C06.ctx) 66 4 (.mk [(1, (.one (.ref 7 0))), (3, (.one (.row 15))), (4, (.one (.row 23))), (21, (.one (.v (.int .i64) p0))), (22, (.one (.v (.int .i64) p1)))] [(7, (.box 29 [(.v (.int .i64) p2), (.v (.int .i64) p3), (.v (.sl (.sl (.int .i64))) p4), (.v (.sl .bool) p5)])), (15, (.row 4 .bool p6 false)), (23, (.row 3 (.int .i64) p7 false))])
noncomputable def automaton_minimal.l16 (p0 : Int) (p1 : Int) (p2 : (List Int)) (p3 : Int) (p4 : Int) (p5 : Int) (p6 : Int) (p7 : (List (List Int))) (p8 : (List Bool)) (p9 : Int) (p10 : Int) (p11 : Int) (p12 : Int) (p13 : (List Int)) (p14 : (List (Int × Int))) (p15 : (List Int)) (p16 : (List Int)) (p17 : (List (List Int))) (p18 : (List Bool)) (p19 : (List (List Int))) (p20 : (List Bool)) : Option (Int × (Int × ((List (List Int)) × ((List Bool) × Unit)))) := Go.Proofs.R.loopAt Go.Proofs.C06.ctx (Go.Proofs.R.Einf Go.Proofs.C06.ctx) 46 16 (.mk [(1, (.one (.ref 7 0))), (2, (.one (.ref 15 0))), (3, (.one (.ref 23 0))), (4, (.one (.row 31))), (5, (.one (.mp 39))), (6, (.one (.row 47))), (7, (.one (.v (.int .i64) p0))), (8, (.one (.v (.int .i64) p1))), (9, (.one (.row 55))), (58, (.one (.v (.sl (.int .i64)) p2))), (59, (.one (.v (.int .i64) p3))), (60, (.one (.v (.int .i64) p4)))] [(7, (.box 29 [(.v (.int .i64) p5), (.v (.int .i64) p6), (.v (.sl (.sl (.int .i64))) p7), (.v (.sl .bool) p8)])), (15, (.box 29 [(.v (.int .i64) p9), (.v (.int .i64) p10), (.row 63), (.row 71)])), (23, (.box 29 [(.v (.int .i64) p11), (.v (.int .i64) p12), (.row 79), (.row 87)])), (31, (.row 3 (.int .i64) p13 false)), (39, (.mp 3 3 (.int .i64) (.int .i64) p14)), (47, (.row 3 (.int .i64) p15 false)), (55, (.row 3 (.int .i64) p16 false)), (63, (.row 40 (.sl (.int .i64)) p17 false)), (71, (.row 4 .bool p18 false)), (79, (.row 40 (.sl (.int .i64)) p19 false)), (87, (.row 4 .bool p20 false))])
noncomputable def ancepsref06_Live.f (p0 : Int) (p1 : Int) (p2 : (List (List Int))) (p3 : (List Bool)) : Option ((List Bool) × Unit) := (Go.Proofs.R.Einf Go.Proofs.C06.ctx).call 77 [(.agg [(.v (.int .i64) p0), (.v (.int .i64) p1), (.v (.sl (.sl (.int .i64))) p2), (.v (.sl .bool) p3)])]
noncomputable def ancepsref06_classes.l4 (p0 : Int) (p1 : Int) (p2 : Int) (p3 : (List (List Int))) (p4 : (List Bool)) (p5 : (List Bool)) (p6 : (List Int)) : Option ((List Int) × Unit) := Go.Proofs.R.loopAt Go.Proofs.C06.ctx (Go.Proofs.R.Einf Go.Proofs.C06.ctx) 68 4 (.mk [(1, (.one (.ref 7 0))), (3, (.one (.row 15))), (4, (.one (.row 23))), (5, (.one (.v (.int .i64) p0)))] [(7, (.box 29 [(.v (.int .i64) p1), (.v (.int .i64) p2), (.v (.sl (.sl (.int .i64))) p3), (.v (.sl .bool) p4)])), (15, (.row 4 .bool p5 false)), (23, (.row 3 (.int .i64) p6 false))])
noncomputable def ancepsref06_minimal.l13 (p0 : Int) (p1 : Int) (p2 : Int) (p3 : Int) (p4 : (List (List Int))) (p5 : (List Bool)) (p6 : Int) (p7 : Int) (p8 : Int) (p9 : Int) (p10 : (List Int)) (p11 : (List Int)) (p12 : (List (Int × Int))) (p13 : (List Int)) (p14 : (List (List Int))) (p15 : (List Bool)) (p16 : (List (List Int))) (p17 : (List Bool)) : Option (Int × (Int × ((List (List Int)) × ((List Bool) × Unit)))) := Go.Proofs.R.loopAt Go.Proofs.C06.ctx (Go.Proofs.R.Einf Go.Proofs.C06.ctx) 52 13 (.mk [(1, (.one (.ref 7 0))), (2, (.one (.ref 15 0))), (3, (.one (.ref 23 0))), (4, (.one (.row 31))), (5, (.one (.row 39))), (6, (.one (.mp 47))), (7, (.one (.v (.int .i64) p0))), (8, (.one (.row 55))), (9, (.one (.v (.int .i64) p1)))] [(7, (.box 29 [(.v (.int .i64) p2), (.v (.int .i64) p3), (.v (.sl (.sl (.int .i64))) p4), (.v (.sl .bool) p5)])), (15, (.box 29 [(.v (.int .i64) p6), (.v (.int .i64) p7), (.row 63), (.row 71)])), (23, (.box 29 [(.v (.int .i64) p8), (.v (.int .i64) p9), (.row 79), (.row 87)])), (31, (.row 3 (.int .i64) p10 false)), (39, (.row 3 (.int .i64) p11 false)), (47, (.mp 3 3 (.int .i64) (.int .i64) p12)), (55, (.row 3 (.int .i64) p13 false)), (63, (.row 40 (.sl (.int .i64)) p14 false)), (71, (.row 4 .bool p15 false)), (79, (.row 40 (.sl (.int .i64)) p16 false)), (87, (.row 4 .bool p17 false))])
noncomputable def ancepsref06_Equal.l4 (p0 : (List Int)) (p1 : (List Int)) (p2 : Int) : Option (Bool × Unit) := Go.Proofs.R.loopAt Go.Proofs.C06.ctx (Go.Proofs.R.Einf Go.Proofs.C06.ctx) 47 4 (.mk [(0, (.one (.v (.sl (.int .i64)) p0))), (1, (.one (.v (.sl (.int .i64)) p1))), (5, (.one (.v (.int .i64) p2)))] [])
noncomputable def automaton_visits.l8 (p0 : Int) (p1 : Int) (p2 : Int) (p3 : Int) (p4 : Int) (p5 : (List (List Int))) (p6 : (List Bool)) (p7 : Int) (p8 : Int) (p9 : (List (List Int))) (p10 : (List Bool)) (p11 : (List ((Int × Int) × (Int × Int)))) (p12 : (List ((Int × Int) × Bool))) (p13 : Int) (p14 : Int) : Option ((List ((Int × Int) × (Int × Int))) × Unit) := Go.Proofs.R.loopAt Go.Proofs.C06.ctx (Go.Proofs.R.Einf Go.Proofs.C06.ctx) 43 8 (.mk [(2, (.one (.ref 7 0))), (3, (.one (.ref 15 0))), (5, (.one (.row 23))), (6, (.one (.mp 31))), (7, (.one (.v (.int .i64) p0))), (8, (.one (.ref 39 0))), (36, (.one (.v (.int .i64) p1))), (37, (.one (.v (.int .i64) p2)))] [(7, (.box 29 [(.v (.int .i64) p3), (.v (.int .i64) p4), (.v (.sl (.sl (.int .i64))) p5), (.v (.sl .bool) p6)])), (15, (.box 29 [(.v (.int .i64) p7), (.v (.int .i64) p8), (.v (.sl (.sl (.int .i64))) p9), (.v (.sl .bool) p10)])), (23, (.row 69 (.pair (.pair (.int .i64) (.int .i64)) (.pair (.int .i64) (.int .i64))) p11 false)), (31, (.mp 60 4 (.pair (.int .i64) (.int .i64)) .bool p12)), (39, (.box 60 [(.v (.int .i64) p13), (.v (.int .i64) p14)]))])
noncomputable def automaton_Product.l19 (p0 : Int) (p1 : Int) (p2 : Int) (p3 : Int) (p4 : Int) (p5 : Int) (p6 : Int) (p7 : (List (List Int))) (p8 : (List Bool)) (p9 : Int) (p10 : Int) (p11 : (List (List Int))) (p12 : (List Bool)) (p13 : Int) (p14 : Int) (p15 : (List ((Int × Int) × Int))) (p16 : Int) (p17 : Int) (p18 : Int) (p19 : Int) (p20 : Int) (p21 : Int) (p22 : (List Int)) (p23 : (List ((Int × Int) × (Int × Int)))) (p24 : (List (List Int))) (p25 : (List Bool)) (p26 : (List (List Int))) (p27 : (List Bool)) : Option (Int × (Int × ((List (List Int)) × ((List Bool) × (Int × Unit))))) := Go.Proofs.R.loopAt Go.Proofs.C06.ctx (Go.Proofs.R.Einf Go.Proofs.C06.ctx) 13 19 (.mk [(2, (.one (.v (.int .i64) p0))), (3, (.one (.ref 7 0))), (4, (.one (.ref 15 0))), (6, (.one (.ref 23 0))), (10, (.one (.mp 31))), (13, (.one (.ref 39 0))), (15, (.one (.ref 47 0))), (16, (.one (.row 55))), (58, (.one (.row 63))), (59, (.one (.v (.int .i64) p1))), (60, (.one (.v (.int .i64) p2))), (68, (.one (.v (.int .i64) p3))), (69, (.one (.v (.int .i64) p4)))] [(7, (.box 29 [(.v (.int .i64) p5), (.v (.int .i64) p6), (.v (.sl (.sl (.int .i64))) p7), (.v (.sl .bool) p8)])), (15, (.box 29 [(.v (.int .i64) p9), (.v (.int .i64) p10), (.v (.sl (.sl (.int .i64))) p11), (.v (.sl .bool) p12)])), (23, (.box 29 [(.v (.int .i64) p13), (.v (.int .i64) p14), (.row 71), (.row 79)])), (31, (.mp 60 3 (.pair (.int .i64) (.int .i64)) (.int .i64) p15)), (39, (.box 29 [(.v (.int .i64) p16), (.v (.int .i64) p17), (.row 87), (.row 95)])), (47, (.box 69 [(.v (.int .i64) p18), (.v (.int .i64) p19), (.v (.int .i64) p20), (.v (.int .i64) p21)])), (55, (.row 3 (.int .i64) p22 false)), (63, (.row 69 (.pair (.pair (.int .i64) (.int .i64)) (.pair (.int .i64) (.int .i64))) p23 false)), (71, (.row 40 (.sl (.int .i64)) p24 false)), (79, (.row 4 .bool p25 false)), (87, (.row 40 (.sl (.int .i64)) p26 false)), (95, (.row 4 .bool p27 false))])
noncomputable def ancepsref06_walk.l7 (p0 : Int) (p1 : Int) (p2 : Int) (p3 : Int) (p4 : (List (List Int))) (p5 : (List Bool)) (p6 : Int) (p7 : Int) (p8 : (List (List Int))) (p9 : (List Bool)) (p10 : (List ((Int × Int) × (Int × Int)))) (p11 : (List ((Int × Int) × Bool))) : Option ((List ((Int × Int) × (Int × Int))) × Unit) := Go.Proofs.R.loopAt Go.Proofs.C06.ctx (Go.Proofs.R.Einf Go.Proofs.C06.ctx) 54 7 (.mk [(2, (.one (.ref 7 0))), (3, (.one (.ref 15 0))), (5, (.one (.row 23))), (6, (.one (.mp 31))), (7, (.one (.v (.int .i64) p0))), (8, (.one (.v (.int .i64) p1)))] [(7, (.box 29 [(.v (.int .i64) p2), (.v (.int .i64) p3), (.v (.sl (.sl (.int .i64))) p4), (.v (.sl .bool) p5)])), (15, (.box 29 [(.v (.int .i64) p6), (.v (.int .i64) p7), (.v (.sl (.sl (.int .i64))) p8), (.v (.sl .bool) p9)])), (23, (.row 81 (.pair (.pair (.int .i64) (.int .i64)) (.pair (.int .i64) (.int .i64))) p10 false)), (31, (.mp 60 4 (.pair (.int .i64) (.int .i64)) .bool p11))])
noncomputable def ancepsref06_Product.l19 (p0 : Int) (p1 : Int) (p2 : Int) (p3 : Int) (p4 : Int) (p5 : (List (List Int))) (p6 : (List Bool)) (p7 : Int) (p8 : Int) (p9 : (List (List Int))) (p10 : (List Bool)) (p11 : Int) (p12 : Int) (p13 : (List ((Int × Int) × (Int × Int)))) (p14 : (List ((Int × Int) × Int))) (p15 : Int) (p16 : Int) (p17 : Int) (p18 : Int) (p19 : (List Int)) (p20 : (List (List Int))) (p21 : (List Bool)) (p22 : (List (List Int))) (p23 : (List Bool)) : Option (Int × (Int × ((List (List Int)) × ((List Bool) × (Int × Unit))))) := Go.Proofs.R.loopAt Go.Proofs.C06.ctx (Go.Proofs.R.Einf Go.Proofs.C06.ctx) 28 19 (.mk [(2, (.one (.v (.int .i64) p0))), (3, (.one (.ref 7 0))), (4, (.one (.ref 15 0))), (6, (.one (.ref 23 0))), (9, (.one (.row 31))), (10, (.one (.mp 39))), (12, (.one (.ref 47 0))), (13, (.one (.v (.int .i64) p1))), (14, (.one (.ref 55 0))), (15, (.one (.row 63))), (16, (.one (.v (.int .i64) p2)))] [(7, (.box 29 [(.v (.int .i64) p3), (.v (.int .i64) p4), (.v (.sl (.sl (.int .i64))) p5), (.v (.sl .bool) p6)])), (15, (.box 29 [(.v (.int .i64) p7), (.v (.int .i64) p8), (.v (.sl (.sl (.int .i64))) p9), (.v (.sl .bool) p10)])), (23, (.box 29 [(.v (.int .i64) p11), (.v (.int .i64) p12), (.row 71), (.row 79)])), (31, (.row 81 (.pair (.pair (.int .i64) (.int .i64)) (.pair (.int .i64) (.int .i64))) p13 false)), (39, (.mp 60 3 (.pair (.int .i64) (.int .i64)) (.int .i64) p14)), (47, (.box 29 [(.v (.int .i64) p15), (.v (.int .i64) p16), (.row 87), (.row 95)])), (55, (.box 60 [(.v (.int .i64) p17), (.v (.int .i64) p18)])), (63, (.row 3 (.int .i64) p19 false)), (71, (.row 40 (.sl (.int .i64)) p20 false)), (79, (.row 4 .bool p21 false)), (87, (.row 40 (.sl (.int .i64)) p22 false)), (95, (.row 4 .bool p23 false))])
noncomputable def ancepsref06_Small.f (p0 : Int) (p1 : Int) (p2 : (List (List Int))) (p3 : (List Bool)) : Option (Int × (Int × ((List (List Int)) × ((List Bool) × (Bool × Unit))))) := (Go.Proofs.R.Einf Go.Proofs.C06.ctx).call 57 [(.agg [(.v (.int .i64) p0), (.v (.int .i64) p1), (.v (.sl (.sl (.int .i64))) p2), (.v (.sl .bool) p3)])]
noncomputable def automaton_visit.l2 (p0 : (List ((Int × Int) × (Int × Int)))) (p1 : Int) (p2 : Int) (p3 : (List (List Int))) (p4 : (List Bool)) (p5 : Int) (p6 : Int) (p7 : (List (List Int))) (p8 : (List Bool)) (p9 : Int) (p10 : Int) : Option (Int × Unit) := Go.Proofs.R.loopAt Go.Proofs.C06.ctx (Go.Proofs.R.Einf Go.Proofs.C06.ctx) 69 2 (.mk [(0, (.one (.v (.sl (.pair (.pair (.int .i64) (.int .i64)) (.pair (.int .i64) (.int .i64)))) p0))), (1, (.one (.clo 70 [(.pref [(.v (.int .i64) p1), (.v (.int .i64) p2), (.v (.sl (.sl (.int .i64))) p3), (.v (.sl .bool) p4)] 0), (.pref [(.v (.int .i64) p5), (.v (.int .i64) p6), (.v (.sl (.sl (.int .i64))) p7), (.v (.sl .bool) p8)] 0)]))), (7, (.one (.v (.int .i64) p9))), (8, (.one (.v (.int .i64) p10)))] [])
noncomputable def automaton_Count.l19 (p0 : Int) (p1 : Int) (p2 : (List (List Int))) (p3 : Int) (p4 : Int) (p5 : Int) (p6 : Int) (p7 : (List (List Int))) (p8 : (List Bool)) (p9 : (List Int)) (p10 : (List Int)) : Option (Int × (Int × Unit)) := Go.Proofs.R.loopAt Go.Proofs.C06.ctx (Go.Proofs.R.Einf Go.Proofs.C06.ctx) 16 19 (.mk [(2, (.one (.ref 7 0))), (7, (.one (.row 15))), (10, (.one (.row 23))), (46, (.one (.v (.int .i64) p0))), (47, (.one (.v (.int .i64) p1))), (53, (.one (.v (.sl (.sl (.int .i64))) p2))), (54, (.one (.v (.int .i64) p3))), (55, (.one (.v (.int .i64) p4)))] [(7, (.box 29 [(.v (.int .i64) p5), (.v (.int .i64) p6), (.v (.sl (.sl (.int .i64))) p7), (.v (.sl .bool) p8)])), (15, (.row 73 (.int .u64) p9 false)), (23, (.row 73 (.int .u64) p10 false))])
noncomputable def cmp_Compare_int.f (p0 : Int) (p1 : Int) : Option (Int × Unit) := (Go.Proofs.R.Einf Go.Proofs.C06.ctx).call 73 [(.one (.v (.int .i64) p0)), (.one (.v (.int .i64) p1))]
noncomputable def cmp_Or_int.f (p0 : (List Int)) : Option (Int × Unit) := (Go.Proofs.R.Einf Go.Proofs.C06.ctx).call 72 [(.one (.v (.sl (.int .i64)) p0))]
noncomputable def api_Pair_61.f (p0 : (List (Int × Int))) (p1 : Int) (p2 : Int) : Option (Int × (Bool × Unit)) := (Go.Proofs.R.Einf Go.Proofs.C06.ctx).call 61 [(.one (.v (.sl (.pair (.int .i64) (.int .i64))) p0)), (.agg [(.v (.int .i64) p1), (.v (.int .i64) p2)]), (.one (.clo 62 []))]
noncomputable def automaton_CheckRelation.l19 (p0 : (List (Int × Int))) (p1 : Int) (p2 : Int) (p3 : Int) (p4 : Int) (p5 : Int) (p6 : Int) (p7 : (List (List Int))) (p8 : (List Bool)) (p9 : Int) (p10 : Int) (p11 : (List (List Int))) (p12 : (List Bool)) (p13 : (List (Int × Int))) (p14 : Int) (p15 : Int) (p16 : Int) (p17 : Int) : Option (Bool × Unit) := Go.Proofs.R.loopAt Go.Proofs.C06.ctx (Go.Proofs.R.Einf Go.Proofs.C06.ctx) 36 19 (.mk [(3, (.one (.ref 7 0))), (4, (.one (.ref 15 0))), (8, (.one (.clo 60 [(.ref 23 0), (.ref 31 0)]))), (12, (.one (.ref 39 0))), (79, (.one (.v (.sl (.pair (.int .i64) (.int .i64))) p0))), (80, (.one (.v (.int .i64) p1))), (81, (.one (.v (.int .i64) p2))), (95, (.one (.v (.int .i64) p3))), (96, (.one (.v (.int .i64) p4)))] [(7, (.box 29 [(.v (.int .i64) p5), (.v (.int .i64) p6), (.v (.sl (.sl (.int .i64))) p7), (.v (.sl .bool) p8)])), (15, (.box 29 [(.v (.int .i64) p9), (.v (.int .i64) p10), (.v (.sl (.sl (.int .i64))) p11), (.v (.sl .bool) p12)])), (23, (.box 56 [(.v (.sl (.pair (.int .i64) (.int .i64))) p13)])), (31, (.box 60 [(.v (.int .i64) p14), (.v (.int .i64) p15)])), (39, (.box 60 [(.v (.int .i64) p16), (.v (.int .i64) p17)]))])
noncomputable def slices_IndexFunc_int_int.l2 (p0 : (List Int)) (p1 : Int) (p2 : Int) (p3 : Int) : Option (Int × Unit) := Go.Proofs.R.loopAt Go.Proofs.C06.ctx (Go.Proofs.R.Einf Go.Proofs.C06.ctx) 67 2 (.mk [(0, (.one (.v (.sl (.int .i64)) p0))), (1, (.one (.clo 49 [(.pref [(.v (.int .i64) p1)] 0)]))), (7, (.one (.v (.int .i64) p2))), (8, (.one (.v (.int .i64) p3)))] [])
noncomputable def automaton_useful.l3 (p0 : (List (List Int))) (p1 : Int) (p2 : Int) (p3 : Int) (p4 : Int) (p5 : (List (List Int))) (p6 : (List Bool)) (p7 : (List (List Int))) : Option ((List Bool) × Unit) := Go.Proofs.R.loopAt Go.Proofs.C06.ctx (Go.Proofs.R.Einf Go.Proofs.C06.ctx) 76 3 (.mk [(1, (.one (.ref 7 0))), (3, (.one (.row 15))), (20, (.one (.v (.sl (.sl (.int .i64))) p0))), (21, (.one (.v (.int .i64) p1))), (22, (.one (.v (.int .i64) p2)))] [(7, (.box 29 [(.v (.int .i64) p3), (.v (.int .i64) p4), (.v (.sl (.sl (.int .i64))) p5), (.v (.sl .bool) p6)])), (15, (.rows 40 3 (.int .i64) p7 .full))])
noncomputable def automaton_classes.l12 (p0 : Int) (p1 : Int) (p2 : Int) (p3 : (List (List Int))) (p4 : (List Bool)) (p5 : (List Int)) : Option ((List Int) × Unit) := Go.Proofs.R.loopAt Go.Proofs.C06.ctx (Go.Proofs.R.Einf Go.Proofs.C06.ctx) 66 12 (.mk [(1, (.one (.ref 7 0))), (4, (.one (.row 15))), (6, (.one (.v (.int .i64) p0)))] [(7, (.box 29 [(.v (.int .i64) p1), (.v (.int .i64) p2), (.v (.sl (.sl (.int .i64))) p3), (.v (.sl .bool) p4)])), (15, (.row 3 (.int .i64) p5 false))])
noncomputable def ancepsref06_Live.l3 (p0 : Bool) (p1 : Int) (p2 : Int) (p3 : (List (List Int))) (p4 : (List Bool)) (p5 : (List Bool)) : Option ((List Bool) × Unit) := Go.Proofs.R.loopAt Go.Proofs.C06.ctx (Go.Proofs.R.Einf Go.Proofs.C06.ctx) 77 3 (.mk [(1, (.one (.ref 7 0))), (3, (.one (.row 15))), (4, (.one (.v .bool p0)))] [(7, (.box 29 [(.v (.int .i64) p1), (.v (.int .i64) p2), (.v (.sl (.sl (.int .i64))) p3), (.v (.sl .bool) p4)])), (15, (.row 4 .bool p5 false))])
noncomputable def ancepsref06_classes.l11 (p0 : Int) (p1 : Int) (p2 : Int) (p3 : (List (List Int))) (p4 : (List Bool)) (p5 : (List Bool)) (p6 : (List Int)) : Option ((List Int) × Unit) := Go.Proofs.R.loopAt Go.Proofs.C06.ctx (Go.Proofs.R.Einf Go.Proofs.C06.ctx) 68 11 (.mk [(1, (.one (.ref 7 0))), (3, (.one (.row 15))), (4, (.one (.row 23))), (6, (.one (.v (.int .i64) p0)))] [(7, (.box 29 [(.v (.int .i64) p1), (.v (.int .i64) p2), (.v (.sl (.sl (.int .i64))) p3), (.v (.sl .bool) p4)])), (15, (.row 4 .bool p5 false)), (23, (.row 3 (.int .i64) p6 false))])
noncomputable def automaton_differ_1.f (p0 : Int) (p1 : Int) (p2 : Int) (p3 : Int) (p4 : Int) (p5 : Int) (p6 : (List (List Int))) (p7 : (List Bool)) (p8 : Int) (p9 : Int) (p10 : (List (List Int))) (p11 : (List Bool)) : Option (Bool × Unit) := (Go.Proofs.R.Einf Go.Proofs.C06.ctx).call 70 [(.agg [(.v (.int .i64) p0), (.v (.int .i64) p1), (.v (.int .i64) p2), (.v (.int .i64) p3)]), (.one (.pref [(.v (.int .i64) p4), (.v (.int .i64) p5), (.v (.sl (.sl (.int .i64))) p6), (.v (.sl .bool) p7)] 0)), (.one (.pref [(.v (.int .i64) p8), (.v (.int .i64) p9), (.v (.sl (.sl (.int .i64))) p10), (.v (.sl .bool) p11)] 0))]
noncomputable def automaton_Count.l22 (p0 : Int) (p1 : Int) (p2 : Int) (p3 : (List (List Int))) (p4 : Int) (p5 : Int) (p6 : (List Int)) (p7 : Int) (p8 : Int) (p9 : Int) (p10 : Int) (p11 : (List (List Int))) (p12 : (List Bool)) (p13 : (List Int)) (p14 : (List Int)) : Option (Int × (Int × Unit)) := Go.Proofs.R.loopAt Go.Proofs.C06.ctx (Go.Proofs.R.Einf Go.Proofs.C06.ctx) 16 22 (.mk [(2, (.one (.ref 7 0))), (7, (.one (.row 15))), (10, (.one (.row 23))), (11, (.one (.v (.int .i64) p0))), (46, (.one (.v (.int .i64) p1))), (47, (.one (.v (.int .i64) p2))), (53, (.one (.v (.sl (.sl (.int .i64))) p3))), (54, (.one (.v (.int .i64) p4))), (55, (.one (.v (.int .i64) p5))), (60, (.one (.v (.sl (.int .i64)) p6))), (61, (.one (.v (.int .i64) p7))), (62, (.one (.v (.int .i64) p8)))] [(7, (.box 29 [(.v (.int .i64) p9), (.v (.int .i64) p10), (.v (.sl (.sl (.int .i64))) p11), (.v (.sl .bool) p12)])), (15, (.row 73 (.int .u64) p13 false)), (23, (.row 73 (.int .u64) p14 false))])
noncomputable def cmp_isNaN_int.f (p0 : Int) : Option (Bool × Unit) := (Go.Proofs.R.Einf Go.Proofs.C06.ctx).call 79 [(.one (.v (.int .i64) p0))]
noncomputable def cmp_Or_int.l3 (p0 : Int) (p1 : (List Int)) (p2 : Int) (p3 : Int) : Option (Int × Unit) := Go.Proofs.R.loopAt Go.Proofs.C06.ctx (Go.Proofs.R.Einf Go.Proofs.C06.ctx) 72 3 (.mk [(3, (.one (.v (.int .i64) p0))), (6, (.one (.v (.sl (.int .i64)) p1))), (7, (.one (.v (.int .i64) p2))), (8, (.one (.v (.int .i64) p3)))] [])
noncomputable def api_Pair_61.l3 (p0 : (List (Int × Int))) (p1 : Int) (p2 : Int) (p3 : Int) (p4 : Int) (p5 : Int) : Option (Int × (Bool × Unit)) := Go.Proofs.R.loopAt Go.Proofs.C06.ctx (Go.Proofs.R.Einf Go.Proofs.C06.ctx) 61 3 (.mk [(0, (.one (.v (.sl (.pair (.int .i64) (.int .i64))) p0))), (2, (.one (.clo 62 []))), (4, (.one (.ref 7 0))), (8, (.one (.v (.int .i64) p1))), (9, (.one (.v (.int .i64) p2))), (10, (.one (.v (.int .i64) p3)))] [(7, (.box 60 [(.v (.int .i64) p4), (.v (.int .i64) p5)]))])
noncomputable def automaton_Valid_1.f (p0 : Int) (p1 : Int) : Option (Bool × Unit) := (Go.Proofs.R.Einf Go.Proofs.C06.ctx).call 49 [(.one (.v (.int .i64) p0)), (.one (.pref [(.v (.int .i64) p1)] 0))]
noncomputable def automaton_useful.l6 (p0 : Int) (p1 : (List (List Int))) (p2 : Int) (p3 : Int) (p4 : (List Int)) (p5 : Int) (p6 : Int) (p7 : Int) (p8 : Int) (p9 : (List (List Int))) (p10 : (List Bool)) (p11 : (List (List Int))) : Option ((List Bool) × Unit) := Go.Proofs.R.loopAt Go.Proofs.C06.ctx (Go.Proofs.R.Einf Go.Proofs.C06.ctx) 76 6 (.mk [(1, (.one (.ref 7 0))), (3, (.one (.row 15))), (4, (.one (.v (.int .i64) p0))), (20, (.one (.v (.sl (.sl (.int .i64))) p1))), (21, (.one (.v (.int .i64) p2))), (22, (.one (.v (.int .i64) p3))), (27, (.one (.v (.sl (.int .i64)) p4))), (28, (.one (.v (.int .i64) p5))), (29, (.one (.v (.int .i64) p6)))] [(7, (.box 29 [(.v (.int .i64) p7), (.v (.int .i64) p8), (.v (.sl (.sl (.int .i64))) p9), (.v (.sl .bool) p10)])), (15, (.rows 40 3 (.int .i64) p11 .full))])
noncomputable def automaton_useful.l15 (p0 : (List Bool)) (p1 : Int) (p2 : Int) (p3 : (List (List Int))) (p4 : (List Bool)) (p5 : (List Int)) : Option ((List Bool) × Unit) := Go.Proofs.R.loopAt Go.Proofs.C06.ctx (Go.Proofs.R.Einf Go.Proofs.C06.ctx) 76 15 (.mk [(3, (.one (.row 7))), (8, (.one (.row 15))), (9, (.one (.row 23))), (52, (.one (.v (.sl .bool) p0))), (53, (.one (.v (.int .i64) p1))), (54, (.one (.v (.int .i64) p2)))] [(7, (.rows 40 3 (.int .i64) p3 .full)), (15, (.row 4 .bool p4 false)), (23, (.row 3 (.int .i64) p5 false))])
noncomputable def automaton_classes.l15 (p0 : Int) (p1 : (List (List Int))) (p2 : Int) (p3 : Int) (p4 : Int) (p5 : Int) (p6 : (List (List Int))) (p7 : (List Bool)) (p8 : (List Int)) (p9 : (List ((List Int) × Int))) (p10 : (List Int)) : Option ((List Int) × Unit) := Go.Proofs.R.loopAt Go.Proofs.C06.ctx (Go.Proofs.R.Einf Go.Proofs.C06.ctx) 66 15 (.mk [(1, (.one (.ref 7 0))), (4, (.one (.row 15))), (6, (.one (.v (.int .i64) p0))), (7, (.one (.mp 23))), (8, (.one (.row 31))), (46, (.one (.v (.sl (.sl (.int .i64))) p1))), (47, (.one (.v (.int .i64) p2))), (48, (.one (.v (.int .i64) p3)))] [(7, (.box 29 [(.v (.int .i64) p4), (.v (.int .i64) p5), (.v (.sl (.sl (.int .i64))) p6), (.v (.sl .bool) p7)])), (15, (.row 3 (.int .i64) p8 false)), (23, (.mp 107 3 (.arr 9 (.int .i64)) (.int .i64) p9)), (31, (.row 3 (.int .i64) p10 false))])
noncomputable def ancepsref06_Live.l6 (p0 : Bool) (p1 : Int) (p2 : Int) (p3 : Int) (p4 : (List (List Int))) (p5 : (List Bool)) (p6 : (List Bool)) : Option ((List Bool) × Unit) := Go.Proofs.R.loopAt Go.Proofs.C06.ctx (Go.Proofs.R.Einf Go.Proofs.C06.ctx) 77 6 (.mk [(1, (.one (.ref 7 0))), (3, (.one (.row 15))), (4, (.one (.v .bool p0))), (5, (.one (.v (.int .i64) p1)))] [(7, (.box 29 [(.v (.int .i64) p2), (.v (.int .i64) p3), (.v (.sl (.sl (.int .i64))) p4), (.v (.sl .bool) p5)])), (15, (.row 4 .bool p6 false))])
noncomputable def ancepsref06_classes.l14 (p0 : Int) (p1 : Int) (p2 : Int) (p3 : Int) (p4 : (List (List Int))) (p5 : (List Bool)) (p6 : (List Bool)) (p7 : (List Int)) (p8 : (List Int)) (p9 : (List (List Int))) : Option ((List Int) × Unit) := Go.Proofs.R.loopAt Go.Proofs.C06.ctx (Go.Proofs.R.Einf Go.Proofs.C06.ctx) 68 14 (.mk [(1, (.one (.ref 7 0))), (3, (.one (.row 15))), (4, (.one (.row 23))), (6, (.one (.v (.int .i64) p0))), (7, (.one (.row 31))), (8, (.one (.row 39))), (9, (.one (.v (.int .i64) p1)))] [(7, (.box 29 [(.v (.int .i64) p2), (.v (.int .i64) p3), (.v (.sl (.sl (.int .i64))) p4), (.v (.sl .bool) p5)])), (15, (.row 4 .bool p6 false)), (23, (.row 3 (.int .i64) p7 false)), (31, (.row 3 (.int .i64) p8 false)), (39, (.row 40 (.sl (.int .i64)) p9 false))])
noncomputable def automaton_useful.l21 (p0 : (List (List Int))) (p1 : (List Bool)) (p2 : (List Int)) : Option ((List Bool) × Unit) := Go.Proofs.R.loopAt Go.Proofs.C06.ctx (Go.Proofs.R.Einf Go.Proofs.C06.ctx) 76 21 (.mk [(3, (.one (.row 7))), (8, (.one (.row 15))), (9, (.one (.row 23)))] [(7, (.rows 40 3 (.int .i64) p0 .full)), (15, (.row 4 .bool p1 false)), (23, (.row 3 (.int .i64) p2 false))])
noncomputable def automaton_classes.l20 (p0 : Int) (p1 : Int) (p2 : (List (List Int))) (p3 : Int) (p4 : Int) (p5 : (List Int)) (p6 : Int) (p7 : Int) (p8 : Int) (p9 : Int) (p10 : (List (List Int))) (p11 : (List Bool)) (p12 : (List Int)) (p13 : (List ((List Int) × Int))) (p14 : (List Int)) (p15 : (List Int)) : Option ((List Int) × Unit) := Go.Proofs.R.loopAt Go.Proofs.C06.ctx (Go.Proofs.R.Einf Go.Proofs.C06.ctx) 66 20 (.mk [(1, (.one (.ref 7 0))), (4, (.one (.row 15))), (6, (.one (.v (.int .i64) p0))), (7, (.one (.mp 23))), (8, (.one (.row 31))), (9, (.one (.v (.int .i64) p1))), (11, (.one (.ref 39 0))), (46, (.one (.v (.sl (.sl (.int .i64))) p2))), (47, (.one (.v (.int .i64) p3))), (48, (.one (.v (.int .i64) p4))), (63, (.one (.v (.sl (.int .i64)) p5))), (64, (.one (.v (.int .i64) p6))), (65, (.one (.v (.int .i64) p7)))] [(7, (.box 29 [(.v (.int .i64) p8), (.v (.int .i64) p9), (.v (.sl (.sl (.int .i64))) p10), (.v (.sl .bool) p11)])), (15, (.row 3 (.int .i64) p12 false)), (23, (.mp 107 3 (.arr 9 (.int .i64)) (.int .i64) p13)), (31, (.row 3 (.int .i64) p14 false)), (39, (.box 107 [(.v (.arr 9 (.int .i64)) p15)]))])
noncomputable def ancepsref06_Live.l9 (p0 : Bool) (p1 : Int) (p2 : Int) (p3 : Int) (p4 : Int) (p5 : (List (List Int))) (p6 : (List Bool)) (p7 : (List Bool)) : Option ((List Bool) × Unit) := Go.Proofs.R.loopAt Go.Proofs.C06.ctx (Go.Proofs.R.Einf Go.Proofs.C06.ctx) 77 9 (.mk [(1, (.one (.ref 7 0))), (3, (.one (.row 15))), (4, (.one (.v .bool p0))), (5, (.one (.v (.int .i64) p1))), (6, (.one (.v (.int .i64) p2)))] [(7, (.box 29 [(.v (.int .i64) p3), (.v (.int .i64) p4), (.v (.sl (.sl (.int .i64))) p5), (.v (.sl .bool) p6)])), (15, (.row 4 .bool p7 false))])
noncomputable def ancepsref06_classes.l19 (p0 : Int) (p1 : Int) (p2 : Int) (p3 : Int) (p4 : Int) (p5 : (List (List Int))) (p6 : (List Bool)) (p7 : (List Bool)) (p8 : (List Int)) (p9 : (List Int)) (p10 : (List (List Int))) (p11 : (List Int)) : Option ((List Int) × Unit) := Go.Proofs.R.loopAt Go.Proofs.C06.ctx (Go.Proofs.R.Einf Go.Proofs.C06.ctx) 68 19 (.mk [(1, (.one (.ref 7 0))), (3, (.one (.row 15))), (4, (.one (.row 23))), (6, (.one (.v (.int .i64) p0))), (7, (.one (.row 31))), (8, (.one (.row 39))), (9, (.one (.v (.int .i64) p1))), (10, (.one (.row 47))), (11, (.one (.v (.int .i64) p2)))] [(7, (.box 29 [(.v (.int .i64) p3), (.v (.int .i64) p4), (.v (.sl (.sl (.int .i64))) p5), (.v (.sl .bool) p6)])), (15, (.row 4 .bool p7 false)), (23, (.row 3 (.int .i64) p8 false)), (31, (.row 3 (.int .i64) p9 false)), (39, (.row 40 (.sl (.int .i64)) p10 false)), (47, (.row 3 (.int .i64) p11 false))])
noncomputable def automaton_useful.l25 (p0 : (List Int)) (p1 : Int) (p2 : Int) (p3 : (List (List Int))) (p4 : (List Bool)) (p5 : (List Int)) : Option ((List Bool) × Unit) := Go.Proofs.R.loopAt Go.Proofs.C06.ctx (Go.Proofs.R.Einf Go.Proofs.C06.ctx) 76 25 (.mk [(3, (.one (.row 7))), (8, (.one (.row 15))), (9, (.one (.row 23))), (79, (.one (.v (.sl (.int .i64)) p0))), (80, (.one (.v (.int .i64) p1))), (81, (.one (.v (.int .i64) p2)))] [(7, (.rows 40 3 (.int .i64) p3 .full)), (15, (.row 4 .bool p4 false)), (23, (.row 3 (.int .i64) p5 false))])
noncomputable def ancepsref06_index.f (p0 : (List (List Int))) (p1 : (List Int)) : Option (Int × Unit) := (Go.Proofs.R.Einf Go.Proofs.C06.ctx).call 78 [(.one (.v (.sl (.sl (.int .i64))) p0)), (.one (.v (.sl (.int .i64)) p1))]
noncomputable def ancepsref06_index.l2 (p0 : (List (List Int))) (p1 : (List Int)) (p2 : Int) : Option (Int × Unit) := Go.Proofs.R.loopAt Go.Proofs.C06.ctx (Go.Proofs.R.Einf Go.Proofs.C06.ctx) 78 2 (.mk [(0, (.one (.v (.sl (.sl (.int .i64))) p0))), (1, (.one (.v (.sl (.int .i64)) p1))), (5, (.one (.v (.int .i64) p2)))] [])

theorem ancepslaw06_AutomatonRuns.f_eq (p0 : Int) (p1 : Int) (p2 : (List (List Int))) (p3 : (List Bool)) (p4 : (List Int)) : ancepslaw06_AutomatonRuns.f p0 p1 p2 p3 p4 =
  bindD (ancepslaw06_awake.f) fun t0 =>
  ifB (!t0.1)
   (bindD (ancepslaw06_awake.f) fun t1 =>
   some (t1.1, ()))
  (bindD (ancepsref06_Few.f p0 p1 p2 p3) fun t2 =>
   ifB (!t2.1)
    (bindD (ancepslaw06_awake.f) fun t3 =>
    some (t3.1, ()))
   (ifB (decide ((((List.length p4) : Nat) : Int) > (100 : Int)))
     (bindD (ancepslaw06_awake.f) fun t4 =>
     some (t4.1, ()))
    (bindD (ancepslaw06_copied.f p0 p1 p2 p3) fun t5 =>
     bindD (automaton_Valid.f t5.1 t5.2.1 t5.2.2.1 t5.2.2.2.1) fun t6 =>
     bindD (ancepsref06_Valid.f p0 p1 p2 p3) fun t7 =>
     ifB (t6.1 == t7.1)
      (bindD (ancepslaw06_copied.f p0 p1 p2 p3) fun t8 =>
      bindD (slices_Clone_int_int.f p4) fun t9 =>
      bindD (automaton_Run.f t8.1 t8.2.1 t8.2.2.1 t8.2.2.2.1 t9.1) fun t10 =>
      bindD (ancepsref06_Run.f p0 p1 p2 p3 p4) fun t11 =>
      ifB (t10.1 == t11.1)
       (bindD (ancepslaw06_copied.f p0 p1 p2 p3) fun t12 =>
       bindD (slices_Clone_int_int.f p4) fun t13 =>
       bindD (automaton_Accepts.f t12.1 t12.2.1 t12.2.2.1 t12.2.2.2.1 t13.1) fun t14 =>
       bindD (ancepsref06_Accepts.f p0 p1 p2 p3 p4) fun t15 =>
       some ((t14.1 == t15.1), ()))
      (some (false, ())))
     (some (false, ()))))) := (Einf_call Go.Proofs.C06.ctx 4 _).trans (by kernel_rfl)
theorem ancepslaw06_AutomatonShortest.f_eq (p0 : Int) (p1 : Int) (p2 : (List (List Int))) (p3 : (List Bool)) : ancepslaw06_AutomatonShortest.f p0 p1 p2 p3 =
  bindD (ancepslaw06_awake.f) fun t16 =>
  ifB (!t16.1)
   (bindD (ancepslaw06_awake.f) fun t17 =>
   some (t17.1, ()))
  (bindD (ancepsref06_Few.f p0 p1 p2 p3) fun t18 =>
   ifB (!t18.1)
    (bindD (ancepslaw06_awake.f) fun t19 =>
    some (t19.1, ()))
   (bindD (ancepslaw06_copied.f p0 p1 p2 p3) fun t20 =>
    bindD (automaton_Shortest.f t20.1 t20.2.1 t20.2.2.1 t20.2.2.2.1) fun t21 =>
    bindD (ancepsref06_Shortest.f p0 p1 p2 p3) fun t22 =>
    ifB (t21.2.1 != t22.2.1)
     (ifB (t21.2.1 == t22.2.1)
      (bindD (slices_Equal_int_int.f t21.1 t22.1) fun t23 =>
      some (t23.1, ()))
     (some (false, ())))
    (bindD (slices_Equal_int_int.f t21.1 t22.1) fun t24 =>
     ifB (!t24.1)
      (ifB (t21.2.1 == t22.2.1)
       (bindD (slices_Equal_int_int.f t21.1 t22.1) fun t25 =>
       some (t25.1, ()))
      (some (false, ())))
     (ifB (t21.2.1 != (0 : Int))
       (ifB (t21.2.1 == t22.2.1)
        (bindD (slices_Equal_int_int.f t21.1 t22.1) fun t26 =>
        some (t26.1, ()))
       (some (false, ())))
      (bindD (automaton_Accepts.f p0 p1 p2 p3 t21.1) fun t27 =>
       ifB (!t27.1)
        (some (false, ()))
       (ancepslaw06_AutomatonShortest.l10 (0 : Int) p0 p1 p2 p3 t21.1)))))) := (Einf_call Go.Proofs.C06.ctx 7 _).trans (by kernel_rfl)
theorem ancepslaw06_AutomatonMinimal.f_eq (p0 : Int) (p1 : Int) (p2 : (List (List Int))) (p3 : (List Bool)) (p4 : (List Int)) : ancepslaw06_AutomatonMinimal.f p0 p1 p2 p3 p4 =
  bindD (ancepslaw06_awake.f) fun t28 =>
  ifB (!t28.1)
   (bindD (ancepslaw06_awake.f) fun t29 =>
   some (t29.1, ()))
  (bindD (ancepsref06_Few.f p0 p1 p2 p3) fun t30 =>
   ifB (!t30.1)
    (bindD (ancepslaw06_awake.f) fun t31 =>
    some (t31.1, ()))
   (ifB (decide ((((List.length p4) : Nat) : Int) > (100 : Int)))
     (bindD (ancepslaw06_awake.f) fun t32 =>
     some (t32.1, ()))
    (bindD (ancepslaw06_copied.f p0 p1 p2 p3) fun t33 =>
     bindD (automaton_Minimal.f t33.1 t33.2.1 t33.2.2.1 t33.2.2.2.1) fun t34 =>
     bindD (ancepsref06_Minimal.f p0 p1 p2 p3) fun t35 =>
     ifB (t34.2.2.2.2.1 != t35.2.2.2.2.1)
      (ifB (t34.2.2.2.2.1 == t35.2.2.2.2.1)
       (bindD (ancepsref06_SameDFA.f t34.1 t34.2.1 t34.2.2.1 t34.2.2.2.1 t35.1 t35.2.1 t35.2.2.1 t35.2.2.2.1) fun t36 =>
       some (t36.1, ()))
      (some (false, ())))
     (bindD (ancepsref06_SameDFA.f t34.1 t34.2.1 t34.2.2.1 t34.2.2.2.1 t35.1 t35.2.1 t35.2.2.1 t35.2.2.2.1) fun t37 =>
      ifB (!t37.1)
       (ifB (t34.2.2.2.2.1 == t35.2.2.2.2.1)
        (bindD (ancepsref06_SameDFA.f t34.1 t34.2.1 t34.2.2.1 t34.2.2.2.1 t35.1 t35.2.1 t35.2.2.1 t35.2.2.2.1) fun t38 =>
        some (t38.1, ()))
       (some (false, ())))
      (ifB (t34.2.2.2.2.1 != (0 : Int))
        (ifB (t34.2.2.2.2.1 == t35.2.2.2.2.1)
         (bindD (ancepsref06_SameDFA.f t34.1 t34.2.1 t34.2.2.1 t34.2.2.2.1 t35.1 t35.2.1 t35.2.2.1 t35.2.2.2.1) fun t39 =>
         some (t39.1, ()))
        (some (false, ())))
       (bindD (automaton_Minimal.f t34.1 t34.2.1 t34.2.2.1 t34.2.2.2.1) fun t40 =>
        ifB (t40.2.2.2.2.1 == (0 : Int))
         (bindD (ancepsref06_SameDFA.f t40.1 t40.2.1 t40.2.2.1 t40.2.2.2.1 t34.1 t34.2.1 t34.2.2.1 t34.2.2.2.1) fun t41 =>
         ifB t41.1
          (bindD (automaton_Valid.f t34.1 t34.2.1 t34.2.2.1 t34.2.2.2.1) fun t42 =>
          ifB (t42.1 == (0 : Int))
           (bindD (automaton_Accepts.f t34.1 t34.2.1 t34.2.2.1 t34.2.2.2.1 p4) fun t43 =>
           bindD (automaton_Accepts.f p0 p1 p2 p3 p4) fun t44 =>
           some ((t43.1 == t44.1), ()))
          (some (false, ())))
         (some (false, ())))
        (some (false, ())))))))) := (Einf_call Go.Proofs.C06.ctx 5 _).trans (by kernel_rfl)
theorem ancepslaw06_AutomatonProduct.f_eq (p0 : Int) (p1 : Int) (p2 : (List (List Int))) (p3 : (List Bool)) (p4 : Int) (p5 : Int) (p6 : (List (List Int))) (p7 : (List Bool)) (p8 : Int) (p9 : (List Int)) : ancepslaw06_AutomatonProduct.f p0 p1 p2 p3 p4 p5 p6 p7 p8 p9 =
  bindD (ancepslaw06_awake.f) fun t45 =>
  ifB (!t45.1)
   (bindD (ancepslaw06_awake.f) fun t46 =>
   some (t46.1, ()))
  (bindD (ancepslaw06_small.f p0 p1 p2 p3 p4 p5 p6 p7) fun t47 =>
   ifB (!t47.1)
    (bindD (ancepslaw06_awake.f) fun t48 =>
    some (t48.1, ()))
   (ifB (decide ((((List.length p9) : Nat) : Int) > (100 : Int)))
     (bindD (ancepslaw06_awake.f) fun t49 =>
     some (t49.1, ()))
    (bindD (ancepslaw06_copied.f p0 p1 p2 p3) fun t50 =>
     bindD (ancepslaw06_copied.f p4 p5 p6 p7) fun t51 =>
     bindD (automaton_Product.f t50.1 t50.2.1 t50.2.2.1 t50.2.2.2.1 t51.1 t51.2.1 t51.2.2.1 t51.2.2.2.1 p8) fun t52 =>
     bindD (ancepsref06_Product.f p0 p1 p2 p3 p4 p5 p6 p7 p8) fun t53 =>
     ifB (t52.2.2.2.2.1 != t53.2.2.2.2.1)
      (ifB (t52.2.2.2.2.1 == t53.2.2.2.2.1)
       (bindD (ancepsref06_SameDFA.f t52.1 t52.2.1 t52.2.2.1 t52.2.2.2.1 t53.1 t53.2.1 t53.2.2.1 t53.2.2.2.1) fun t54 =>
       some (t54.1, ()))
      (some (false, ())))
     (bindD (ancepsref06_SameDFA.f t52.1 t52.2.1 t52.2.2.1 t52.2.2.2.1 t53.1 t53.2.1 t53.2.2.1 t53.2.2.2.1) fun t55 =>
      ifB (!t55.1)
       (ifB (t52.2.2.2.2.1 == t53.2.2.2.2.1)
        (bindD (ancepsref06_SameDFA.f t52.1 t52.2.1 t52.2.2.1 t52.2.2.2.1 t53.1 t53.2.1 t53.2.2.1 t53.2.2.2.1) fun t56 =>
        some (t56.1, ()))
       (some (false, ())))
      (ifB (t52.2.2.2.2.1 != (0 : Int))
        (ifB (t52.2.2.2.2.1 == t53.2.2.2.2.1)
         (bindD (ancepsref06_SameDFA.f t52.1 t52.2.1 t52.2.2.1 t52.2.2.2.1 t53.1 t53.2.1 t53.2.2.1 t53.2.2.2.1) fun t57 =>
         some (t57.1, ()))
        (some (false, ())))
       (bindD (automaton_Accepts.f p0 p1 p2 p3 p9) fun t58 =>
        bindD (automaton_Accepts.f p4 p5 p6 p7 p9) fun t59 =>
        ifB t58.1
         (ifB (p8 == (2 : Int))
          (ifB t58.1
           (bindD (automaton_Accepts.f t52.1 t52.2.1 t52.2.2.1 t52.2.2.2.1 p9) fun t60 =>
           some ((t60.1 == true), ()))
          (bindD (automaton_Accepts.f t52.1 t52.2.1 t52.2.2.1 t52.2.2.2.1 p9) fun t61 =>
           some ((t61.1 == t59.1), ())))
         (ifB (p8 == (3 : Int))
           (ifB t58.1
            (bindD (automaton_Accepts.f t52.1 t52.2.1 t52.2.2.1 t52.2.2.2.1 p9) fun t62 =>
            some ((t62.1 == (!t59.1)), ()))
           (bindD (automaton_Accepts.f t52.1 t52.2.1 t52.2.2.1 t52.2.2.2.1 p9) fun t63 =>
            some ((t63.1 == false), ())))
          (bindD (automaton_Accepts.f t52.1 t52.2.1 t52.2.2.1 t52.2.2.2.1 p9) fun t64 =>
           some ((t64.1 == t59.1), ()))))
        (ifB (p8 == (2 : Int))
          (ifB t58.1
           (bindD (automaton_Accepts.f t52.1 t52.2.1 t52.2.2.1 t52.2.2.2.1 p9) fun t65 =>
           some ((t65.1 == true), ()))
          (bindD (automaton_Accepts.f t52.1 t52.2.1 t52.2.2.1 t52.2.2.2.1 p9) fun t66 =>
           some ((t66.1 == t59.1), ())))
         (ifB (p8 == (3 : Int))
           (ifB t58.1
            (bindD (automaton_Accepts.f t52.1 t52.2.1 t52.2.2.1 t52.2.2.2.1 p9) fun t67 =>
            some ((t67.1 == (!t59.1)), ()))
           (bindD (automaton_Accepts.f t52.1 t52.2.1 t52.2.2.1 t52.2.2.2.1 p9) fun t68 =>
            some ((t68.1 == false), ())))
          (bindD (automaton_Accepts.f t52.1 t52.2.1 t52.2.2.1 t52.2.2.2.1 p9) fun t69 =>
           some ((t69.1 == false), ())))))))))) := (Einf_call Go.Proofs.C06.ctx 6 _).trans (by kernel_rfl)
theorem ancepslaw06_AutomatonSame.f_eq (p0 : Int) (p1 : Int) (p2 : (List (List Int))) (p3 : (List Bool)) (p4 : Int) (p5 : Int) (p6 : (List (List Int))) (p7 : (List Bool)) : ancepslaw06_AutomatonSame.f p0 p1 p2 p3 p4 p5 p6 p7 =
  bindD (ancepslaw06_awake.f) fun t70 =>
  ifB (!t70.1)
   (bindD (ancepslaw06_awake.f) fun t71 =>
   some (t71.1, ()))
  (bindD (ancepslaw06_small.f p0 p1 p2 p3 p4 p5 p6 p7) fun t72 =>
   ifB (!t72.1)
    (bindD (ancepslaw06_awake.f) fun t73 =>
    some (t73.1, ()))
   (bindD (ancepslaw06_copied.f p0 p1 p2 p3) fun t74 =>
    bindD (ancepslaw06_copied.f p4 p5 p6 p7) fun t75 =>
    bindD (automaton_Same.f t74.1 t74.2.1 t74.2.2.1 t74.2.2.2.1 t75.1 t75.2.1 t75.2.2.1 t75.2.2.2.1) fun t76 =>
    bindD (ancepsref06_Same.f p0 p1 p2 p3 p4 p5 p6 p7) fun t77 =>
    bindD (ancepslaw06_copied.f p0 p1 p2 p3) fun t78 =>
    bindD (ancepslaw06_copied.f p4 p5 p6 p7) fun t79 =>
    bindD (automaton_Difference.f t78.1 t78.2.1 t78.2.2.1 t78.2.2.2.1 t79.1 t79.2.1 t79.2.2.1 t79.2.2.2.1) fun t80 =>
    bindD (ancepsref06_Difference.f p0 p1 p2 p3 p4 p5 p6 p7) fun t81 =>
    ifB (!(t76.1 == t77.1))
     (some (false, ()))
    (ifB (t76.2.1 != t77.2.1)
      (some (false, ()))
     (ifB (t80.2.1 != t81.2.1)
       (some (false, ()))
      (bindD (slices_Equal_int_int.f t80.1 t81.1) fun t82 =>
       ifB (!t82.1)
        (some (false, ()))
       (ifB (t80.2.1 != (0 : Int))
         (some (true, ()))
        (ifB (!t76.1)
          (bindD (automaton_Accepts.f p0 p1 p2 p3 t80.1) fun t83 =>
          bindD (automaton_Accepts.f p4 p5 p6 p7 t80.1) fun t84 =>
          some ((!(t83.1 == t84.1)), ()))
         (some (false, ()))))))))) := (Einf_call Go.Proofs.C06.ctx 8 _).trans (by kernel_rfl)
theorem ancepslaw06_AutomatonParts.f_eq (p0 : Int) (p1 : (List Int)) (p2 : Int) (p3 : Int) (p4 : (List Int)) (p5 : Int) (p6 : Int) : ancepslaw06_AutomatonParts.f p0 p1 p2 p3 p4 p5 p6 =
  bindD (ancepsref06_Made.f p0 p1 p2) fun t85 =>
  bindD (ancepsref06_Made.f p0 p4 p5) fun t86 =>
  bindD (ancepslaw06_awake.f) fun t87 =>
  ifB (!t87.1)
   (some (false, ()))
  (bindD (automaton_Product.f t85.1 t85.2.1 t85.2.2.1 t85.2.2.2.1 t86.1 t86.2.1 t86.2.2.1 t86.2.2.2.1 (1 : Int)) fun t88 =>
   bindD (automaton_Product.f t86.1 t86.2.1 t86.2.2.1 t86.2.2.2.1 t85.1 t85.2.1 t85.2.2.1 t85.2.2.2.1 (1 : Int)) fun t89 =>
   bindD (automaton_Product.f t85.1 t85.2.1 t85.2.2.1 t85.2.2.2.1 t86.1 t86.2.1 t86.2.2.1 t86.2.2.2.1 (2 : Int)) fun t90 =>
   bindD (automaton_Product.f t86.1 t86.2.1 t86.2.2.1 t86.2.2.2.1 t85.1 t85.2.1 t85.2.2.1 t85.2.2.2.1 (2 : Int)) fun t91 =>
   bindD (automaton_Product.f t85.1 t85.2.1 t85.2.2.1 t85.2.2.2.1 t86.1 t86.2.1 t86.2.2.1 t86.2.2.2.1 (3 : Int)) fun t92 =>
   ifB (t88.2.2.2.2.1 != (0 : Int))
    (some (false, ()))
   (ifB (t89.2.2.2.2.1 != (0 : Int))
     (some (false, ()))
    (ifB (t90.2.2.2.2.1 != (0 : Int))
      (some (false, ()))
     (ifB (t91.2.2.2.2.1 != (0 : Int))
       (some (false, ()))
      (ifB (t92.2.2.2.2.1 != (0 : Int))
        (some (false, ()))
       (bindD (ancepsref06_SameDFA.f t88.1 t88.2.1 t88.2.2.1 t88.2.2.2.1 t89.1 t89.2.1 t89.2.2.1 t89.2.2.2.1) fun t93 =>
        ifB (!t93.1)
         (some (false, ()))
        (bindD (ancepsref06_SameDFA.f t90.1 t90.2.1 t90.2.2.1 t90.2.2.2.1 t91.1 t91.2.1 t91.2.2.1 t91.2.2.2.1) fun t94 =>
         ifB (!t94.1)
          (some (false, ()))
         (bindD (automaton_Product.f t88.1 t88.2.1 t88.2.2.1 t88.2.2.2.1 t92.1 t92.2.1 t92.2.2.1 t92.2.2.2.1 (2 : Int)) fun t95 =>
          bindD (automaton_Minimal.f t85.1 t85.2.1 t85.2.2.1 t85.2.2.2.1) fun t96 =>
          ifB (t95.2.2.2.2.1 != (0 : Int))
           (some (false, ()))
          (ifB (t96.2.2.2.2.1 != (0 : Int))
            (some (false, ()))
           (bindD (ancepsref06_SameDFA.f t95.1 t95.2.1 t95.2.2.1 t95.2.2.2.1 t96.1 t96.2.1 t96.2.2.1 t96.2.2.2.1) fun t97 =>
            ifB (!t97.1)
             (some (false, ()))
            (bindD (automaton_Count.f t85.1 t85.2.1 t85.2.2.1 t85.2.2.2.1 (Go.IntKind.wrap Go.IntKind.i64 (Int.tmod p6 (21 : Int)))) fun t98 =>
             bindD (automaton_Count.f t88.1 t88.2.1 t88.2.2.1 t88.2.2.2.1 (Go.IntKind.wrap Go.IntKind.i64 (Int.tmod p6 (21 : Int)))) fun t99 =>
             bindD (automaton_Count.f t92.1 t92.2.1 t92.2.2.1 t92.2.2.2.1 (Go.IntKind.wrap Go.IntKind.i64 (Int.tmod p6 (21 : Int)))) fun t100 =>
             ifB (t98.2.1 == (0 : Int))
              (ifB (t99.2.1 == (0 : Int))
               (ifB (t100.2.1 == (0 : Int))
                (some ((t98.1 == (Go.IntKind.wrap Go.IntKind.i64 (t99.1 + t100.1))), ()))
               (some (false, ())))
              (some (false, ())))
             (some (false, ()))))))))))))) := (Einf_call Go.Proofs.C06.ctx 3 _).trans (by kernel_rfl)
theorem ancepslaw06_AutomatonChecks.f_eq (p0 : Int) (p1 : Int) (p2 : (List (List Int))) (p3 : (List Bool)) (p4 : Int) (p5 : Int) (p6 : (List (List Int))) (p7 : (List Bool)) (p8 : (List (Int × Int))) : ancepslaw06_AutomatonChecks.f p0 p1 p2 p3 p4 p5 p6 p7 p8 =
  bindD (ancepslaw06_awake.f) fun t101 =>
  ifB (!t101.1)
   (bindD (ancepslaw06_awake.f) fun t102 =>
   some (t102.1, ()))
  (bindD (ancepslaw06_small.f p0 p1 p2 p3 p4 p5 p6 p7) fun t103 =>
   ifB (!t103.1)
    (bindD (ancepslaw06_awake.f) fun t104 =>
    some (t104.1, ()))
   (ifB (decide ((((List.length p8) : Nat) : Int) > (60 : Int)))
     (bindD (ancepslaw06_awake.f) fun t105 =>
     some (t105.1, ()))
    (bindD (ancepslaw06_copied.f p0 p1 p2 p3) fun t106 =>
     bindD (ancepslaw06_copied.f p4 p5 p6 p7) fun t107 =>
     bindD (api_Pair.f p8) fun t108 =>
     bindD (automaton_CheckRelation.f t106.1 t106.2.1 t106.2.2.1 t106.2.2.2.1 t107.1 t107.2.1 t107.2.2.1 t107.2.2.2.1 t108.1) fun t109 =>
     bindD (ancepsref06_CheckRelation.f p0 p1 p2 p3 p4 p5 p6 p7 p8) fun t110 =>
     ifB (!(t109.1 == t110.1))
      (some (false, ()))
     (bindD (automaton_Difference.f p0 p1 p2 p3 p4 p5 p6 p7) fun t111 =>
      ifB (!t109.1)
       (some (true, ()))
      (some ((t111.2.1 == (10 : Int)), ())))))) := (Einf_call Go.Proofs.C06.ctx 9 _).trans (by kernel_rfl)
theorem ancepslaw06_awake.f_eq : ancepslaw06_awake.f =
  bindD (automaton_Minimal.f (2 : Int) (0 : Int) (((1 : Int) :: ((-(1 : Int)) :: ([] : (List Int)))) :: (((2 : Int) :: ((0 : Int) :: ([] : (List Int)))) :: (((-(1 : Int)) :: ((-(1 : Int)) :: ([] : (List Int)))) :: ([] : (List (List Int)))))) (false :: (true :: (false :: ([] : (List Bool)))))) fun t112 =>
  bindD (automaton_Shortest.f (2 : Int) (0 : Int) (((1 : Int) :: ((-(1 : Int)) :: ([] : (List Int)))) :: (((-(1 : Int)) :: ((0 : Int) :: ([] : (List Int)))) :: ([] : (List (List Int))))) (false :: (true :: ([] : (List Bool))))) fun t113 =>
  bindD (automaton_Count.f (2 : Int) (0 : Int) (((1 : Int) :: ((-(1 : Int)) :: ([] : (List Int)))) :: (((-(1 : Int)) :: ((0 : Int) :: ([] : (List Int)))) :: ([] : (List (List Int))))) (false :: (true :: ([] : (List Bool)))) (3 : Int)) fun t114 =>
  bindD (automaton_Count.f (2 : Int) (0 : Int) (((1 : Int) :: ((-(1 : Int)) :: ([] : (List Int)))) :: (((-(1 : Int)) :: ((0 : Int) :: ([] : (List Int)))) :: ([] : (List (List Int))))) (false :: (true :: ([] : (List Bool)))) (2 : Int)) fun t115 =>
  bindD (automaton_Product.f (2 : Int) (0 : Int) (((1 : Int) :: ((-(1 : Int)) :: ([] : (List Int)))) :: (((-(1 : Int)) :: ((0 : Int) :: ([] : (List Int)))) :: ([] : (List (List Int))))) (false :: (true :: ([] : (List Bool)))) (2 : Int) (0 : Int) (((1 : Int) :: ((-(1 : Int)) :: ([] : (List Int)))) :: (((2 : Int) :: ((0 : Int) :: ([] : (List Int)))) :: (((-(1 : Int)) :: ((-(1 : Int)) :: ([] : (List Int)))) :: ([] : (List (List Int)))))) (false :: (true :: (false :: ([] : (List Bool))))) (3 : Int)) fun t116 =>
  bindD ((ixAt (false :: (true :: (false :: ([] : (List Bool))))) (2 : Int))) fun t117 =>
  bindD ((ixAt (false :: (true :: (false :: ([] : (List Bool))))) (2 : Int))) fun t118 =>
  bindD (automaton_Difference.f (2 : Int) (0 : Int) (((1 : Int) :: ((-(1 : Int)) :: ([] : (List Int)))) :: (((-(1 : Int)) :: ((0 : Int) :: ([] : (List Int)))) :: ([] : (List (List Int))))) (false :: (true :: ([] : (List Bool)))) (2 : Int) (0 : Int) (((1 : Int) :: ((-(1 : Int)) :: ([] : (List Int)))) :: (((2 : Int) :: ((0 : Int) :: ([] : (List Int)))) :: (((-(1 : Int)) :: ((-(1 : Int)) :: ([] : (List Int)))) :: ([] : (List (List Int)))))) (setRow (false :: (true :: (false :: ([] : (List Bool))))) (2 : Int) true)) fun t119 =>
  ifB (t112.2.2.2.2.1 == (0 : Int))
   (bindD (ancepsref06_SameDFA.f t112.1 t112.2.1 t112.2.2.1 t112.2.2.2.1 (2 : Int) (0 : Int) (((1 : Int) :: ((-(1 : Int)) :: ([] : (List Int)))) :: (((-(1 : Int)) :: ((0 : Int) :: ([] : (List Int)))) :: ([] : (List (List Int))))) (false :: (true :: ([] : (List Bool))))) fun t120 =>
   ifB t120.1
    (ifB (t113.2.1 == (0 : Int))
     (bindD (slices_Equal_int_int.f t113.1 ((0 : Int) :: ([] : (List Int)))) fun t121 =>
     ifB t121.1
      (ifB (t114.2.1 == (0 : Int))
       (ifB (t114.1 == (1 : Int))
        (ifB (t115.2.1 == (0 : Int))
         (ifB (t115.1 == (0 : Int))
          (ifB (t116.2.2.2.2.1 == (0 : Int))
           (ifB ((((List.length t116.2.2.1) : Nat) : Int) == (0 : Int))
            (ifB (t116.2.1 == (-(1 : Int)))
             (ifB (t119.2.1 == (0 : Int))
              (bindD (slices_Equal_int_int.f t119.1 ((0 : Int) :: ((0 : Int) :: ([] : (List Int))))) fun t122 =>
              some (t122.1, ()))
             (some (false, ())))
            (some (false, ())))
           (some (false, ())))
          (some (false, ())))
         (some (false, ())))
        (some (false, ())))
       (some (false, ())))
      (some (false, ())))
     (some (false, ())))
    (some (false, ())))
   (some (false, ())))
  (some (false, ())) := (Einf_call Go.Proofs.C06.ctx 12 _).trans (by kernel_rfl)
theorem ancepsref06_Few.f_eq (p0 : Int) (p1 : Int) (p2 : (List (List Int))) (p3 : (List Bool)) : ancepsref06_Few.f p0 p1 p2 p3 =
  ifB (decide ((((List.length p2) : Nat) : Int) > (410 : Int)))
   (some (false, ()))
  (ifB (decide ((((List.length p3) : Nat) : Int) > (420 : Int)))
    (some (false, ()))
   (ancepsref06_Few.l5 (0 : Int) (0 : Int) p0 p1 p2 p3)) := (Einf_call Go.Proofs.C06.ctx 17 _).trans (by kernel_rfl)
theorem ancepslaw06_copied.f_eq (p0 : Int) (p1 : Int) (p2 : (List (List Int))) (p3 : (List Bool)) : ancepslaw06_copied.f p0 p1 p2 p3 =
  bindD (slices_Clone_bool_bool.f p3) fun t123 =>
  ancepslaw06_copied.l3 p2 (((List.length p2) : Nat) : Int) (0 : Int) (0 : Int) (0 : Int) p0 p1 ([] : (List (List Int))) ([] : (List Bool)) ([] : (List (List Int))) t123.1 := (Einf_call Go.Proofs.C06.ctx 19 _).trans (by kernel_rfl)
theorem automaton_Valid.f_eq (p0 : Int) (p1 : Int) (p2 : (List (List Int))) (p3 : (List Bool)) : automaton_Valid.f p0 p1 p2 p3 =
  ifB (decide (p0 < (1 : Int)))
   (some ((1 : Int), ()))
  (ifB (decide (p0 > (8 : Int)))
    (some ((1 : Int), ()))
   (ifB (decide ((((List.length p2) : Nat) : Int) > (400 : Int)))
     (some ((1 : Int), ()))
    (ifB ((((List.length p3) : Nat) : Int) != (((List.length p2) : Nat) : Int))
      (some ((1 : Int), ()))
     (ifB (decide (p1 < (0 : Int)))
       (ifB (decide ((((List.length p2) : Nat) : Int) > (0 : Int)))
        (some ((1 : Int), ()))
       (ifB (p1 != (-(1 : Int)))
         (some ((1 : Int), ()))
        (ifB (decide (p1 ≥ (((List.length p2) : Nat) : Int)))
          (some ((1 : Int), ()))
         (automaton_Valid.l7 p2 (((List.length p2) : Nat) : Int) (0 : Int) p0 p1 p2 p3 (((List.length p2) : Nat) : Int)))))
      (ifB (decide (p1 ≥ (((List.length p2) : Nat) : Int)))
        (some ((1 : Int), ()))
       (automaton_Valid.l7 p2 (((List.length p2) : Nat) : Int) (0 : Int) p0 p1 p2 p3 (((List.length p2) : Nat) : Int))))))) := (Einf_call Go.Proofs.C06.ctx 18 _).trans (by kernel_rfl)
theorem ancepsref06_Valid.f_eq (p0 : Int) (p1 : Int) (p2 : (List (List Int))) (p3 : (List Bool)) : ancepsref06_Valid.f p0 p1 p2 p3 =
  ifB (decide (p0 < (1 : Int)))
   (some ((1 : Int), ()))
  (ifB (decide (p0 > (8 : Int)))
    (some ((1 : Int), ()))
   (ifB (decide ((((List.length p2) : Nat) : Int) > (400 : Int)))
     (some ((1 : Int), ()))
    (ifB ((((List.length p3) : Nat) : Int) != (((List.length p2) : Nat) : Int))
      (some ((1 : Int), ()))
     (ifB ((((List.length p2) : Nat) : Int) == (0 : Int))
       (ifB (p1 != (-(1 : Int)))
        (some ((1 : Int), ()))
       (ifB (decide ((((List.length p2) : Nat) : Int) > (0 : Int)))
         (ifB (decide (p1 < (0 : Int)))
          (some ((1 : Int), ()))
         (ifB (decide (p1 ≥ (((List.length p2) : Nat) : Int)))
           (some ((1 : Int), ()))
          (ancepsref06_Valid.l7 (((List.length p2) : Nat) : Int) (0 : Int) p0 p1 p2 p3)))
        (ancepsref06_Valid.l7 (((List.length p2) : Nat) : Int) (0 : Int) p0 p1 p2 p3)))
      (ifB (decide ((((List.length p2) : Nat) : Int) > (0 : Int)))
        (ifB (decide (p1 < (0 : Int)))
         (some ((1 : Int), ()))
        (ifB (decide (p1 ≥ (((List.length p2) : Nat) : Int)))
          (some ((1 : Int), ()))
         (ancepsref06_Valid.l7 (((List.length p2) : Nat) : Int) (0 : Int) p0 p1 p2 p3)))
       (ancepsref06_Valid.l7 (((List.length p2) : Nat) : Int) (0 : Int) p0 p1 p2 p3)))))) := (Einf_call Go.Proofs.C06.ctx 20 _).trans (by kernel_rfl)
theorem slices_Clone_int_int.f_eq (p0 : (List Int)) : slices_Clone_int_int.f p0 =
  bindD ((Go.Proofs.R.grow (List.length p0))) fun t124 =>
  some (p0, ()) := (Einf_call Go.Proofs.C06.ctx 22 _).trans (by kernel_rfl)
theorem automaton_Run.f_eq (p0 : Int) (p1 : Int) (p2 : (List (List Int))) (p3 : (List Bool)) (p4 : (List Int)) : automaton_Run.f p0 p1 p2 p3 p4 =
  bindD (automaton_Valid.f p0 p1 p2 p3) fun t125 =>
  ifB (t125.1 != (0 : Int))
   (some ((-(1 : Int)), ()))
  (automaton_Run.l5 p1 p4 (((List.length p4) : Nat) : Int) (0 : Int) p0 p1 p2 p3) := (Einf_call Go.Proofs.C06.ctx 21 _).trans (by kernel_rfl)
theorem ancepsref06_Run.f_eq (p0 : Int) (p1 : Int) (p2 : (List (List Int))) (p3 : (List Bool)) (p4 : (List Int)) : ancepsref06_Run.f p0 p1 p2 p3 p4 =
  bindD (ancepsref06_Valid.f p0 p1 p2 p3) fun t126 =>
  ifB (t126.1 != (0 : Int))
   (some ((-(1 : Int)), ()))
  (bindD (ancepsref06_From.f p0 p1 p2 p3 p1 p4) fun t127 =>
   some (t127.1, ())) := (Einf_call Go.Proofs.C06.ctx 23 _).trans (by kernel_rfl)
theorem automaton_Accepts.f_eq (p0 : Int) (p1 : Int) (p2 : (List (List Int))) (p3 : (List Bool)) (p4 : (List Int)) : automaton_Accepts.f p0 p1 p2 p3 p4 =
  bindD (automaton_Valid.f p0 p1 p2 p3) fun t128 =>
  ifB (t128.1 == (0 : Int))
   (bindD (automaton_Run.f p0 p1 p2 p3 p4) fun t129 =>
   bindD (automaton_ends.f p0 p1 p2 p3 t129.1) fun t130 =>
   some (t130.1, ()))
  (some (false, ())) := (Einf_call Go.Proofs.C06.ctx 24 _).trans (by kernel_rfl)
theorem ancepsref06_Accepts.f_eq (p0 : Int) (p1 : Int) (p2 : (List (List Int))) (p3 : (List Bool)) (p4 : (List Int)) : ancepsref06_Accepts.f p0 p1 p2 p3 p4 =
  bindD (ancepsref06_Run.f p0 p1 p2 p3 p4) fun t131 =>
  ifB (decide (t131.1 ≥ (0 : Int)))
   (bindD ((ixAt p3 t131.1)) fun t132 =>
   some (t132, ()))
  (some (false, ())) := (Einf_call Go.Proofs.C06.ctx 25 _).trans (by kernel_rfl)
theorem automaton_Shortest.f_eq (p0 : Int) (p1 : Int) (p2 : (List (List Int))) (p3 : (List Bool)) : automaton_Shortest.f p0 p1 p2 p3 =
  bindD (automaton_Valid.f p0 p1 p2 p3) fun t133 =>
  ifB (t133.1 != (0 : Int))
   (some (([] : (List Int)), (t133.1, ())))
  (bindD (automaton_Difference.f p0 p1 p2 p3 p0 (-(1 : Int)) ([] : (List (List Int))) ([] : (List Bool))) fun t134 =>
   some (t134.1, (t134.2.1, ()))) := (Einf_call Go.Proofs.C06.ctx 29 _).trans (by kernel_rfl)
theorem ancepsref06_Shortest.f_eq (p0 : Int) (p1 : Int) (p2 : (List (List Int))) (p3 : (List Bool)) : ancepsref06_Shortest.f p0 p1 p2 p3 =
  bindD (ancepsref06_Valid.f p0 p1 p2 p3) fun t135 =>
  ifB (t135.1 != (0 : Int))
   (some (([] : (List Int)), (t135.1, ())))
  (bindD (ancepsref06_Difference.f p0 p1 p2 p3 p0 (-(1 : Int)) ([] : (List (List Int))) ([] : (List Bool))) fun t136 =>
   some (t136.1, (t136.2.1, ()))) := (Einf_call Go.Proofs.C06.ctx 30 _).trans (by kernel_rfl)
theorem slices_Equal_int_int.f_eq (p0 : (List Int)) (p1 : (List Int)) : slices_Equal_int_int.f p0 p1 =
  ifB ((((List.length p0) : Nat) : Int) != (((List.length p1) : Nat) : Int))
   (some (false, ()))
  (slices_Equal_int_int.l4 p0 p1 (((List.length p0) : Nat) : Int) (0 : Int)) := (Einf_call Go.Proofs.C06.ctx 31 _).trans (by kernel_rfl)
theorem ancepslaw06_AutomatonShortest.l10_eq (p0 : Int) (p1 : Int) (p2 : Int) (p3 : (List (List Int))) (p4 : (List Bool)) (p5 : (List Int)) : ancepslaw06_AutomatonShortest.l10 p0 p1 p2 p3 p4 p5 =
  ifB (decide (p0 < (((List.length p5) : Nat) : Int)))
   (ifB (decide (p0 < (30 : Int)))
    (bindD (automaton_Count.f p1 p2 p3 p4 p0) fun t137 =>
    ifB (t137.2.1 != (0 : Int))
     (some (false, ()))
    (ifB (t137.1 != (0 : Int))
      (some (false, ()))
     (ancepslaw06_AutomatonShortest.l10 (Go.IntKind.wrap Go.IntKind.i64 (p0 + (1 : Int))) p1 p2 p3 p4 p5)))
   (some (true, ())))
  (some (true, ())) := (loopAt_step Go.Proofs.C06.ctx 7 10 _).trans (by kernel_rfl)
theorem automaton_Minimal.f_eq (p0 : Int) (p1 : Int) (p2 : (List (List Int))) (p3 : (List Bool)) : automaton_Minimal.f p0 p1 p2 p3 =
  bindD (automaton_Valid.f p0 p1 p2 p3) fun t138 =>
  ifB (t138.1 != (0 : Int))
   (some ((0 : Int), ((0 : Int), (([] : (List (List Int))), (([] : (List Bool)), (t138.1, ()))))))
  (bindD (automaton_minimal.f p0 p1 p2 p3) fun t139 =>
   some (t139.1, (t139.2.1, (t139.2.2.1, (t139.2.2.2.1, ((0 : Int), ())))))) := (Einf_call Go.Proofs.C06.ctx 15 _).trans (by kernel_rfl)
theorem ancepsref06_Minimal.f_eq (p0 : Int) (p1 : Int) (p2 : (List (List Int))) (p3 : (List Bool)) : ancepsref06_Minimal.f p0 p1 p2 p3 =
  bindD (ancepsref06_Valid.f p0 p1 p2 p3) fun t140 =>
  ifB (t140.1 != (0 : Int))
   (some ((0 : Int), ((0 : Int), (([] : (List (List Int))), (([] : (List Bool)), (t140.1, ()))))))
  (bindD (ancepsref06_minimal.f p0 p1 p2 p3) fun t141 =>
   some (t141.1, (t141.2.1, (t141.2.2.1, (t141.2.2.2.1, ((0 : Int), ())))))) := (Einf_call Go.Proofs.C06.ctx 26 _).trans (by kernel_rfl)
theorem ancepsref06_SameDFA.f_eq (p0 : Int) (p1 : Int) (p2 : (List (List Int))) (p3 : (List Bool)) (p4 : Int) (p5 : Int) (p6 : (List (List Int))) (p7 : (List Bool)) : ancepsref06_SameDFA.f p0 p1 p2 p3 p4 p5 p6 p7 =
  ifB (p0 != p4)
   (some (false, ()))
  (ifB (p1 != p5)
    (some (false, ()))
   (ifB ((((List.length p2) : Nat) : Int) != (((List.length p6) : Nat) : Int))
     (some (false, ()))
    (ifB ((((List.length p3) : Nat) : Int) != (((List.length p7) : Nat) : Int))
      (some (false, ()))
     (ancepsref06_SameDFA.l4 (0 : Int) p0 p1 p2 p3 p4 p5 p6 p7)))) := (Einf_call Go.Proofs.C06.ctx 14 _).trans (by kernel_rfl)
theorem ancepslaw06_small.f_eq (p0 : Int) (p1 : Int) (p2 : (List (List Int))) (p3 : (List Bool)) (p4 : Int) (p5 : Int) (p6 : (List (List Int))) (p7 : (List Bool)) : ancepslaw06_small.f p0 p1 p2 p3 p4 p5 p6 p7 =
  bindD (ancepsref06_Few.f p0 p1 p2 p3) fun t142 =>
  ifB t142.1
   (bindD (ancepsref06_Few.f p4 p5 p6 p7) fun t143 =>
   ifB t143.1
    (some ((decide ((Go.IntKind.wrap Go.IntKind.i64 ((((List.length p2) : Nat) : Int) * (((List.length p6) : Nat) : Int))) ≤ (900 : Int))), ()))
   (some (false, ())))
  (some (false, ())) := (Einf_call Go.Proofs.C06.ctx 27 _).trans (by kernel_rfl)
theorem automaton_Product.f_eq (p0 : Int) (p1 : Int) (p2 : (List (List Int))) (p3 : (List Bool)) (p4 : Int) (p5 : Int) (p6 : (List (List Int))) (p7 : (List Bool)) (p8 : Int) : automaton_Product.f p0 p1 p2 p3 p4 p5 p6 p7 p8 =
  bindD (automaton_both.f p0 p1 p2 p3 p4 p5 p6 p7) fun t144 =>
  ifB (t144.1 != (0 : Int))
   (some ((0 : Int), ((0 : Int), (([] : (List (List Int))), (([] : (List Bool)), (t144.1, ()))))))
  (ifB (p8 != (1 : Int))
    (ifB (p8 != (2 : Int))
     (ifB (p8 != (3 : Int))
      (some ((0 : Int), ((0 : Int), (([] : (List (List Int))), (([] : (List Bool)), ((6 : Int), ()))))))
     (bindD (automaton_visits.f p0 p1 p2 p3 p4 p5 p6 p7) fun t145 =>
      automaton_Product.l9 p8 (((List.length t145.1) : Nat) : Int) (0 : Int) p0 p1 p2 p3 p4 p5 p6 p7 (0 : Int) (0 : Int) t145.1 ([] : (List ((Int × Int) × Int))) ([] : (List (List Int))) ([] : (List Bool))))
    (bindD (automaton_visits.f p0 p1 p2 p3 p4 p5 p6 p7) fun t146 =>
     automaton_Product.l9 p8 (((List.length t146.1) : Nat) : Int) (0 : Int) p0 p1 p2 p3 p4 p5 p6 p7 (0 : Int) (0 : Int) t146.1 ([] : (List ((Int × Int) × Int))) ([] : (List (List Int))) ([] : (List Bool))))
   (bindD (automaton_visits.f p0 p1 p2 p3 p4 p5 p6 p7) fun t147 =>
    automaton_Product.l9 p8 (((List.length t147.1) : Nat) : Int) (0 : Int) p0 p1 p2 p3 p4 p5 p6 p7 (0 : Int) (0 : Int) t147.1 ([] : (List ((Int × Int) × Int))) ([] : (List (List Int))) ([] : (List Bool)))) := (Einf_call Go.Proofs.C06.ctx 13 _).trans (by kernel_rfl)
theorem ancepsref06_Product.f_eq (p0 : Int) (p1 : Int) (p2 : (List (List Int))) (p3 : (List Bool)) (p4 : Int) (p5 : Int) (p6 : (List (List Int))) (p7 : (List Bool)) (p8 : Int) : ancepsref06_Product.f p0 p1 p2 p3 p4 p5 p6 p7 p8 =
  bindD (ancepsref06_both.f p0 p1 p2 p3 p4 p5 p6 p7) fun t148 =>
  ifB (t148.1 != (0 : Int))
   (some ((0 : Int), ((0 : Int), (([] : (List (List Int))), (([] : (List Bool)), (t148.1, ()))))))
  (ifB (decide (p8 < (1 : Int)))
    (some ((0 : Int), ((0 : Int), (([] : (List (List Int))), (([] : (List Bool)), ((6 : Int), ()))))))
   (ifB (decide (p8 > (3 : Int)))
     (some ((0 : Int), ((0 : Int), (([] : (List (List Int))), (([] : (List Bool)), ((6 : Int), ()))))))
    (bindD (ancepsref06_walk.f p0 p1 p2 p3 p4 p5 p6 p7) fun t149 =>
     ancepsref06_Product.l9 p8 (0 : Int) p0 p1 p2 p3 p4 p5 p6 p7 (0 : Int) (0 : Int) t149.1 ([] : (List ((Int × Int) × Int))) ([] : (List (List Int))) ([] : (List Bool))))) := (Einf_call Go.Proofs.C06.ctx 28 _).trans (by kernel_rfl)
theorem automaton_Same.f_eq (p0 : Int) (p1 : Int) (p2 : (List (List Int))) (p3 : (List Bool)) (p4 : Int) (p5 : Int) (p6 : (List (List Int))) (p7 : (List Bool)) : automaton_Same.f p0 p1 p2 p3 p4 p5 p6 p7 =
  bindD (automaton_both.f p0 p1 p2 p3 p4 p5 p6 p7) fun t150 =>
  ifB (t150.1 != (0 : Int))
   (some (false, (t150.1, ())))
  (bindD (automaton_visits.f p0 p1 p2 p3 p4 p5 p6 p7) fun t151 =>
   bindD (automaton_differ.f p0 p1 p2 p3 p4 p5 p6 p7 t151.1) fun t152 =>
   some ((decide (t152.1 < (0 : Int))), ((0 : Int), ()))) := (Einf_call Go.Proofs.C06.ctx 32 _).trans (by kernel_rfl)
theorem ancepsref06_Same.f_eq (p0 : Int) (p1 : Int) (p2 : (List (List Int))) (p3 : (List Bool)) (p4 : Int) (p5 : Int) (p6 : (List (List Int))) (p7 : (List Bool)) : ancepsref06_Same.f p0 p1 p2 p3 p4 p5 p6 p7 =
  bindD (ancepsref06_both.f p0 p1 p2 p3 p4 p5 p6 p7) fun t153 =>
  ifB (t153.1 != (0 : Int))
   (some (false, (t153.1, ())))
  (bindD (ancepsref06_minimal.f p0 p1 p2 p3) fun t154 =>
   bindD (ancepsref06_minimal.f p4 p5 p6 p7) fun t155 =>
   bindD (ancepsref06_SameDFA.f t154.1 t154.2.1 t154.2.2.1 t154.2.2.2.1 t155.1 t155.2.1 t155.2.2.1 t155.2.2.2.1) fun t156 =>
   some (t156.1, ((0 : Int), ()))) := (Einf_call Go.Proofs.C06.ctx 33 _).trans (by kernel_rfl)
theorem automaton_Difference.f_eq (p0 : Int) (p1 : Int) (p2 : (List (List Int))) (p3 : (List Bool)) (p4 : Int) (p5 : Int) (p6 : (List (List Int))) (p7 : (List Bool)) : automaton_Difference.f p0 p1 p2 p3 p4 p5 p6 p7 =
  bindD (automaton_both.f p0 p1 p2 p3 p4 p5 p6 p7) fun t157 =>
  ifB (t157.1 != (0 : Int))
   (some (([] : (List Int)), (t157.1, ())))
  (bindD (automaton_visits.f p0 p1 p2 p3 p4 p5 p6 p7) fun t158 =>
   bindD (automaton_differ.f p0 p1 p2 p3 p4 p5 p6 p7 t158.1) fun t159 =>
   ifB (decide (t159.1 < (0 : Int)))
    (some (([] : (List Int)), ((10 : Int), ())))
   (bindD (automaton_word.f t158.1 t159.1) fun t160 =>
    some (t160.1, ((0 : Int), ())))) := (Einf_call Go.Proofs.C06.ctx 34 _).trans (by kernel_rfl)
theorem ancepsref06_Difference.f_eq (p0 : Int) (p1 : Int) (p2 : (List (List Int))) (p3 : (List Bool)) (p4 : Int) (p5 : Int) (p6 : (List (List Int))) (p7 : (List Bool)) : ancepsref06_Difference.f p0 p1 p2 p3 p4 p5 p6 p7 =
  bindD (ancepsref06_both.f p0 p1 p2 p3 p4 p5 p6 p7) fun t161 =>
  ifB (t161.1 != (0 : Int))
   (some (([] : (List Int)), (t161.1, ())))
  (bindD (ancepsref06_walk.f p0 p1 p2 p3 p4 p5 p6 p7) fun t162 =>
   ancepsref06_Difference.l6 (0 : Int) p0 p1 p2 p3 p4 p5 p6 p7 t162.1) := (Einf_call Go.Proofs.C06.ctx 35 _).trans (by kernel_rfl)
theorem ancepsref06_Made.f_eq (p0 : Int) (p1 : (List Int)) (p2 : Int) : ancepsref06_Made.f p0 p1 p2 =
  ifB ((Go.IntKind.wrap Go.IntKind.i64 ((1 : Int) + (Go.IntKind.wrap Go.IntKind.i64 (Int.tmod p0 (4 : Int))))) == (0 : Int))
   (none)
  (ancepsref06_Made.l4 (if ((12 : Int) < (Go.IntKind.wrap Go.IntKind.i64 (Int.tdiv (((List.length p1) : Nat) : Int) (Go.IntKind.wrap Go.IntKind.i64 ((1 : Int) + (Go.IntKind.wrap Go.IntKind.i64 (Int.tmod p0 (4 : Int)))))))) then (12 : Int) else (Go.IntKind.wrap Go.IntKind.i64 (Int.tdiv (((List.length p1) : Nat) : Int) (Go.IntKind.wrap Go.IntKind.i64 ((1 : Int) + (Go.IntKind.wrap Go.IntKind.i64 (Int.tmod p0 (4 : Int)))))))) (0 : Int) p0 p1 p2 (0 : Int) (0 : Int) (Go.IntKind.wrap Go.IntKind.i64 ((1 : Int) + (Go.IntKind.wrap Go.IntKind.i64 (Int.tmod p0 (4 : Int))))) (-(1 : Int)) ([] : (List (List Int))) ([] : (List Bool)) ([] : (List (List Int))) ([] : (List Bool))) := (Einf_call Go.Proofs.C06.ctx 11 _).trans (by kernel_rfl)
theorem automaton_Count.f_eq (p0 : Int) (p1 : Int) (p2 : (List (List Int))) (p3 : (List Bool)) (p4 : Int) : automaton_Count.f p0 p1 p2 p3 p4 =
  bindD (automaton_Valid.f p0 p1 p2 p3) fun t163 =>
  ifB (t163.1 != (0 : Int))
   (some ((0 : Int), (t163.1, ())))
  (ifB (decide (p4 < (0 : Int)))
    (some ((0 : Int), ((6 : Int), ())))
   (ifB (decide (p4 > (1000 : Int)))
     (some ((0 : Int), ((6 : Int), ())))
    (ifB (decide (p1 < (0 : Int)))
      (some ((0 : Int), ((0 : Int), ())))
     (bindD ((Go.Proofs.R.mkLen (((List.length p2) : Nat) : Int) (((List.length p2) : Nat) : Int))) fun t164 =>
      automaton_Count.l10 p4 p3 (((List.length p3) : Nat) : Int) (0 : Int) p0 p1 p2 p3 (List.replicate t164 (0 : Int)))))) := (Einf_call Go.Proofs.C06.ctx 16 _).trans (by kernel_rfl)
theorem api_Pair.f_eq (p0 : (List (Int × Int))) : api_Pair.f p0 =
  bindD ((Go.Proofs.R.grow (List.length p0))) fun t165 =>
  some (p0, ()) := (Einf_call Go.Proofs.C06.ctx 37 _).trans (by kernel_rfl)
theorem automaton_CheckRelation.f_eq (p0 : Int) (p1 : Int) (p2 : (List (List Int))) (p3 : (List Bool)) (p4 : Int) (p5 : Int) (p6 : (List (List Int))) (p7 : (List Bool)) (p8 : (List (Int × Int))) : automaton_CheckRelation.f p0 p1 p2 p3 p4 p5 p6 p7 p8 =
  bindD (automaton_both.f p0 p1 p2 p3 p4 p5 p6 p7) fun t166 =>
  ifB (t166.1 != (0 : Int))
   (some (false, ()))
  (automaton_CheckRelation.l6 p8 (((List.length p8) : Nat) : Int) (0 : Int) p0 p1 p2 p3 p4 p5 p6 p7 p8 (-(1 : Int)) (-(1 : Int))) := (Einf_call Go.Proofs.C06.ctx 36 _).trans (by kernel_rfl)
theorem ancepsref06_CheckRelation.f_eq (p0 : Int) (p1 : Int) (p2 : (List (List Int))) (p3 : (List Bool)) (p4 : Int) (p5 : Int) (p6 : (List (List Int))) (p7 : (List Bool)) (p8 : (List (Int × Int))) : ancepsref06_CheckRelation.f p0 p1 p2 p3 p4 p5 p6 p7 p8 =
  bindD (ancepsref06_both.f p0 p1 p2 p3 p4 p5 p6 p7) fun t167 =>
  ifB (t167.1 != (0 : Int))
   (some (false, ()))
  (bindD (ancepsref06_in.f p8 p1 p5) fun t168 =>
   ifB (!t168.1)
    (some (false, ()))
   (ancepsref06_CheckRelation.l4 p8 (0 : Int) p0 p1 p2 p3 p4 p5 p6 p7)) := (Einf_call Go.Proofs.C06.ctx 38 _).trans (by kernel_rfl)
theorem ancepsref06_Few.l5_eq (p0 : Int) (p1 : Int) (p2 : Int) (p3 : Int) (p4 : (List (List Int))) (p5 : (List Bool)) : ancepsref06_Few.l5 p0 p1 p2 p3 p4 p5 =
  ifB (decide (p1 < (((List.length p4) : Nat) : Int)))
   (bindD ((ixAt p4 p1)) fun t169 =>
   ancepsref06_Few.l5 (Go.IntKind.wrap Go.IntKind.i64 (p0 + (((List.length t169) : Nat) : Int))) (Go.IntKind.wrap Go.IntKind.i64 (p1 + (1 : Int))) p2 p3 p4 p5)
  (some ((decide (p0 ≤ (1700 : Int))), ())) := (loopAt_step Go.Proofs.C06.ctx 17 5 _).trans (by kernel_rfl)
theorem slices_Clone_bool_bool.f_eq (p0 : (List Bool)) : slices_Clone_bool_bool.f p0 =
  bindD ((Go.Proofs.R.grow (List.length p0))) fun t170 =>
  some (p0, ()) := (Einf_call Go.Proofs.C06.ctx 50 _).trans (by kernel_rfl)
theorem ancepslaw06_copied.l3_eq (p0 : (List (List Int))) (p1 : Int) (p2 : Int) (p3 : Int) (p4 : Int) (p5 : Int) (p6 : Int) (p7 : (List (List Int))) (p8 : (List Bool)) (p9 : (List (List Int))) (p10 : (List Bool)) : ancepslaw06_copied.l3 p0 p1 p2 p3 p4 p5 p6 p7 p8 p9 p10 =
  ifB (decide (p2 < p1))
   (bindD ((ixAt p0 p2)) fun t171 =>
   bindD (slices_Clone_int_int.f t171) fun t172 =>
   bindD ((Go.Proofs.R.grow ((List.length p9) + (List.length (t172.1 :: ([] : (List (List Int)))))))) fun t173 =>
   ancepslaw06_copied.l3 p0 p1 (Go.IntKind.wrap Go.IntKind.i64 (p2 + (1 : Int))) p3 p4 p5 p6 p7 p8 (p9 ++ (t172.1 :: ([] : (List (List Int))))) p10)
  (some (p5, (p6, (p9, (p10, ()))))) := (loopAt_step Go.Proofs.C06.ctx 19 3 _).trans (by kernel_rfl)
theorem automaton_Valid.l7_eq (p0 : (List (List Int))) (p1 : Int) (p2 : Int) (p3 : Int) (p4 : Int) (p5 : (List (List Int))) (p6 : (List Bool)) (p7 : Int) : automaton_Valid.l7 p0 p1 p2 p3 p4 p5 p6 p7 =
  ifB (decide (p2 < p1))
   (bindD ((ixAt p0 p2)) fun t174 =>
   ifB ((((List.length t174) : Nat) : Int) != p3)
    (some ((1 : Int), ()))
   (bindD (slices_ContainsFunc_int_int.f t174 p7) fun t175 =>
    ifB t175.1
     (some ((1 : Int), ()))
    (automaton_Valid.l7 p0 p1 (Go.IntKind.wrap Go.IntKind.i64 (p2 + (1 : Int))) p3 p4 p5 p6 p7)))
  (some ((0 : Int), ())) := (loopAt_step Go.Proofs.C06.ctx 18 7 _).trans (by kernel_rfl)
theorem ancepsref06_Valid.l7_eq (p0 : Int) (p1 : Int) (p2 : Int) (p3 : Int) (p4 : (List (List Int))) (p5 : (List Bool)) : ancepsref06_Valid.l7 p0 p1 p2 p3 p4 p5 =
  ifB (decide (p1 < p0))
   (bindD ((ixAt p4 p1)) fun t176 =>
   ifB ((((List.length t176) : Nat) : Int) != p2)
    (some ((1 : Int), ()))
   (ancepsref06_Valid.l12 p0 p1 (0 : Int) p2 p3 p4 p5))
  (some ((0 : Int), ())) := (loopAt_step Go.Proofs.C06.ctx 20 7 _).trans (by kernel_rfl)
theorem automaton_Run.l5_eq (p0 : Int) (p1 : (List Int)) (p2 : Int) (p3 : Int) (p4 : Int) (p5 : Int) (p6 : (List (List Int))) (p7 : (List Bool)) : automaton_Run.l5 p0 p1 p2 p3 p4 p5 p6 p7 =
  ifB (decide (p3 < p2))
   (bindD ((ixAt p1 p3)) fun t177 =>
   bindD (automaton_next.f p4 p5 p6 p7 p0 t177) fun t178 =>
   automaton_Run.l5 t178.1 p1 p2 (Go.IntKind.wrap Go.IntKind.i64 (p3 + (1 : Int))) p4 p5 p6 p7)
  (some (p0, ())) := (loopAt_step Go.Proofs.C06.ctx 21 5 _).trans (by kernel_rfl)
theorem ancepsref06_From.f_eq (p0 : Int) (p1 : Int) (p2 : (List (List Int))) (p3 : (List Bool)) (p4 : Int) (p5 : (List Int)) : ancepsref06_From.f p0 p1 p2 p3 p4 p5 =
  ancepsref06_From.l2 p4 p5 (0 : Int) p0 p1 p2 p3 := (Einf_call Go.Proofs.C06.ctx 51 _).trans (by kernel_rfl)
theorem automaton_ends.f_eq (p0 : Int) (p1 : Int) (p2 : (List (List Int))) (p3 : (List Bool)) (p4 : Int) : automaton_ends.f p0 p1 p2 p3 p4 =
  ifB (decide (p4 ≥ (0 : Int)))
   (bindD ((ixAt p3 p4)) fun t179 =>
   some (t179, ()))
  (some (false, ())) := (Einf_call Go.Proofs.C06.ctx 45 _).trans (by kernel_rfl)
theorem slices_Equal_int_int.l4_eq (p0 : (List Int)) (p1 : (List Int)) (p2 : Int) (p3 : Int) : slices_Equal_int_int.l4 p0 p1 p2 p3 =
  ifB (decide (p3 < p2))
   (bindD ((ixAt p0 p3)) fun t180 =>
   bindD ((ixAt p1 p3)) fun t181 =>
   ifB (t180 != t181)
    (some (false, ()))
   (slices_Equal_int_int.l4 p0 p1 p2 (Go.IntKind.wrap Go.IntKind.i64 (p3 + (1 : Int)))))
  (some (true, ())) := (loopAt_step Go.Proofs.C06.ctx 31 4 _).trans (by kernel_rfl)
theorem automaton_minimal.f_eq (p0 : Int) (p1 : Int) (p2 : (List (List Int))) (p3 : (List Bool)) : automaton_minimal.f p0 p1 p2 p3 =
  ifB (decide (p1 < (0 : Int)))
   (some (p0, ((-(1 : Int)), (([] : (List (List Int))), (([] : (List Bool)), ())))))
  (bindD (automaton_classes.f p0 p1 p2 p3) fun t182 =>
   bindD ((ixAt t182.1 p1)) fun t183 =>
   bindD ((ixAt t182.1 p1)) fun t184 =>
   ifB (t184 == (0 : Int))
    (some (p0, ((-(1 : Int)), (([] : (List (List Int))), (([] : (List Bool)), ())))))
   (bindD ((ixAt t182.1 p1)) fun t185 =>
    bindD ((ixAt t182.1 p1)) fun t186 =>
    automaton_minimal.l11 (0 : Int) p0 p1 p2 p3 (0 : Int) (0 : Int) p0 (0 : Int) t182.1 (Go.Proofs.R.mput (Go.Proofs.R.Ty.int Go.IntKind.i64) t186 (0 : Int) ([] : (List (Int × Int)))) (p1 :: ([] : (List Int))) ([] : (List (List Int))) ([] : (List Bool)) ([] : (List (List Int))) ([] : (List Bool)))) := (Einf_call Go.Proofs.C06.ctx 46 _).trans (by kernel_rfl)
theorem ancepsref06_minimal.f_eq (p0 : Int) (p1 : Int) (p2 : (List (List Int))) (p3 : (List Bool)) : ancepsref06_minimal.f p0 p1 p2 p3 =
  bindD (ancepsref06_classes.f p0 p1 p2 p3) fun t187 =>
  ifB (decide (p1 < (0 : Int)))
   (some (p0, ((-(1 : Int)), (([] : (List (List Int))), (([] : (List Bool)), ())))))
  (bindD ((ixAt t187.1 p1)) fun t188 =>
   bindD ((ixAt t187.1 p1)) fun t189 =>
   ifB (t189 == (0 : Int))
    (some (p0, ((-(1 : Int)), (([] : (List (List Int))), (([] : (List Bool)), ())))))
   (bindD ((ixAt t187.1 p1)) fun t190 =>
    bindD ((ixAt t187.1 p1)) fun t191 =>
    ancepsref06_minimal.l9 (0 : Int) p0 p1 p2 p3 (0 : Int) (0 : Int) p0 (0 : Int) t187.1 (p1 :: ([] : (List Int))) (Go.Proofs.R.mput (Go.Proofs.R.Ty.int Go.IntKind.i64) t191 (0 : Int) ([] : (List (Int × Int)))) ([] : (List (List Int))) ([] : (List Bool)) ([] : (List (List Int))) ([] : (List Bool)))) := (Einf_call Go.Proofs.C06.ctx 52 _).trans (by kernel_rfl)
theorem ancepsref06_SameDFA.l4_eq (p0 : Int) (p1 : Int) (p2 : Int) (p3 : (List (List Int))) (p4 : (List Bool)) (p5 : Int) (p6 : Int) (p7 : (List (List Int))) (p8 : (List Bool)) : ancepsref06_SameDFA.l4 p0 p1 p2 p3 p4 p5 p6 p7 p8 =
  ifB (decide (p0 < (((List.length p3) : Nat) : Int)))
   (bindD ((ixAt p3 p0)) fun t192 =>
   bindD ((ixAt p7 p0)) fun t193 =>
   bindD (ancepsref06_Equal.f t192 t193) fun t194 =>
   ifB (!t194.1)
    (some (false, ()))
   (ancepsref06_SameDFA.l4 (Go.IntKind.wrap Go.IntKind.i64 (p0 + (1 : Int))) p1 p2 p3 p4 p5 p6 p7 p8))
  (ancepsref06_SameDFA.l9 (0 : Int) p1 p2 p3 p4 p5 p6 p7 p8) := (loopAt_step Go.Proofs.C06.ctx 14 4 _).trans (by kernel_rfl)
theorem automaton_both.f_eq (p0 : Int) (p1 : Int) (p2 : (List (List Int))) (p3 : (List Bool)) (p4 : Int) (p5 : Int) (p6 : (List (List Int))) (p7 : (List Bool)) : automaton_both.f p0 p1 p2 p3 p4 p5 p6 p7 =
  bindD (automaton_Valid.f p0 p1 p2 p3) fun t195 =>
  ifB (t195.1 != (0 : Int))
   (some ((1 : Int), ()))
  (bindD (automaton_Valid.f p4 p5 p6 p7) fun t196 =>
   ifB (t196.1 != (0 : Int))
    (some ((1 : Int), ()))
   (ifB (p0 != p4)
     (some ((1 : Int), ()))
    (some ((0 : Int), ())))) := (Einf_call Go.Proofs.C06.ctx 42 _).trans (by kernel_rfl)
theorem automaton_visits.f_eq (p0 : Int) (p1 : Int) (p2 : (List (List Int))) (p3 : (List Bool)) (p4 : Int) (p5 : Int) (p6 : (List (List Int))) (p7 : (List Bool)) : automaton_visits.f p0 p1 p2 p3 p4 p5 p6 p7 =
  bindD ((ixAt (((p1, p5), ((-(1 : Int)), (0 : Int))) :: ([] : (List ((Int × Int) × (Int × Int))))) (0 : Int))) fun t197 =>
  bindD ((ixAt (((p1, p5), ((-(1 : Int)), (0 : Int))) :: ([] : (List ((Int × Int) × (Int × Int))))) (0 : Int))) fun t198 =>
  automaton_visits.l4 (0 : Int) p0 p1 p2 p3 p4 p5 p6 p7 (((p1, p5), ((-(1 : Int)), (0 : Int))) :: ([] : (List ((Int × Int) × (Int × Int))))) (Go.Proofs.R.mput (Go.Proofs.R.Ty.pair (Go.Proofs.R.Ty.int Go.IntKind.i64) (Go.Proofs.R.Ty.int Go.IntKind.i64)) (t198.1.1, t198.1.2) true ([] : (List ((Int × Int) × Bool)))) := (Einf_call Go.Proofs.C06.ctx 43 _).trans (by kernel_rfl)
theorem automaton_Product.l9_eq (p0 : Int) (p1 : Int) (p2 : Int) (p3 : Int) (p4 : Int) (p5 : (List (List Int))) (p6 : (List Bool)) (p7 : Int) (p8 : Int) (p9 : (List (List Int))) (p10 : (List Bool)) (p11 : Int) (p12 : Int) (p13 : (List ((Int × Int) × (Int × Int)))) (p14 : (List ((Int × Int) × Int))) (p15 : (List (List Int))) (p16 : (List Bool)) : automaton_Product.l9 p0 p1 p2 p3 p4 p5 p6 p7 p8 p9 p10 p11 p12 p13 p14 p15 p16 =
  ifB (decide (p2 < p1))
   (bindD ((ixAt p13 p2)) fun t199 =>
   bindD ((ixAt p13 p2)) fun t200 =>
   automaton_Product.l9 p0 p1 (Go.IntKind.wrap Go.IntKind.i64 (p2 + (1 : Int))) p3 p4 p5 p6 p7 p8 p9 p10 p11 p12 p13 (Go.Proofs.R.mput (Go.Proofs.R.Ty.pair (Go.Proofs.R.Ty.int Go.IntKind.i64) (Go.Proofs.R.Ty.int Go.IntKind.i64)) (t200.1.1, t200.1.2) p2 p14) p15 p16)
  (automaton_Product.l15 p0 (((List.length p13) : Nat) : Int) (0 : Int) p3 p4 p5 p6 p7 p8 p9 p10 p11 p12 p14 p3 (0 : Int) p13 p15 p16 ([] : (List (List Int))) ([] : (List Bool))) := (loopAt_step Go.Proofs.C06.ctx 13 9 _).trans (by kernel_rfl)
theorem ancepsref06_both.f_eq (p0 : Int) (p1 : Int) (p2 : (List (List Int))) (p3 : (List Bool)) (p4 : Int) (p5 : Int) (p6 : (List (List Int))) (p7 : (List Bool)) : ancepsref06_both.f p0 p1 p2 p3 p4 p5 p6 p7 =
  bindD (ancepsref06_Valid.f p0 p1 p2 p3) fun t201 =>
  ifB (t201.1 != (0 : Int))
   (some ((1 : Int), ()))
  (bindD (ancepsref06_Valid.f p4 p5 p6 p7) fun t202 =>
   ifB (t202.1 != (0 : Int))
    (some ((1 : Int), ()))
   (ifB (p0 != p4)
     (some ((1 : Int), ()))
    (some ((0 : Int), ())))) := (Einf_call Go.Proofs.C06.ctx 53 _).trans (by kernel_rfl)
theorem ancepsref06_walk.f_eq (p0 : Int) (p1 : Int) (p2 : (List (List Int))) (p3 : (List Bool)) (p4 : Int) (p5 : Int) (p6 : (List (List Int))) (p7 : (List Bool)) : ancepsref06_walk.f p0 p1 p2 p3 p4 p5 p6 p7 =
  bindD ((ixAt (((p1, p5), ((-(1 : Int)), (0 : Int))) :: ([] : (List ((Int × Int) × (Int × Int))))) (0 : Int))) fun t203 =>
  bindD ((ixAt (((p1, p5), ((-(1 : Int)), (0 : Int))) :: ([] : (List ((Int × Int) × (Int × Int))))) (0 : Int))) fun t204 =>
  ancepsref06_walk.l4 (0 : Int) p0 p1 p2 p3 p4 p5 p6 p7 (((p1, p5), ((-(1 : Int)), (0 : Int))) :: ([] : (List ((Int × Int) × (Int × Int))))) (Go.Proofs.R.mput (Go.Proofs.R.Ty.pair (Go.Proofs.R.Ty.int Go.IntKind.i64) (Go.Proofs.R.Ty.int Go.IntKind.i64)) (t204.1.1, t204.1.2) true ([] : (List ((Int × Int) × Bool)))) := (Einf_call Go.Proofs.C06.ctx 54 _).trans (by kernel_rfl)
theorem ancepsref06_Product.l9_eq (p0 : Int) (p1 : Int) (p2 : Int) (p3 : Int) (p4 : (List (List Int))) (p5 : (List Bool)) (p6 : Int) (p7 : Int) (p8 : (List (List Int))) (p9 : (List Bool)) (p10 : Int) (p11 : Int) (p12 : (List ((Int × Int) × (Int × Int)))) (p13 : (List ((Int × Int) × Int))) (p14 : (List (List Int))) (p15 : (List Bool)) : ancepsref06_Product.l9 p0 p1 p2 p3 p4 p5 p6 p7 p8 p9 p10 p11 p12 p13 p14 p15 =
  ifB (decide (p1 < (((List.length p12) : Nat) : Int)))
   (bindD ((ixAt p12 p1)) fun t205 =>
   bindD ((ixAt p12 p1)) fun t206 =>
   ancepsref06_Product.l9 p0 (Go.IntKind.wrap Go.IntKind.i64 (p1 + (1 : Int))) p2 p3 p4 p5 p6 p7 p8 p9 p10 p11 p12 (Go.Proofs.R.mput (Go.Proofs.R.Ty.pair (Go.Proofs.R.Ty.int Go.IntKind.i64) (Go.Proofs.R.Ty.int Go.IntKind.i64)) (t206.1.1, t206.1.2) p1 p13) p14 p15)
  (ancepsref06_Product.l14 p0 (0 : Int) p2 p3 p4 p5 p6 p7 p8 p9 p10 p11 p12 p13 p2 (0 : Int) p14 p15 ([] : (List (List Int))) ([] : (List Bool))) := (loopAt_step Go.Proofs.C06.ctx 28 9 _).trans (by kernel_rfl)
theorem automaton_differ.f_eq (p0 : Int) (p1 : Int) (p2 : (List (List Int))) (p3 : (List Bool)) (p4 : Int) (p5 : Int) (p6 : (List (List Int))) (p7 : (List Bool)) (p8 : (List ((Int × Int) × (Int × Int)))) : automaton_differ.f p0 p1 p2 p3 p4 p5 p6 p7 p8 =
  bindD (automaton_visit.f p8 p0 p1 p2 p3 p4 p5 p6 p7) fun t207 =>
  some (t207.1, ()) := (Einf_call Go.Proofs.C06.ctx 58 _).trans (by kernel_rfl)
theorem automaton_word.f_eq (p0 : (List ((Int × Int) × (Int × Int)))) (p1 : Int) : automaton_word.f p0 p1 =
  automaton_word.l2 p0 p1 ([] : (List Int)) := (Einf_call Go.Proofs.C06.ctx 59 _).trans (by kernel_rfl)
theorem ancepsref06_Difference.l6_eq (p0 : Int) (p1 : Int) (p2 : Int) (p3 : (List (List Int))) (p4 : (List Bool)) (p5 : Int) (p6 : Int) (p7 : (List (List Int))) (p8 : (List Bool)) (p9 : (List ((Int × Int) × (Int × Int)))) : ancepsref06_Difference.l6 p0 p1 p2 p3 p4 p5 p6 p7 p8 p9 =
  ifB (decide (p0 < (((List.length p9) : Nat) : Int)))
   (bindD ((ixAt p9 p0)) fun t208 =>
   bindD ((ixAt p9 p0)) fun t209 =>
   bindD (ancepsref06_accepting.f p1 p2 p3 p4 t209.1.1) fun t210 =>
   bindD ((ixAt p9 p0)) fun t211 =>
   bindD ((ixAt p9 p0)) fun t212 =>
   bindD (ancepsref06_accepting.f p5 p6 p7 p8 t212.1.2) fun t213 =>
   ifB (t210.1 == t213.1)
    (ancepsref06_Difference.l6 (Go.IntKind.wrap Go.IntKind.i64 (p0 + (1 : Int))) p1 p2 p3 p4 p5 p6 p7 p8 p9)
   (ancepsref06_Difference.l11 p0 p9 ([] : (List Int))))
  (some (([] : (List Int)), ((10 : Int), ()))) := (loopAt_step Go.Proofs.C06.ctx 35 6 _).trans (by kernel_rfl)
theorem ancepsref06_Made.l4_eq (p0 : Int) (p1 : Int) (p2 : Int) (p3 : (List Int)) (p4 : Int) (p5 : Int) (p6 : Int) (p7 : Int) (p8 : Int) (p9 : (List (List Int))) (p10 : (List Bool)) (p11 : (List (List Int))) (p12 : (List Bool)) : ancepsref06_Made.l4 p0 p1 p2 p3 p4 p5 p6 p7 p8 p9 p10 p11 p12 =
  ifB (decide (p1 < p0))
   (ancepsref06_Made.l8 p0 p1 (0 : Int) p2 p3 p4 p5 p6 p7 p8 ([] : (List Int)) p9 p10 p11 p12)
  (some (p7, (p8, (p11, (p12, ()))))) := (loopAt_step Go.Proofs.C06.ctx 11 4 _).trans (by kernel_rfl)
theorem automaton_Count.l10_eq (p0 : Int) (p1 : (List Bool)) (p2 : Int) (p3 : Int) (p4 : Int) (p5 : Int) (p6 : (List (List Int))) (p7 : (List Bool)) (p8 : (List Int)) : automaton_Count.l10 p0 p1 p2 p3 p4 p5 p6 p7 p8 =
  ifB (decide (p3 < p2))
   (bindD ((ixAt p1 p3)) fun t214 =>
   ifB t214
    (bindD ((ixAt p8 p3)) fun t215 =>
    bindD ((ixAt p8 p3)) fun t216 =>
    automaton_Count.l10 p0 p1 p2 (Go.IntKind.wrap Go.IntKind.i64 (p3 + (1 : Int))) p4 p5 p6 p7 (setRow p8 p3 (1 : Int)))
   (automaton_Count.l10 p0 p1 p2 (Go.IntKind.wrap Go.IntKind.i64 (p3 + (1 : Int))) p4 p5 p6 p7 p8))
  (automaton_Count.l16 p0 (0 : Int) p4 p5 p6 p7 p8) := (loopAt_step Go.Proofs.C06.ctx 16 10 _).trans (by kernel_rfl)
theorem automaton_CheckRelation.l6_eq (p0 : (List (Int × Int))) (p1 : Int) (p2 : Int) (p3 : Int) (p4 : Int) (p5 : (List (List Int))) (p6 : (List Bool)) (p7 : Int) (p8 : Int) (p9 : (List (List Int))) (p10 : (List Bool)) (p11 : (List (Int × Int))) (p12 : Int) (p13 : Int) : automaton_CheckRelation.l6 p0 p1 p2 p3 p4 p5 p6 p7 p8 p9 p10 p11 p12 p13 =
  ifB (decide (p2 < p1))
   (bindD ((ixAt p0 p2)) fun t217 =>
   ifB ((t217.1 == p12) && (t217.2 == p13))
    (some (false, ()))
   (ifB (decide (t217.1 < (-(1 : Int))))
     (some (false, ()))
    (ifB (decide (t217.1 ≥ (((List.length p5) : Nat) : Int)))
      (some (false, ()))
     (ifB (decide (t217.2 < (-(1 : Int))))
       (some (false, ()))
      (ifB (decide (t217.2 ≥ (((List.length p9) : Nat) : Int)))
        (some (false, ()))
       (ifB (decide (p2 > (0 : Int)))
         (bindD ((ixAt p11 (Go.IntKind.wrap Go.IntKind.i64 (p2 - (1 : Int))))) fun t218 =>
         bindD (automaton_order.f t218.1 t218.2 t217.1 t217.2) fun t219 =>
         ifB (decide (t219.1 ≥ (0 : Int)))
          (some (false, ()))
         (automaton_CheckRelation.l6 p0 p1 (Go.IntKind.wrap Go.IntKind.i64 (p2 + (1 : Int))) p3 p4 p5 p6 p7 p8 p9 p10 p11 p12 p13))
        (automaton_CheckRelation.l6 p0 p1 (Go.IntKind.wrap Go.IntKind.i64 (p2 + (1 : Int))) p3 p4 p5 p6 p7 p8 p9 p10 p11 p12 p13)))))))
  (bindD (automaton_CheckRelation_1.f p4 p8 p11 p12 p13) fun t220 =>
   ifB (!t220.1)
    (some (false, ()))
   (automaton_CheckRelation.l14 p11 (((List.length p11) : Nat) : Int) (0 : Int) p3 p4 p5 p6 p7 p8 p9 p10 p11 p12 p13)) := (loopAt_step Go.Proofs.C06.ctx 36 6 _).trans (by kernel_rfl)
theorem ancepsref06_in.f_eq (p0 : (List (Int × Int))) (p1 : Int) (p2 : Int) : ancepsref06_in.f p0 p1 p2 =
  ancepsref06_in.l2 p0 (0 : Int) p1 p2 := (Einf_call Go.Proofs.C06.ctx 63 _).trans (by kernel_rfl)
theorem ancepsref06_CheckRelation.l4_eq (p0 : (List (Int × Int))) (p1 : Int) (p2 : Int) (p3 : Int) (p4 : (List (List Int))) (p5 : (List Bool)) (p6 : Int) (p7 : Int) (p8 : (List (List Int))) (p9 : (List Bool)) : ancepsref06_CheckRelation.l4 p0 p1 p2 p3 p4 p5 p6 p7 p8 p9 =
  ifB (decide (p1 < (((List.length p0) : Nat) : Int)))
   (bindD ((ixAt p0 p1)) fun t221 =>
   ifB (decide (t221.1 < (-(1 : Int))))
    (some (false, ()))
   (ifB (decide (t221.1 ≥ (((List.length p4) : Nat) : Int)))
     (some (false, ()))
    (ifB (decide (t221.2 < (-(1 : Int))))
      (some (false, ()))
     (ifB (decide (t221.2 ≥ (((List.length p8) : Nat) : Int)))
       (some (false, ()))
      (ifB (decide (t221.1 < (0 : Int)))
        (ifB (decide (t221.2 < (0 : Int)))
         (some (false, ()))
        (ifB (decide (p1 > (0 : Int)))
          (bindD ((ixAt p0 (Go.IntKind.wrap Go.IntKind.i64 (p1 - (1 : Int))))) fun t222 =>
          bindD (ancepsref06_less.f t222.1 t222.2 t221.1 t221.2) fun t223 =>
          ifB (!t223.1)
           (some (false, ()))
          (bindD (ancepsref06_accepting.f p2 p3 p4 p5 t221.1) fun t224 =>
           bindD (ancepsref06_accepting.f p6 p7 p8 p9 t221.2) fun t225 =>
           ifB (!(t224.1 == t225.1))
            (some (false, ()))
           (ancepsref06_CheckRelation.l12 p0 p1 (0 : Int) p2 p3 p4 p5 p6 p7 p8 p9 t221.1 t221.2)))
         (bindD (ancepsref06_accepting.f p2 p3 p4 p5 t221.1) fun t226 =>
          bindD (ancepsref06_accepting.f p6 p7 p8 p9 t221.2) fun t227 =>
          ifB (!(t226.1 == t227.1))
           (some (false, ()))
          (ancepsref06_CheckRelation.l12 p0 p1 (0 : Int) p2 p3 p4 p5 p6 p7 p8 p9 t221.1 t221.2))))
       (ifB (decide (p1 > (0 : Int)))
         (bindD ((ixAt p0 (Go.IntKind.wrap Go.IntKind.i64 (p1 - (1 : Int))))) fun t228 =>
         bindD (ancepsref06_less.f t228.1 t228.2 t221.1 t221.2) fun t229 =>
         ifB (!t229.1)
          (some (false, ()))
         (bindD (ancepsref06_accepting.f p2 p3 p4 p5 t221.1) fun t230 =>
          bindD (ancepsref06_accepting.f p6 p7 p8 p9 t221.2) fun t231 =>
          ifB (!(t230.1 == t231.1))
           (some (false, ()))
          (ancepsref06_CheckRelation.l12 p0 p1 (0 : Int) p2 p3 p4 p5 p6 p7 p8 p9 t221.1 t221.2)))
        (bindD (ancepsref06_accepting.f p2 p3 p4 p5 t221.1) fun t232 =>
         bindD (ancepsref06_accepting.f p6 p7 p8 p9 t221.2) fun t233 =>
         ifB (!(t232.1 == t233.1))
          (some (false, ()))
         (ancepsref06_CheckRelation.l12 p0 p1 (0 : Int) p2 p3 p4 p5 p6 p7 p8 p9 t221.1 t221.2))))))))
  (some (true, ())) := (loopAt_step Go.Proofs.C06.ctx 38 4 _).trans (by kernel_rfl)
theorem slices_ContainsFunc_int_int.f_eq (p0 : (List Int)) (p1 : Int) : slices_ContainsFunc_int_int.f p0 p1 =
  bindD (slices_IndexFunc_int_int.f p0 p1) fun t234 =>
  some ((decide (t234.1 ≥ (0 : Int))), ()) := (Einf_call Go.Proofs.C06.ctx 48 _).trans (by kernel_rfl)
theorem ancepsref06_Valid.l12_eq (p0 : Int) (p1 : Int) (p2 : Int) (p3 : Int) (p4 : Int) (p5 : (List (List Int))) (p6 : (List Bool)) : ancepsref06_Valid.l12 p0 p1 p2 p3 p4 p5 p6 =
  ifB (decide (p2 < p3))
   (bindD ((ixAt p5 p1)) fun t235 =>
   bindD ((ixAt t235 p2)) fun t236 =>
   ifB (decide (t236 < (-(1 : Int))))
    (some ((1 : Int), ()))
   (bindD ((ixAt p5 p1)) fun t237 =>
    bindD ((ixAt t237 p2)) fun t238 =>
    ifB (decide (t238 ≥ p0))
     (some ((1 : Int), ()))
    (ancepsref06_Valid.l12 p0 p1 (Go.IntKind.wrap Go.IntKind.i64 (p2 + (1 : Int))) p3 p4 p5 p6)))
  (ancepsref06_Valid.l7 p0 (Go.IntKind.wrap Go.IntKind.i64 (p1 + (1 : Int))) p3 p4 p5 p6) := (loopAt_step Go.Proofs.C06.ctx 20 12 _).trans (by kernel_rfl)
theorem automaton_next.f_eq (p0 : Int) (p1 : Int) (p2 : (List (List Int))) (p3 : (List Bool)) (p4 : Int) (p5 : Int) : automaton_next.f p0 p1 p2 p3 p4 p5 =
  ifB (decide (p4 < (0 : Int)))
   (some ((-(1 : Int)), ()))
  (ifB (decide (p5 < (0 : Int)))
    (some ((-(1 : Int)), ()))
   (ifB (decide (p5 ≥ p0))
     (some ((-(1 : Int)), ()))
    (bindD ((ixAt p2 p4)) fun t239 =>
     bindD ((ixAt t239 p5)) fun t240 =>
     some (t240, ())))) := (Einf_call Go.Proofs.C06.ctx 44 _).trans (by kernel_rfl)
theorem ancepsref06_From.l2_eq (p0 : Int) (p1 : (List Int)) (p2 : Int) (p3 : Int) (p4 : Int) (p5 : (List (List Int))) (p6 : (List Bool)) : ancepsref06_From.l2 p0 p1 p2 p3 p4 p5 p6 =
  ifB (decide (p2 < (((List.length p1) : Nat) : Int)))
   (bindD ((ixAt p1 p2)) fun t241 =>
   bindD (ancepsref06_step.f p3 p4 p5 p6 p0 t241) fun t242 =>
   ancepsref06_From.l2 t242.1 p1 (Go.IntKind.wrap Go.IntKind.i64 (p2 + (1 : Int))) p3 p4 p5 p6)
  (some (p0, ())) := (loopAt_step Go.Proofs.C06.ctx 51 2 _).trans (by kernel_rfl)
theorem automaton_classes.f_eq (p0 : Int) (p1 : Int) (p2 : (List (List Int))) (p3 : (List Bool)) : automaton_classes.f p0 p1 p2 p3 =
  bindD (automaton_useful.f p0 p1 p2 p3) fun t243 =>
  bindD ((Go.Proofs.R.mkLen (((List.length p2) : Nat) : Int) (((List.length p2) : Nat) : Int))) fun t244 =>
  automaton_classes.l4 (((List.length (List.replicate t244 (0 : Int))) : Nat) : Int) (0 : Int) p0 p1 p2 p3 t243.1 (List.replicate t244 (0 : Int)) := (Einf_call Go.Proofs.C06.ctx 66 _).trans (by kernel_rfl)
theorem automaton_minimal.l11_eq (p0 : Int) (p1 : Int) (p2 : Int) (p3 : (List (List Int))) (p4 : (List Bool)) (p5 : Int) (p6 : Int) (p7 : Int) (p8 : Int) (p9 : (List Int)) (p10 : (List (Int × Int))) (p11 : (List Int)) (p12 : (List (List Int))) (p13 : (List Bool)) (p14 : (List (List Int))) (p15 : (List Bool)) : automaton_minimal.l11 p0 p1 p2 p3 p4 p5 p6 p7 p8 p9 p10 p11 p12 p13 p14 p15 =
  ifB (decide (p0 < (((List.length p11) : Nat) : Int)))
   (bindD ((ixAt p11 p0)) fun t245 =>
   bindD ((ixAt p11 p0)) fun t246 =>
   bindD ((Go.Proofs.R.mkLen p1 p1)) fun t247 =>
   bindD ((ixAt p3 t246)) fun t248 =>
   automaton_minimal.l16 p0 t246 t248 (((List.length t248) : Nat) : Int) (0 : Int) p1 p2 p3 p4 p5 p6 p7 p8 p9 p10 p11 (List.replicate t247 (0 : Int)) p12 p13 p14 p15)
  (some (p7, (p8, (p14, (p15, ()))))) := (loopAt_step Go.Proofs.C06.ctx 46 11 _).trans (by kernel_rfl)
theorem ancepsref06_classes.f_eq (p0 : Int) (p1 : Int) (p2 : (List (List Int))) (p3 : (List Bool)) : ancepsref06_classes.f p0 p1 p2 p3 =
  bindD (ancepsref06_Live.f p0 p1 p2 p3) fun t249 =>
  bindD ((Go.Proofs.R.mkLen (((List.length p2) : Nat) : Int) (((List.length p2) : Nat) : Int))) fun t250 =>
  ancepsref06_classes.l4 (0 : Int) p0 p1 p2 p3 t249.1 (List.replicate t250 (0 : Int)) := (Einf_call Go.Proofs.C06.ctx 68 _).trans (by kernel_rfl)
theorem ancepsref06_minimal.l9_eq (p0 : Int) (p1 : Int) (p2 : Int) (p3 : (List (List Int))) (p4 : (List Bool)) (p5 : Int) (p6 : Int) (p7 : Int) (p8 : Int) (p9 : (List Int)) (p10 : (List Int)) (p11 : (List (Int × Int))) (p12 : (List (List Int))) (p13 : (List Bool)) (p14 : (List (List Int))) (p15 : (List Bool)) : ancepsref06_minimal.l9 p0 p1 p2 p3 p4 p5 p6 p7 p8 p9 p10 p11 p12 p13 p14 p15 =
  ifB (decide (p0 < (((List.length p10) : Nat) : Int)))
   (ancepsref06_minimal.l13 p0 (0 : Int) p1 p2 p3 p4 p5 p6 p7 p8 p9 p10 p11 ([] : (List Int)) p12 p13 p14 p15)
  (some (p7, (p8, (p14, (p15, ()))))) := (loopAt_step Go.Proofs.C06.ctx 52 9 _).trans (by kernel_rfl)
theorem ancepsref06_Equal.f_eq (p0 : (List Int)) (p1 : (List Int)) : ancepsref06_Equal.f p0 p1 =
  ifB ((((List.length p0) : Nat) : Int) != (((List.length p1) : Nat) : Int))
   (some (false, ()))
  (ancepsref06_Equal.l4 p0 p1 (0 : Int)) := (Einf_call Go.Proofs.C06.ctx 47 _).trans (by kernel_rfl)
theorem ancepsref06_SameDFA.l9_eq (p0 : Int) (p1 : Int) (p2 : Int) (p3 : (List (List Int))) (p4 : (List Bool)) (p5 : Int) (p6 : Int) (p7 : (List (List Int))) (p8 : (List Bool)) : ancepsref06_SameDFA.l9 p0 p1 p2 p3 p4 p5 p6 p7 p8 =
  ifB (decide (p0 < (((List.length p4) : Nat) : Int)))
   (bindD ((ixAt p4 p0)) fun t251 =>
   bindD ((ixAt p8 p0)) fun t252 =>
   ifB (!(t251 == t252))
    (some (false, ()))
   (ancepsref06_SameDFA.l9 (Go.IntKind.wrap Go.IntKind.i64 (p0 + (1 : Int))) p1 p2 p3 p4 p5 p6 p7 p8))
  (some (true, ())) := (loopAt_step Go.Proofs.C06.ctx 14 9 _).trans (by kernel_rfl)
theorem automaton_visits.l4_eq (p0 : Int) (p1 : Int) (p2 : Int) (p3 : (List (List Int))) (p4 : (List Bool)) (p5 : Int) (p6 : Int) (p7 : (List (List Int))) (p8 : (List Bool)) (p9 : (List ((Int × Int) × (Int × Int)))) (p10 : (List ((Int × Int) × Bool))) : automaton_visits.l4 p0 p1 p2 p3 p4 p5 p6 p7 p8 p9 p10 =
  ifB (decide (p0 < (((List.length p9) : Nat) : Int)))
   (bindD ((ixAt p9 p0)) fun t253 =>
   bindD ((ixAt p9 p0)) fun t254 =>
   automaton_visits.l8 p0 p1 (0 : Int) p1 p2 p3 p4 p5 p6 p7 p8 p9 p10 t254.1.1 t254.1.2)
  (some (p9, ())) := (loopAt_step Go.Proofs.C06.ctx 43 4 _).trans (by kernel_rfl)
theorem automaton_Product.l15_eq (p0 : Int) (p1 : Int) (p2 : Int) (p3 : Int) (p4 : Int) (p5 : (List (List Int))) (p6 : (List Bool)) (p7 : Int) (p8 : Int) (p9 : (List (List Int))) (p10 : (List Bool)) (p11 : Int) (p12 : Int) (p13 : (List ((Int × Int) × Int))) (p14 : Int) (p15 : Int) (p16 : (List ((Int × Int) × (Int × Int)))) (p17 : (List (List Int))) (p18 : (List Bool)) (p19 : (List (List Int))) (p20 : (List Bool)) : automaton_Product.l15 p0 p1 p2 p3 p4 p5 p6 p7 p8 p9 p10 p11 p12 p13 p14 p15 p16 p17 p18 p19 p20 =
  ifB (decide (p2 < p1))
   (bindD ((ixAt p16 p2)) fun t255 =>
   bindD ((ixAt p16 p2)) fun t256 =>
   bindD ((Go.Proofs.R.mkLen p3 p3)) fun t257 =>
   automaton_Product.l19 p0 p1 p2 (((List.length (List.replicate t257 (0 : Int))) : Nat) : Int) (0 : Int) p3 p4 p5 p6 p7 p8 p9 p10 p11 p12 p13 p14 p15 t256.1.1 t256.1.2 t256.2.1 t256.2.2 (List.replicate t257 (0 : Int)) p16 p17 p18 p19 p20)
  (bindD (automaton_minimal.f p14 p15 p19 p20) fun t258 =>
   ifB (decide ((((List.length t258.2.2.1) : Nat) : Int) > (400 : Int)))
    (some ((0 : Int), ((0 : Int), (([] : (List (List Int))), (([] : (List Bool)), ((3 : Int), ()))))))
   (some (t258.1, (t258.2.1, (t258.2.2.1, (t258.2.2.2.1, ((0 : Int), ()))))))) := (loopAt_step Go.Proofs.C06.ctx 13 15 _).trans (by kernel_rfl)
theorem ancepsref06_walk.l4_eq (p0 : Int) (p1 : Int) (p2 : Int) (p3 : (List (List Int))) (p4 : (List Bool)) (p5 : Int) (p6 : Int) (p7 : (List (List Int))) (p8 : (List Bool)) (p9 : (List ((Int × Int) × (Int × Int)))) (p10 : (List ((Int × Int) × Bool))) : ancepsref06_walk.l4 p0 p1 p2 p3 p4 p5 p6 p7 p8 p9 p10 =
  ifB (decide (p0 < (((List.length p9) : Nat) : Int)))
   (ancepsref06_walk.l7 p0 (0 : Int) p1 p2 p3 p4 p5 p6 p7 p8 p9 p10)
  (some (p9, ())) := (loopAt_step Go.Proofs.C06.ctx 54 4 _).trans (by kernel_rfl)
theorem ancepsref06_Product.l14_eq (p0 : Int) (p1 : Int) (p2 : Int) (p3 : Int) (p4 : (List (List Int))) (p5 : (List Bool)) (p6 : Int) (p7 : Int) (p8 : (List (List Int))) (p9 : (List Bool)) (p10 : Int) (p11 : Int) (p12 : (List ((Int × Int) × (Int × Int)))) (p13 : (List ((Int × Int) × Int))) (p14 : Int) (p15 : Int) (p16 : (List (List Int))) (p17 : (List Bool)) (p18 : (List (List Int))) (p19 : (List Bool)) : ancepsref06_Product.l14 p0 p1 p2 p3 p4 p5 p6 p7 p8 p9 p10 p11 p12 p13 p14 p15 p16 p17 p18 p19 =
  ifB (decide (p1 < (((List.length p12) : Nat) : Int)))
   (bindD ((ixAt p12 p1)) fun t259 =>
   bindD ((ixAt p12 p1)) fun t260 =>
   ancepsref06_Product.l19 p0 p1 (0 : Int) p2 p3 p4 p5 p6 p7 p8 p9 p10 p11 p12 p13 p14 p15 t260.1.1 t260.1.2 ([] : (List Int)) p16 p17 p18 p19)
  (bindD (ancepsref06_Small.f p14 p15 p18 p19) fun t261 =>
   ifB (!t261.2.2.2.2.1)
    (some ((0 : Int), ((0 : Int), (([] : (List (List Int))), (([] : (List Bool)), ((3 : Int), ()))))))
   (some (t261.1, (t261.2.1, (t261.2.2.1, (t261.2.2.2.1, ((0 : Int), ()))))))) := (loopAt_step Go.Proofs.C06.ctx 28 14 _).trans (by kernel_rfl)
theorem automaton_visit.f_eq (p0 : (List ((Int × Int) × (Int × Int)))) (p1 : Int) (p2 : Int) (p3 : (List (List Int))) (p4 : (List Bool)) (p5 : Int) (p6 : Int) (p7 : (List (List Int))) (p8 : (List Bool)) : automaton_visit.f p0 p1 p2 p3 p4 p5 p6 p7 p8 =
  automaton_visit.l2 p0 p1 p2 p3 p4 p5 p6 p7 p8 (((List.length p0) : Nat) : Int) (0 : Int) := (Einf_call Go.Proofs.C06.ctx 69 _).trans (by kernel_rfl)
theorem automaton_word.l2_eq (p0 : (List ((Int × Int) × (Int × Int)))) (p1 : Int) (p2 : (List Int)) : automaton_word.l2 p0 p1 p2 =
  bindD ((ixAt p0 p1)) fun t262 =>
  ifB (decide (t262.2.1 ≥ (0 : Int)))
   (bindD ((ixAt p0 p1)) fun t263 =>
   bindD ((Go.Proofs.R.grow ((List.length p2) + (List.length (t263.2.2 :: ([] : (List Int))))))) fun t264 =>
   bindD ((ixAt p0 p1)) fun t265 =>
   automaton_word.l2 p0 t265.2.1 (p2 ++ (t263.2.2 :: ([] : (List Int)))))
  (bindD ((Go.Proofs.R.grow (List.length p2))) fun t266 =>
   some ((Go.Proofs.R.revL p2), ())) := (loopAt_step Go.Proofs.C06.ctx 59 2 _).trans (by kernel_rfl)
theorem ancepsref06_accepting.f_eq (p0 : Int) (p1 : Int) (p2 : (List (List Int))) (p3 : (List Bool)) (p4 : Int) : ancepsref06_accepting.f p0 p1 p2 p3 p4 =
  ifB (decide (p4 ≥ (0 : Int)))
   (bindD ((ixAt p3 p4)) fun t267 =>
   some (t267, ()))
  (some (false, ())) := (Einf_call Go.Proofs.C06.ctx 56 _).trans (by kernel_rfl)
theorem ancepsref06_Difference.l11_eq (p0 : Int) (p1 : (List ((Int × Int) × (Int × Int)))) (p2 : (List Int)) : ancepsref06_Difference.l11 p0 p1 p2 =
  bindD ((ixAt p1 p0)) fun t268 =>
  bindD ((ixAt p1 p0)) fun t269 =>
  ifB (decide (t269.2.1 ≥ (0 : Int)))
   (bindD ((ixAt p1 p0)) fun t270 =>
   bindD ((ixAt p1 p0)) fun t271 =>
   bindD ((Go.Proofs.R.grow ((List.length (t271.2.2 :: ([] : (List Int)))) + (List.length p2)))) fun t272 =>
   bindD ((ixAt p1 p0)) fun t273 =>
   bindD ((ixAt p1 p0)) fun t274 =>
   ancepsref06_Difference.l11 t274.2.1 p1 ((t271.2.2 :: ([] : (List Int))) ++ p2))
  (some (p2, ((0 : Int), ()))) := (loopAt_step Go.Proofs.C06.ctx 35 11 _).trans (by kernel_rfl)
theorem ancepsref06_Made.l8_eq (p0 : Int) (p1 : Int) (p2 : Int) (p3 : Int) (p4 : (List Int)) (p5 : Int) (p6 : Int) (p7 : Int) (p8 : Int) (p9 : Int) (p10 : (List Int)) (p11 : (List (List Int))) (p12 : (List Bool)) (p13 : (List (List Int))) (p14 : (List Bool)) : ancepsref06_Made.l8 p0 p1 p2 p3 p4 p5 p6 p7 p8 p9 p10 p11 p12 p13 p14 =
  ifB (decide (p2 < p8))
   (bindD ((ixAt p4 (Go.IntKind.wrap Go.IntKind.i64 ((Go.IntKind.wrap Go.IntKind.i64 (p1 * p8)) + p2)))) fun t275 =>
   ifB ((Go.IntKind.wrap Go.IntKind.i64 (p0 + (1 : Int))) == (0 : Int))
    (none)
   (bindD ((Go.Proofs.R.grow ((List.length p10) + (List.length ((Go.IntKind.wrap Go.IntKind.i64 ((Int.tmod (Go.IntKind.wrap Go.IntKind.i64 t275) (Go.IntKind.wrap Go.IntKind.i64 (p0 + (1 : Int)))) - (1 : Int))) :: ([] : (List Int))))))) fun t276 =>
    ancepsref06_Made.l8 p0 p1 (Go.IntKind.wrap Go.IntKind.i64 (p2 + (1 : Int))) p3 p4 p5 p6 p7 p8 p9 (p10 ++ ((Go.IntKind.wrap Go.IntKind.i64 ((Int.tmod (Go.IntKind.wrap Go.IntKind.i64 t275) (Go.IntKind.wrap Go.IntKind.i64 (p0 + (1 : Int)))) - (1 : Int))) :: ([] : (List Int)))) p11 p12 p13 p14))
  (bindD ((Go.Proofs.R.grow ((List.length p13) + (List.length (p10 :: ([] : (List (List Int)))))))) fun t277 =>
   ifB (decide (p1 < (0 : Int)))
    (none)
   (bindD ((Go.Proofs.R.grow ((List.length p14) + (List.length (((Go.Proofs.R.bitsOp Go.BinOp.and Go.IntKind.u16 (Go.Proofs.R.shrInt Go.IntKind.u16 p5 p1) (1 : Int)) == (1 : Int)) :: ([] : (List Bool))))))) fun t278 =>
    ancepsref06_Made.l4 p0 (Go.IntKind.wrap Go.IntKind.i64 (p1 + (1 : Int))) p3 p4 p5 p6 p7 p8 (0 : Int) p11 p12 (p13 ++ (p10 :: ([] : (List (List Int))))) (p14 ++ (((Go.Proofs.R.bitsOp Go.BinOp.and Go.IntKind.u16 (Go.Proofs.R.shrInt Go.IntKind.u16 p5 p1) (1 : Int)) == (1 : Int)) :: ([] : (List Bool)))))) := (loopAt_step Go.Proofs.C06.ctx 11 8 _).trans (by kernel_rfl)
theorem automaton_Count.l16_eq (p0 : Int) (p1 : Int) (p2 : Int) (p3 : Int) (p4 : (List (List Int))) (p5 : (List Bool)) (p6 : (List Int)) : automaton_Count.l16 p0 p1 p2 p3 p4 p5 p6 =
  ifB (decide (p1 < p0))
   (bindD ((Go.Proofs.R.mkLen (((List.length p6) : Nat) : Int) (((List.length p6) : Nat) : Int))) fun t279 =>
   automaton_Count.l19 p0 p1 p4 (((List.length p4) : Nat) : Int) (0 : Int) p2 p3 p4 p5 p6 (List.replicate t279 (0 : Int)))
  (bindD ((ixAt p6 p3)) fun t280 =>
   bindD ((ixAt p6 p3)) fun t281 =>
   ifB (decide (t281 > (4611686018427387904 : Int)))
    (some ((0 : Int), ((3 : Int), ())))
   (bindD ((ixAt p6 p3)) fun t282 =>
    bindD ((ixAt p6 p3)) fun t283 =>
    some ((Go.IntKind.wrap Go.IntKind.i64 t283), ((0 : Int), ())))) := (loopAt_step Go.Proofs.C06.ctx 16 16 _).trans (by kernel_rfl)
theorem automaton_order.f_eq (p0 : Int) (p1 : Int) (p2 : Int) (p3 : Int) : automaton_order.f p0 p1 p2 p3 =
  bindD (cmp_Compare_int.f p0 p2) fun t284 =>
  bindD (cmp_Compare_int.f p1 p3) fun t285 =>
  bindD (cmp_Or_int.f (t284.1 :: (t285.1 :: ([] : (List Int))))) fun t286 =>
  some (t286.1, ()) := (Einf_call Go.Proofs.C06.ctx 62 _).trans (by kernel_rfl)
theorem automaton_CheckRelation_1.f_eq (p0 : Int) (p1 : Int) (p2 : (List (Int × Int))) (p3 : Int) (p4 : Int) : automaton_CheckRelation_1.f p0 p1 p2 p3 p4 =
  bindD (api_Pair_61.f p2 p0 p1) fun t287 =>
  ifB t287.2.1
   (some (true, ()))
  (some (((p0 == p3) && (p1 == p4)), ())) := (Einf_call Go.Proofs.C06.ctx 60 _).trans (by kernel_rfl)
theorem automaton_CheckRelation.l14_eq (p0 : (List (Int × Int))) (p1 : Int) (p2 : Int) (p3 : Int) (p4 : Int) (p5 : (List (List Int))) (p6 : (List Bool)) (p7 : Int) (p8 : Int) (p9 : (List (List Int))) (p10 : (List Bool)) (p11 : (List (Int × Int))) (p12 : Int) (p13 : Int) : automaton_CheckRelation.l14 p0 p1 p2 p3 p4 p5 p6 p7 p8 p9 p10 p11 p12 p13 =
  ifB (decide (p2 < p1))
   (bindD ((ixAt p0 p2)) fun t288 =>
   bindD (automaton_ends.f p3 p4 p5 p6 t288.1) fun t289 =>
   bindD (automaton_ends.f p7 p8 p9 p10 t288.2) fun t290 =>
   ifB (!(t289.1 == t290.1))
    (some (false, ()))
   (automaton_CheckRelation.l19 p0 p1 p2 p3 (0 : Int) p3 p4 p5 p6 p7 p8 p9 p10 p11 p12 p13 t288.1 t288.2))
  (some (true, ())) := (loopAt_step Go.Proofs.C06.ctx 36 14 _).trans (by kernel_rfl)
theorem ancepsref06_in.l2_eq (p0 : (List (Int × Int))) (p1 : Int) (p2 : Int) (p3 : Int) : ancepsref06_in.l2 p0 p1 p2 p3 =
  ifB (decide (p1 < (((List.length p0) : Nat) : Int)))
   (bindD ((ixAt p0 p1)) fun t291 =>
   ifB ((t291.1 == p2) && (t291.2 == p3))
    (some (true, ()))
   (ancepsref06_in.l2 p0 (Go.IntKind.wrap Go.IntKind.i64 (p1 + (1 : Int))) p2 p3))
  (ifB (decide (p2 < (0 : Int)))
    (some ((decide (p3 < (0 : Int))), ()))
   (some (false, ()))) := (loopAt_step Go.Proofs.C06.ctx 63 2 _).trans (by kernel_rfl)
theorem ancepsref06_less.f_eq (p0 : Int) (p1 : Int) (p2 : Int) (p3 : Int) : ancepsref06_less.f p0 p1 p2 p3 =
  ifB (decide (p0 < p2))
   (some (true, ()))
  (ifB (p0 == p2)
    (some ((decide (p1 < p3)), ()))
   (some (false, ()))) := (Einf_call Go.Proofs.C06.ctx 64 _).trans (by kernel_rfl)
theorem ancepsref06_CheckRelation.l12_eq (p0 : (List (Int × Int))) (p1 : Int) (p2 : Int) (p3 : Int) (p4 : Int) (p5 : (List (List Int))) (p6 : (List Bool)) (p7 : Int) (p8 : Int) (p9 : (List (List Int))) (p10 : (List Bool)) (p11 : Int) (p12 : Int) : ancepsref06_CheckRelation.l12 p0 p1 p2 p3 p4 p5 p6 p7 p8 p9 p10 p11 p12 =
  ifB (decide (p2 < p3))
   (bindD (ancepsref06_step.f p3 p4 p5 p6 p11 p2) fun t292 =>
   bindD (ancepsref06_step.f p7 p8 p9 p10 p12 p2) fun t293 =>
   bindD (ancepsref06_in.f p0 t292.1 t293.1) fun t294 =>
   ifB (!t294.1)
    (some (false, ()))
   (ancepsref06_CheckRelation.l12 p0 p1 (Go.IntKind.wrap Go.IntKind.i64 (p2 + (1 : Int))) p3 p4 p5 p6 p7 p8 p9 p10 p11 p12))
  (ancepsref06_CheckRelation.l4 p0 (Go.IntKind.wrap Go.IntKind.i64 (p1 + (1 : Int))) p3 p4 p5 p6 p7 p8 p9 p10) := (loopAt_step Go.Proofs.C06.ctx 38 12 _).trans (by kernel_rfl)
theorem slices_IndexFunc_int_int.f_eq (p0 : (List Int)) (p1 : Int) : slices_IndexFunc_int_int.f p0 p1 =
  slices_IndexFunc_int_int.l2 p0 p1 (((List.length p0) : Nat) : Int) (0 : Int) := (Einf_call Go.Proofs.C06.ctx 67 _).trans (by kernel_rfl)
theorem ancepsref06_step.f_eq (p0 : Int) (p1 : Int) (p2 : (List (List Int))) (p3 : (List Bool)) (p4 : Int) (p5 : Int) : ancepsref06_step.f p0 p1 p2 p3 p4 p5 =
  ifB (decide (p4 < (0 : Int)))
   (some ((-(1 : Int)), ()))
  (ifB (decide (p5 < (0 : Int)))
    (some ((-(1 : Int)), ()))
   (ifB (decide (p5 ≥ p0))
     (some ((-(1 : Int)), ()))
    (bindD ((ixAt p2 p4)) fun t295 =>
     bindD ((ixAt t295 p5)) fun t296 =>
     some (t296, ())))) := (Einf_call Go.Proofs.C06.ctx 55 _).trans (by kernel_rfl)
theorem automaton_useful.f_eq (p0 : Int) (p1 : Int) (p2 : (List (List Int))) (p3 : (List Bool)) : automaton_useful.f p0 p1 p2 p3 =
  bindD ((Go.Proofs.R.mkLen (((List.length p2) : Nat) : Int) (((List.length p2) : Nat) : Int))) fun t297 =>
  automaton_useful.l3 p2 (((List.length p2) : Nat) : Int) (0 : Int) p0 p1 p2 p3 (List.replicate t297 ([] : (List Int))) := (Einf_call Go.Proofs.C06.ctx 76 _).trans (by kernel_rfl)
theorem automaton_classes.l4_eq (p0 : Int) (p1 : Int) (p2 : Int) (p3 : Int) (p4 : (List (List Int))) (p5 : (List Bool)) (p6 : (List Bool)) (p7 : (List Int)) : automaton_classes.l4 p0 p1 p2 p3 p4 p5 p6 p7 =
  ifB (decide (p1 < p0))
   (bindD ((ixAt p6 p1)) fun t298 =>
   bindD ((ixAt p6 p1)) fun t299 =>
   ifB t299
    (bindD ((ixAt p7 p1)) fun t300 =>
    bindD ((ixAt p7 p1)) fun t301 =>
    bindD ((ixAt p5 p1)) fun t302 =>
    ifB t302
     (bindD ((ixAt (setRow p7 p1 (1 : Int)) p1)) fun t303 =>
     bindD ((ixAt (setRow p7 p1 (1 : Int)) p1)) fun t304 =>
     automaton_classes.l4 p0 (Go.IntKind.wrap Go.IntKind.i64 (p1 + (1 : Int))) p2 p3 p4 p5 p6 (setRow (setRow p7 p1 (1 : Int)) p1 (2 : Int)))
    (automaton_classes.l4 p0 (Go.IntKind.wrap Go.IntKind.i64 (p1 + (1 : Int))) p2 p3 p4 p5 p6 (setRow p7 p1 (1 : Int))))
   (bindD ((ixAt p5 p1)) fun t305 =>
    ifB t305
     (bindD ((ixAt p7 p1)) fun t306 =>
     bindD ((ixAt p7 p1)) fun t307 =>
     automaton_classes.l4 p0 (Go.IntKind.wrap Go.IntKind.i64 (p1 + (1 : Int))) p2 p3 p4 p5 p6 (setRow p7 p1 (2 : Int)))
    (automaton_classes.l4 p0 (Go.IntKind.wrap Go.IntKind.i64 (p1 + (1 : Int))) p2 p3 p4 p5 p6 p7)))
  (automaton_classes.l12 (0 : Int) p2 p3 p4 p5 p7) := (loopAt_step Go.Proofs.C06.ctx 66 4 _).trans (by kernel_rfl)
theorem automaton_minimal.l16_eq (p0 : Int) (p1 : Int) (p2 : (List Int)) (p3 : Int) (p4 : Int) (p5 : Int) (p6 : Int) (p7 : (List (List Int))) (p8 : (List Bool)) (p9 : Int) (p10 : Int) (p11 : Int) (p12 : Int) (p13 : (List Int)) (p14 : (List (Int × Int))) (p15 : (List Int)) (p16 : (List Int)) (p17 : (List (List Int))) (p18 : (List Bool)) (p19 : (List (List Int))) (p20 : (List Bool)) : automaton_minimal.l16 p0 p1 p2 p3 p4 p5 p6 p7 p8 p9 p10 p11 p12 p13 p14 p15 p16 p17 p18 p19 p20 =
  ifB (decide (p4 < p3))
   (bindD ((ixAt p2 p4)) fun t308 =>
   ifB (decide (t308 < (0 : Int)))
    (bindD ((ixAt p16 p4)) fun t309 =>
    bindD ((ixAt p16 p4)) fun t310 =>
    automaton_minimal.l16 p0 p1 p2 p3 (Go.IntKind.wrap Go.IntKind.i64 (p4 + (1 : Int))) p5 p6 p7 p8 p9 p10 p11 p12 p13 p14 p15 (setRow p16 p4 (-(1 : Int))) p17 p18 p19 p20)
   (bindD ((ixAt p13 t308)) fun t311 =>
    bindD ((ixAt p13 t308)) fun t312 =>
    ifB (t312 == (0 : Int))
     (bindD ((ixAt p16 p4)) fun t313 =>
     bindD ((ixAt p16 p4)) fun t314 =>
     automaton_minimal.l16 p0 p1 p2 p3 (Go.IntKind.wrap Go.IntKind.i64 (p4 + (1 : Int))) p5 p6 p7 p8 p9 p10 p11 p12 p13 p14 p15 (setRow p16 p4 (-(1 : Int))) p17 p18 p19 p20)
    (bindD ((ixAt p13 t308)) fun t315 =>
     bindD ((ixAt p13 t308)) fun t316 =>
     ifB (!(Go.Proofs.R.mget (Go.Proofs.R.Ty.int Go.IntKind.i64) (0 : Int) t316 p14).2)
      (bindD ((ixAt p13 t308)) fun t317 =>
      bindD ((ixAt p13 t308)) fun t318 =>
      bindD ((Go.Proofs.R.grow ((List.length p15) + (List.length (t308 :: ([] : (List Int))))))) fun t319 =>
      bindD ((ixAt p16 p4)) fun t320 =>
      bindD ((ixAt p16 p4)) fun t321 =>
      automaton_minimal.l16 p0 p1 p2 p3 (Go.IntKind.wrap Go.IntKind.i64 (p4 + (1 : Int))) p5 p6 p7 p8 p9 p10 p11 p12 p13 (Go.Proofs.R.mput (Go.Proofs.R.Ty.int Go.IntKind.i64) t318 (((List.length p15) : Nat) : Int) p14) (p15 ++ (t308 :: ([] : (List Int)))) (setRow p16 p4 (((List.length p15) : Nat) : Int)) p17 p18 p19 p20)
     (bindD ((ixAt p16 p4)) fun t322 =>
      bindD ((ixAt p16 p4)) fun t323 =>
      automaton_minimal.l16 p0 p1 p2 p3 (Go.IntKind.wrap Go.IntKind.i64 (p4 + (1 : Int))) p5 p6 p7 p8 p9 p10 p11 p12 p13 p14 p15 (setRow p16 p4 (Go.Proofs.R.mget (Go.Proofs.R.Ty.int Go.IntKind.i64) (0 : Int) t316 p14).1) p17 p18 p19 p20))))
  (bindD ((Go.Proofs.R.grow ((List.length p19) + (List.length (p16 :: ([] : (List (List Int)))))))) fun t324 =>
   bindD ((ixAt p8 p1)) fun t325 =>
   bindD ((Go.Proofs.R.grow ((List.length p20) + (List.length (t325 :: ([] : (List Bool))))))) fun t326 =>
   automaton_minimal.l11 (Go.IntKind.wrap Go.IntKind.i64 (p0 + (1 : Int))) p5 p6 p7 p8 p9 p10 p11 p12 p13 p14 p15 p17 p18 (p19 ++ (p16 :: ([] : (List (List Int))))) (p20 ++ (t325 :: ([] : (List Bool))))) := (loopAt_step Go.Proofs.C06.ctx 46 16 _).trans (by kernel_rfl)
theorem ancepsref06_Live.f_eq (p0 : Int) (p1 : Int) (p2 : (List (List Int))) (p3 : (List Bool)) : ancepsref06_Live.f p0 p1 p2 p3 =
  bindD ((Go.Proofs.R.grow ((List.length ([] : (List Bool))) + (List.length p3)))) fun t327 =>
  ancepsref06_Live.l3 true p0 p1 p2 p3 (([] : (List Bool)) ++ p3) := (Einf_call Go.Proofs.C06.ctx 77 _).trans (by kernel_rfl)
theorem ancepsref06_classes.l4_eq (p0 : Int) (p1 : Int) (p2 : Int) (p3 : (List (List Int))) (p4 : (List Bool)) (p5 : (List Bool)) (p6 : (List Int)) : ancepsref06_classes.l4 p0 p1 p2 p3 p4 p5 p6 =
  ifB (decide (p0 < (((List.length p6) : Nat) : Int)))
   (bindD ((ixAt p5 p0)) fun t328 =>
   bindD ((ixAt p5 p0)) fun t329 =>
   ifB t329
    (bindD ((ixAt p6 p0)) fun t330 =>
    bindD ((ixAt p6 p0)) fun t331 =>
    bindD ((ixAt p4 p0)) fun t332 =>
    ifB t332
     (bindD ((ixAt (setRow p6 p0 (1 : Int)) p0)) fun t333 =>
     bindD ((ixAt (setRow p6 p0 (1 : Int)) p0)) fun t334 =>
     ancepsref06_classes.l4 (Go.IntKind.wrap Go.IntKind.i64 (p0 + (1 : Int))) p1 p2 p3 p4 p5 (setRow (setRow p6 p0 (1 : Int)) p0 (2 : Int)))
    (ancepsref06_classes.l4 (Go.IntKind.wrap Go.IntKind.i64 (p0 + (1 : Int))) p1 p2 p3 p4 p5 (setRow p6 p0 (1 : Int))))
   (ancepsref06_classes.l4 (Go.IntKind.wrap Go.IntKind.i64 (p0 + (1 : Int))) p1 p2 p3 p4 p5 p6))
  (ancepsref06_classes.l11 (0 : Int) p1 p2 p3 p4 p5 p6) := (loopAt_step Go.Proofs.C06.ctx 68 4 _).trans (by kernel_rfl)
theorem ancepsref06_minimal.l13_eq (p0 : Int) (p1 : Int) (p2 : Int) (p3 : Int) (p4 : (List (List Int))) (p5 : (List Bool)) (p6 : Int) (p7 : Int) (p8 : Int) (p9 : Int) (p10 : (List Int)) (p11 : (List Int)) (p12 : (List (Int × Int))) (p13 : (List Int)) (p14 : (List (List Int))) (p15 : (List Bool)) (p16 : (List (List Int))) (p17 : (List Bool)) : ancepsref06_minimal.l13 p0 p1 p2 p3 p4 p5 p6 p7 p8 p9 p10 p11 p12 p13 p14 p15 p16 p17 =
  ifB (decide (p1 < p2))
   (bindD ((ixAt p11 p0)) fun t335 =>
   bindD ((ixAt p11 p0)) fun t336 =>
   bindD ((ixAt p4 t336)) fun t337 =>
   bindD ((ixAt t337 p1)) fun t338 =>
   ifB (decide (t338 < (0 : Int)))
    (bindD ((Go.Proofs.R.grow ((List.length p13) + (List.length ((-(1 : Int)) :: ([] : (List Int))))))) fun t339 =>
    ancepsref06_minimal.l13 p0 (Go.IntKind.wrap Go.IntKind.i64 (p1 + (1 : Int))) p2 p3 p4 p5 p6 p7 p8 p9 p10 p11 p12 (p13 ++ ((-(1 : Int)) :: ([] : (List Int)))) p14 p15 p16 p17)
   (bindD ((ixAt p10 t338)) fun t340 =>
    bindD ((ixAt p10 t338)) fun t341 =>
    ifB (t341 == (0 : Int))
     (bindD ((Go.Proofs.R.grow ((List.length p13) + (List.length ((-(1 : Int)) :: ([] : (List Int))))))) fun t342 =>
     ancepsref06_minimal.l13 p0 (Go.IntKind.wrap Go.IntKind.i64 (p1 + (1 : Int))) p2 p3 p4 p5 p6 p7 p8 p9 p10 p11 p12 (p13 ++ ((-(1 : Int)) :: ([] : (List Int)))) p14 p15 p16 p17)
    (bindD ((ixAt p10 t338)) fun t343 =>
     bindD ((ixAt p10 t338)) fun t344 =>
     ifB (!(Go.Proofs.R.mget (Go.Proofs.R.Ty.int Go.IntKind.i64) (0 : Int) t344 p12).2)
      (bindD ((ixAt p10 t338)) fun t345 =>
      bindD ((ixAt p10 t338)) fun t346 =>
      bindD ((Go.Proofs.R.grow ((List.length p11) + (List.length (t338 :: ([] : (List Int))))))) fun t347 =>
      bindD ((Go.Proofs.R.grow ((List.length p13) + (List.length ((((List.length p11) : Nat) : Int) :: ([] : (List Int))))))) fun t348 =>
      ancepsref06_minimal.l13 p0 (Go.IntKind.wrap Go.IntKind.i64 (p1 + (1 : Int))) p2 p3 p4 p5 p6 p7 p8 p9 p10 (p11 ++ (t338 :: ([] : (List Int)))) (Go.Proofs.R.mput (Go.Proofs.R.Ty.int Go.IntKind.i64) t346 (((List.length p11) : Nat) : Int) p12) (p13 ++ ((((List.length p11) : Nat) : Int) :: ([] : (List Int)))) p14 p15 p16 p17)
     (bindD ((Go.Proofs.R.grow ((List.length p13) + (List.length ((Go.Proofs.R.mget (Go.Proofs.R.Ty.int Go.IntKind.i64) (0 : Int) t344 p12).1 :: ([] : (List Int))))))) fun t349 =>
      ancepsref06_minimal.l13 p0 (Go.IntKind.wrap Go.IntKind.i64 (p1 + (1 : Int))) p2 p3 p4 p5 p6 p7 p8 p9 p10 p11 p12 (p13 ++ ((Go.Proofs.R.mget (Go.Proofs.R.Ty.int Go.IntKind.i64) (0 : Int) t344 p12).1 :: ([] : (List Int)))) p14 p15 p16 p17))))
  (bindD ((Go.Proofs.R.grow ((List.length p16) + (List.length (p13 :: ([] : (List (List Int)))))))) fun t350 =>
   bindD ((ixAt p11 p0)) fun t351 =>
   bindD ((ixAt p11 p0)) fun t352 =>
   bindD ((ixAt p5 t352)) fun t353 =>
   bindD ((Go.Proofs.R.grow ((List.length p17) + (List.length (t353 :: ([] : (List Bool))))))) fun t354 =>
   ancepsref06_minimal.l9 (Go.IntKind.wrap Go.IntKind.i64 (p0 + (1 : Int))) p2 p3 p4 p5 p6 p7 p8 p9 p10 p11 p12 p14 p15 (p16 ++ (p13 :: ([] : (List (List Int))))) (p17 ++ (t353 :: ([] : (List Bool))))) := (loopAt_step Go.Proofs.C06.ctx 52 13 _).trans (by kernel_rfl)
theorem ancepsref06_Equal.l4_eq (p0 : (List Int)) (p1 : (List Int)) (p2 : Int) : ancepsref06_Equal.l4 p0 p1 p2 =
  ifB (decide (p2 < (((List.length p0) : Nat) : Int)))
   (bindD ((ixAt p0 p2)) fun t355 =>
   bindD ((ixAt p1 p2)) fun t356 =>
   ifB (t355 != t356)
    (some (false, ()))
   (ancepsref06_Equal.l4 p0 p1 (Go.IntKind.wrap Go.IntKind.i64 (p2 + (1 : Int)))))
  (some (true, ())) := (loopAt_step Go.Proofs.C06.ctx 47 4 _).trans (by kernel_rfl)
theorem automaton_visits.l8_eq (p0 : Int) (p1 : Int) (p2 : Int) (p3 : Int) (p4 : Int) (p5 : (List (List Int))) (p6 : (List Bool)) (p7 : Int) (p8 : Int) (p9 : (List (List Int))) (p10 : (List Bool)) (p11 : (List ((Int × Int) × (Int × Int)))) (p12 : (List ((Int × Int) × Bool))) (p13 : Int) (p14 : Int) : automaton_visits.l8 p0 p1 p2 p3 p4 p5 p6 p7 p8 p9 p10 p11 p12 p13 p14 =
  ifB (decide (p2 < p1))
   (bindD (automaton_next.f p3 p4 p5 p6 p13 p2) fun t357 =>
   bindD (automaton_next.f p7 p8 p9 p10 p14 p2) fun t358 =>
   ifB (!(Go.Proofs.R.mget (Go.Proofs.R.Ty.pair (Go.Proofs.R.Ty.int Go.IntKind.i64) (Go.Proofs.R.Ty.int Go.IntKind.i64)) false (t357.1, t358.1) p12).1)
    (bindD ((Go.Proofs.R.grow ((List.length p11) + (List.length (((t357.1, t358.1), (p0, p2)) :: ([] : (List ((Int × Int) × (Int × Int))))))))) fun t359 =>
    automaton_visits.l8 p0 p1 (Go.IntKind.wrap Go.IntKind.i64 (p2 + (1 : Int))) p3 p4 p5 p6 p7 p8 p9 p10 (p11 ++ (((t357.1, t358.1), (p0, p2)) :: ([] : (List ((Int × Int) × (Int × Int)))))) (Go.Proofs.R.mput (Go.Proofs.R.Ty.pair (Go.Proofs.R.Ty.int Go.IntKind.i64) (Go.Proofs.R.Ty.int Go.IntKind.i64)) (t357.1, t358.1) true p12) p13 p14)
   (automaton_visits.l8 p0 p1 (Go.IntKind.wrap Go.IntKind.i64 (p2 + (1 : Int))) p3 p4 p5 p6 p7 p8 p9 p10 p11 p12 p13 p14))
  (automaton_visits.l4 (Go.IntKind.wrap Go.IntKind.i64 (p0 + (1 : Int))) p3 p4 p5 p6 p7 p8 p9 p10 p11 p12) := (loopAt_step Go.Proofs.C06.ctx 43 8 _).trans (by kernel_rfl)
theorem automaton_Product.l19_eq (p0 : Int) (p1 : Int) (p2 : Int) (p3 : Int) (p4 : Int) (p5 : Int) (p6 : Int) (p7 : (List (List Int))) (p8 : (List Bool)) (p9 : Int) (p10 : Int) (p11 : (List (List Int))) (p12 : (List Bool)) (p13 : Int) (p14 : Int) (p15 : (List ((Int × Int) × Int))) (p16 : Int) (p17 : Int) (p18 : Int) (p19 : Int) (p20 : Int) (p21 : Int) (p22 : (List Int)) (p23 : (List ((Int × Int) × (Int × Int)))) (p24 : (List (List Int))) (p25 : (List Bool)) (p26 : (List (List Int))) (p27 : (List Bool)) : automaton_Product.l19 p0 p1 p2 p3 p4 p5 p6 p7 p8 p9 p10 p11 p12 p13 p14 p15 p16 p17 p18 p19 p20 p21 p22 p23 p24 p25 p26 p27 =
  ifB (decide (p4 < p3))
   (bindD (automaton_next.f p5 p6 p7 p8 p18 p4) fun t360 =>
   bindD (automaton_next.f p9 p10 p11 p12 p19 p4) fun t361 =>
   bindD ((ixAt p22 p4)) fun t362 =>
   bindD ((ixAt p22 p4)) fun t363 =>
   automaton_Product.l19 p0 p1 p2 p3 (Go.IntKind.wrap Go.IntKind.i64 (p4 + (1 : Int))) p5 p6 p7 p8 p9 p10 p11 p12 p13 p14 p15 p16 p17 p18 p19 p20 p21 (setRow p22 p4 (Go.Proofs.R.mget (Go.Proofs.R.Ty.pair (Go.Proofs.R.Ty.int Go.IntKind.i64) (Go.Proofs.R.Ty.int Go.IntKind.i64)) (0 : Int) (t360.1, t361.1) p15).1) p23 p24 p25 p26 p27)
  (bindD (automaton_ends.f p5 p6 p7 p8 p18) fun t364 =>
   bindD (automaton_ends.f p9 p10 p11 p12 p19) fun t365 =>
   ifB t364.1
    (ifB (p0 == (2 : Int))
     (ifB t364.1
      (bindD ((Go.Proofs.R.grow ((List.length p26) + (List.length (p22 :: ([] : (List (List Int)))))))) fun t366 =>
      bindD ((Go.Proofs.R.grow ((List.length p27) + (List.length (true :: ([] : (List Bool))))))) fun t367 =>
      automaton_Product.l15 p0 p1 (Go.IntKind.wrap Go.IntKind.i64 (p2 + (1 : Int))) p5 p6 p7 p8 p9 p10 p11 p12 p13 p14 p15 p16 p17 p23 p24 p25 (p26 ++ (p22 :: ([] : (List (List Int))))) (p27 ++ (true :: ([] : (List Bool)))))
     (bindD ((Go.Proofs.R.grow ((List.length p26) + (List.length (p22 :: ([] : (List (List Int)))))))) fun t368 =>
      bindD ((Go.Proofs.R.grow ((List.length p27) + (List.length (t365.1 :: ([] : (List Bool))))))) fun t369 =>
      automaton_Product.l15 p0 p1 (Go.IntKind.wrap Go.IntKind.i64 (p2 + (1 : Int))) p5 p6 p7 p8 p9 p10 p11 p12 p13 p14 p15 p16 p17 p23 p24 p25 (p26 ++ (p22 :: ([] : (List (List Int))))) (p27 ++ (t365.1 :: ([] : (List Bool))))))
    (ifB (p0 == (3 : Int))
      (ifB t364.1
       (bindD ((Go.Proofs.R.grow ((List.length p26) + (List.length (p22 :: ([] : (List (List Int)))))))) fun t370 =>
       bindD ((Go.Proofs.R.grow ((List.length p27) + (List.length ((!t365.1) :: ([] : (List Bool))))))) fun t371 =>
       automaton_Product.l15 p0 p1 (Go.IntKind.wrap Go.IntKind.i64 (p2 + (1 : Int))) p5 p6 p7 p8 p9 p10 p11 p12 p13 p14 p15 p16 p17 p23 p24 p25 (p26 ++ (p22 :: ([] : (List (List Int))))) (p27 ++ ((!t365.1) :: ([] : (List Bool)))))
      (bindD ((Go.Proofs.R.grow ((List.length p26) + (List.length (p22 :: ([] : (List (List Int)))))))) fun t372 =>
       bindD ((Go.Proofs.R.grow ((List.length p27) + (List.length (false :: ([] : (List Bool))))))) fun t373 =>
       automaton_Product.l15 p0 p1 (Go.IntKind.wrap Go.IntKind.i64 (p2 + (1 : Int))) p5 p6 p7 p8 p9 p10 p11 p12 p13 p14 p15 p16 p17 p23 p24 p25 (p26 ++ (p22 :: ([] : (List (List Int))))) (p27 ++ (false :: ([] : (List Bool))))))
     (bindD ((Go.Proofs.R.grow ((List.length p26) + (List.length (p22 :: ([] : (List (List Int)))))))) fun t374 =>
      bindD ((Go.Proofs.R.grow ((List.length p27) + (List.length (t365.1 :: ([] : (List Bool))))))) fun t375 =>
      automaton_Product.l15 p0 p1 (Go.IntKind.wrap Go.IntKind.i64 (p2 + (1 : Int))) p5 p6 p7 p8 p9 p10 p11 p12 p13 p14 p15 p16 p17 p23 p24 p25 (p26 ++ (p22 :: ([] : (List (List Int))))) (p27 ++ (t365.1 :: ([] : (List Bool)))))))
   (ifB (p0 == (2 : Int))
     (ifB t364.1
      (bindD ((Go.Proofs.R.grow ((List.length p26) + (List.length (p22 :: ([] : (List (List Int)))))))) fun t376 =>
      bindD ((Go.Proofs.R.grow ((List.length p27) + (List.length (true :: ([] : (List Bool))))))) fun t377 =>
      automaton_Product.l15 p0 p1 (Go.IntKind.wrap Go.IntKind.i64 (p2 + (1 : Int))) p5 p6 p7 p8 p9 p10 p11 p12 p13 p14 p15 p16 p17 p23 p24 p25 (p26 ++ (p22 :: ([] : (List (List Int))))) (p27 ++ (true :: ([] : (List Bool)))))
     (bindD ((Go.Proofs.R.grow ((List.length p26) + (List.length (p22 :: ([] : (List (List Int)))))))) fun t378 =>
      bindD ((Go.Proofs.R.grow ((List.length p27) + (List.length (t365.1 :: ([] : (List Bool))))))) fun t379 =>
      automaton_Product.l15 p0 p1 (Go.IntKind.wrap Go.IntKind.i64 (p2 + (1 : Int))) p5 p6 p7 p8 p9 p10 p11 p12 p13 p14 p15 p16 p17 p23 p24 p25 (p26 ++ (p22 :: ([] : (List (List Int))))) (p27 ++ (t365.1 :: ([] : (List Bool))))))
    (ifB (p0 == (3 : Int))
      (ifB t364.1
       (bindD ((Go.Proofs.R.grow ((List.length p26) + (List.length (p22 :: ([] : (List (List Int)))))))) fun t380 =>
       bindD ((Go.Proofs.R.grow ((List.length p27) + (List.length ((!t365.1) :: ([] : (List Bool))))))) fun t381 =>
       automaton_Product.l15 p0 p1 (Go.IntKind.wrap Go.IntKind.i64 (p2 + (1 : Int))) p5 p6 p7 p8 p9 p10 p11 p12 p13 p14 p15 p16 p17 p23 p24 p25 (p26 ++ (p22 :: ([] : (List (List Int))))) (p27 ++ ((!t365.1) :: ([] : (List Bool)))))
      (bindD ((Go.Proofs.R.grow ((List.length p26) + (List.length (p22 :: ([] : (List (List Int)))))))) fun t382 =>
       bindD ((Go.Proofs.R.grow ((List.length p27) + (List.length (false :: ([] : (List Bool))))))) fun t383 =>
       automaton_Product.l15 p0 p1 (Go.IntKind.wrap Go.IntKind.i64 (p2 + (1 : Int))) p5 p6 p7 p8 p9 p10 p11 p12 p13 p14 p15 p16 p17 p23 p24 p25 (p26 ++ (p22 :: ([] : (List (List Int))))) (p27 ++ (false :: ([] : (List Bool))))))
     (bindD ((Go.Proofs.R.grow ((List.length p26) + (List.length (p22 :: ([] : (List (List Int)))))))) fun t384 =>
      bindD ((Go.Proofs.R.grow ((List.length p27) + (List.length (false :: ([] : (List Bool))))))) fun t385 =>
      automaton_Product.l15 p0 p1 (Go.IntKind.wrap Go.IntKind.i64 (p2 + (1 : Int))) p5 p6 p7 p8 p9 p10 p11 p12 p13 p14 p15 p16 p17 p23 p24 p25 (p26 ++ (p22 :: ([] : (List (List Int))))) (p27 ++ (false :: ([] : (List Bool)))))))) := (loopAt_step Go.Proofs.C06.ctx 13 19 _).trans (by kernel_rfl)
theorem ancepsref06_walk.l7_eq (p0 : Int) (p1 : Int) (p2 : Int) (p3 : Int) (p4 : (List (List Int))) (p5 : (List Bool)) (p6 : Int) (p7 : Int) (p8 : (List (List Int))) (p9 : (List Bool)) (p10 : (List ((Int × Int) × (Int × Int)))) (p11 : (List ((Int × Int) × Bool))) : ancepsref06_walk.l7 p0 p1 p2 p3 p4 p5 p6 p7 p8 p9 p10 p11 =
  ifB (decide (p1 < p2))
   (bindD ((ixAt p10 p0)) fun t386 =>
   bindD ((ixAt p10 p0)) fun t387 =>
   bindD (ancepsref06_step.f p2 p3 p4 p5 t387.1.1 p1) fun t388 =>
   bindD ((ixAt p10 p0)) fun t389 =>
   bindD ((ixAt p10 p0)) fun t390 =>
   bindD (ancepsref06_step.f p6 p7 p8 p9 t390.1.2 p1) fun t391 =>
   ifB (!(Go.Proofs.R.mget (Go.Proofs.R.Ty.pair (Go.Proofs.R.Ty.int Go.IntKind.i64) (Go.Proofs.R.Ty.int Go.IntKind.i64)) false (t388.1, t391.1) p11).1)
    (bindD ((Go.Proofs.R.grow ((List.length p10) + (List.length (((t388.1, t391.1), (p0, p1)) :: ([] : (List ((Int × Int) × (Int × Int))))))))) fun t392 =>
    ancepsref06_walk.l7 p0 (Go.IntKind.wrap Go.IntKind.i64 (p1 + (1 : Int))) p2 p3 p4 p5 p6 p7 p8 p9 (p10 ++ (((t388.1, t391.1), (p0, p1)) :: ([] : (List ((Int × Int) × (Int × Int)))))) (Go.Proofs.R.mput (Go.Proofs.R.Ty.pair (Go.Proofs.R.Ty.int Go.IntKind.i64) (Go.Proofs.R.Ty.int Go.IntKind.i64)) (t388.1, t391.1) true p11))
   (ancepsref06_walk.l7 p0 (Go.IntKind.wrap Go.IntKind.i64 (p1 + (1 : Int))) p2 p3 p4 p5 p6 p7 p8 p9 p10 p11))
  (ancepsref06_walk.l4 (Go.IntKind.wrap Go.IntKind.i64 (p0 + (1 : Int))) p2 p3 p4 p5 p6 p7 p8 p9 p10 p11) := (loopAt_step Go.Proofs.C06.ctx 54 7 _).trans (by kernel_rfl)
theorem ancepsref06_Product.l19_eq (p0 : Int) (p1 : Int) (p2 : Int) (p3 : Int) (p4 : Int) (p5 : (List (List Int))) (p6 : (List Bool)) (p7 : Int) (p8 : Int) (p9 : (List (List Int))) (p10 : (List Bool)) (p11 : Int) (p12 : Int) (p13 : (List ((Int × Int) × (Int × Int)))) (p14 : (List ((Int × Int) × Int))) (p15 : Int) (p16 : Int) (p17 : Int) (p18 : Int) (p19 : (List Int)) (p20 : (List (List Int))) (p21 : (List Bool)) (p22 : (List (List Int))) (p23 : (List Bool)) : ancepsref06_Product.l19 p0 p1 p2 p3 p4 p5 p6 p7 p8 p9 p10 p11 p12 p13 p14 p15 p16 p17 p18 p19 p20 p21 p22 p23 =
  ifB (decide (p2 < p3))
   (bindD (ancepsref06_step.f p3 p4 p5 p6 p17 p2) fun t393 =>
   bindD (ancepsref06_step.f p7 p8 p9 p10 p18 p2) fun t394 =>
   bindD ((Go.Proofs.R.grow ((List.length p19) + (List.length ((Go.Proofs.R.mget (Go.Proofs.R.Ty.pair (Go.Proofs.R.Ty.int Go.IntKind.i64) (Go.Proofs.R.Ty.int Go.IntKind.i64)) (0 : Int) (t393.1, t394.1) p14).1 :: ([] : (List Int))))))) fun t395 =>
   ancepsref06_Product.l19 p0 p1 (Go.IntKind.wrap Go.IntKind.i64 (p2 + (1 : Int))) p3 p4 p5 p6 p7 p8 p9 p10 p11 p12 p13 p14 p15 p16 p17 p18 (p19 ++ ((Go.Proofs.R.mget (Go.Proofs.R.Ty.pair (Go.Proofs.R.Ty.int Go.IntKind.i64) (Go.Proofs.R.Ty.int Go.IntKind.i64)) (0 : Int) (t393.1, t394.1) p14).1 :: ([] : (List Int)))) p20 p21 p22 p23)
  (bindD (ancepsref06_accepting.f p3 p4 p5 p6 p17) fun t396 =>
   bindD (ancepsref06_accepting.f p7 p8 p9 p10 p18) fun t397 =>
   bindD ((Go.Proofs.R.grow ((List.length p22) + (List.length (p19 :: ([] : (List (List Int)))))))) fun t398 =>
   ifB (p0 == (1 : Int))
    (ifB t396.1
     (ifB t397.1
      (bindD ((Go.Proofs.R.grow ((List.length p23) + (List.length (true :: ([] : (List Bool))))))) fun t399 =>
      ancepsref06_Product.l14 p0 (Go.IntKind.wrap Go.IntKind.i64 (p1 + (1 : Int))) p3 p4 p5 p6 p7 p8 p9 p10 p11 p12 p13 p14 p15 p16 p20 p21 (p22 ++ (p19 :: ([] : (List (List Int))))) (p23 ++ (true :: ([] : (List Bool)))))
     (ifB (p0 == (2 : Int))
       (ifB t396.1
        (bindD ((Go.Proofs.R.grow ((List.length p23) + (List.length (true :: ([] : (List Bool))))))) fun t400 =>
        ancepsref06_Product.l14 p0 (Go.IntKind.wrap Go.IntKind.i64 (p1 + (1 : Int))) p3 p4 p5 p6 p7 p8 p9 p10 p11 p12 p13 p14 p15 p16 p20 p21 (p22 ++ (p19 :: ([] : (List (List Int))))) (p23 ++ (true :: ([] : (List Bool)))))
       (ifB t397.1
         (bindD ((Go.Proofs.R.grow ((List.length p23) + (List.length (true :: ([] : (List Bool))))))) fun t401 =>
         ancepsref06_Product.l14 p0 (Go.IntKind.wrap Go.IntKind.i64 (p1 + (1 : Int))) p3 p4 p5 p6 p7 p8 p9 p10 p11 p12 p13 p14 p15 p16 p20 p21 (p22 ++ (p19 :: ([] : (List (List Int))))) (p23 ++ (true :: ([] : (List Bool)))))
        (ifB (p0 == (3 : Int))
          (ifB t396.1
           (bindD ((Go.Proofs.R.grow ((List.length p23) + (List.length ((!t397.1) :: ([] : (List Bool))))))) fun t402 =>
           ancepsref06_Product.l14 p0 (Go.IntKind.wrap Go.IntKind.i64 (p1 + (1 : Int))) p3 p4 p5 p6 p7 p8 p9 p10 p11 p12 p13 p14 p15 p16 p20 p21 (p22 ++ (p19 :: ([] : (List (List Int))))) (p23 ++ ((!t397.1) :: ([] : (List Bool)))))
          (bindD ((Go.Proofs.R.grow ((List.length p23) + (List.length (false :: ([] : (List Bool))))))) fun t403 =>
           ancepsref06_Product.l14 p0 (Go.IntKind.wrap Go.IntKind.i64 (p1 + (1 : Int))) p3 p4 p5 p6 p7 p8 p9 p10 p11 p12 p13 p14 p15 p16 p20 p21 (p22 ++ (p19 :: ([] : (List (List Int))))) (p23 ++ (false :: ([] : (List Bool))))))
         (bindD ((Go.Proofs.R.grow ((List.length p23) + (List.length (false :: ([] : (List Bool))))))) fun t404 =>
          ancepsref06_Product.l14 p0 (Go.IntKind.wrap Go.IntKind.i64 (p1 + (1 : Int))) p3 p4 p5 p6 p7 p8 p9 p10 p11 p12 p13 p14 p15 p16 p20 p21 (p22 ++ (p19 :: ([] : (List (List Int))))) (p23 ++ (false :: ([] : (List Bool))))))))
      (ifB (p0 == (3 : Int))
        (ifB t396.1
         (bindD ((Go.Proofs.R.grow ((List.length p23) + (List.length ((!t397.1) :: ([] : (List Bool))))))) fun t405 =>
         ancepsref06_Product.l14 p0 (Go.IntKind.wrap Go.IntKind.i64 (p1 + (1 : Int))) p3 p4 p5 p6 p7 p8 p9 p10 p11 p12 p13 p14 p15 p16 p20 p21 (p22 ++ (p19 :: ([] : (List (List Int))))) (p23 ++ ((!t397.1) :: ([] : (List Bool)))))
        (bindD ((Go.Proofs.R.grow ((List.length p23) + (List.length (false :: ([] : (List Bool))))))) fun t406 =>
         ancepsref06_Product.l14 p0 (Go.IntKind.wrap Go.IntKind.i64 (p1 + (1 : Int))) p3 p4 p5 p6 p7 p8 p9 p10 p11 p12 p13 p14 p15 p16 p20 p21 (p22 ++ (p19 :: ([] : (List (List Int))))) (p23 ++ (false :: ([] : (List Bool))))))
       (bindD ((Go.Proofs.R.grow ((List.length p23) + (List.length (false :: ([] : (List Bool))))))) fun t407 =>
        ancepsref06_Product.l14 p0 (Go.IntKind.wrap Go.IntKind.i64 (p1 + (1 : Int))) p3 p4 p5 p6 p7 p8 p9 p10 p11 p12 p13 p14 p15 p16 p20 p21 (p22 ++ (p19 :: ([] : (List (List Int))))) (p23 ++ (false :: ([] : (List Bool))))))))
    (ifB (p0 == (2 : Int))
      (ifB t396.1
       (bindD ((Go.Proofs.R.grow ((List.length p23) + (List.length (true :: ([] : (List Bool))))))) fun t408 =>
       ancepsref06_Product.l14 p0 (Go.IntKind.wrap Go.IntKind.i64 (p1 + (1 : Int))) p3 p4 p5 p6 p7 p8 p9 p10 p11 p12 p13 p14 p15 p16 p20 p21 (p22 ++ (p19 :: ([] : (List (List Int))))) (p23 ++ (true :: ([] : (List Bool)))))
      (ifB t397.1
        (bindD ((Go.Proofs.R.grow ((List.length p23) + (List.length (true :: ([] : (List Bool))))))) fun t409 =>
        ancepsref06_Product.l14 p0 (Go.IntKind.wrap Go.IntKind.i64 (p1 + (1 : Int))) p3 p4 p5 p6 p7 p8 p9 p10 p11 p12 p13 p14 p15 p16 p20 p21 (p22 ++ (p19 :: ([] : (List (List Int))))) (p23 ++ (true :: ([] : (List Bool)))))
       (ifB (p0 == (3 : Int))
         (ifB t396.1
          (bindD ((Go.Proofs.R.grow ((List.length p23) + (List.length ((!t397.1) :: ([] : (List Bool))))))) fun t410 =>
          ancepsref06_Product.l14 p0 (Go.IntKind.wrap Go.IntKind.i64 (p1 + (1 : Int))) p3 p4 p5 p6 p7 p8 p9 p10 p11 p12 p13 p14 p15 p16 p20 p21 (p22 ++ (p19 :: ([] : (List (List Int))))) (p23 ++ ((!t397.1) :: ([] : (List Bool)))))
         (bindD ((Go.Proofs.R.grow ((List.length p23) + (List.length (false :: ([] : (List Bool))))))) fun t411 =>
          ancepsref06_Product.l14 p0 (Go.IntKind.wrap Go.IntKind.i64 (p1 + (1 : Int))) p3 p4 p5 p6 p7 p8 p9 p10 p11 p12 p13 p14 p15 p16 p20 p21 (p22 ++ (p19 :: ([] : (List (List Int))))) (p23 ++ (false :: ([] : (List Bool))))))
        (bindD ((Go.Proofs.R.grow ((List.length p23) + (List.length (false :: ([] : (List Bool))))))) fun t412 =>
         ancepsref06_Product.l14 p0 (Go.IntKind.wrap Go.IntKind.i64 (p1 + (1 : Int))) p3 p4 p5 p6 p7 p8 p9 p10 p11 p12 p13 p14 p15 p16 p20 p21 (p22 ++ (p19 :: ([] : (List (List Int))))) (p23 ++ (false :: ([] : (List Bool))))))))
     (ifB (p0 == (3 : Int))
       (ifB t396.1
        (bindD ((Go.Proofs.R.grow ((List.length p23) + (List.length ((!t397.1) :: ([] : (List Bool))))))) fun t413 =>
        ancepsref06_Product.l14 p0 (Go.IntKind.wrap Go.IntKind.i64 (p1 + (1 : Int))) p3 p4 p5 p6 p7 p8 p9 p10 p11 p12 p13 p14 p15 p16 p20 p21 (p22 ++ (p19 :: ([] : (List (List Int))))) (p23 ++ ((!t397.1) :: ([] : (List Bool)))))
       (bindD ((Go.Proofs.R.grow ((List.length p23) + (List.length (false :: ([] : (List Bool))))))) fun t414 =>
        ancepsref06_Product.l14 p0 (Go.IntKind.wrap Go.IntKind.i64 (p1 + (1 : Int))) p3 p4 p5 p6 p7 p8 p9 p10 p11 p12 p13 p14 p15 p16 p20 p21 (p22 ++ (p19 :: ([] : (List (List Int))))) (p23 ++ (false :: ([] : (List Bool))))))
      (bindD ((Go.Proofs.R.grow ((List.length p23) + (List.length (false :: ([] : (List Bool))))))) fun t415 =>
       ancepsref06_Product.l14 p0 (Go.IntKind.wrap Go.IntKind.i64 (p1 + (1 : Int))) p3 p4 p5 p6 p7 p8 p9 p10 p11 p12 p13 p14 p15 p16 p20 p21 (p22 ++ (p19 :: ([] : (List (List Int))))) (p23 ++ (false :: ([] : (List Bool))))))))
   (ifB (p0 == (2 : Int))
     (ifB t396.1
      (bindD ((Go.Proofs.R.grow ((List.length p23) + (List.length (true :: ([] : (List Bool))))))) fun t416 =>
      ancepsref06_Product.l14 p0 (Go.IntKind.wrap Go.IntKind.i64 (p1 + (1 : Int))) p3 p4 p5 p6 p7 p8 p9 p10 p11 p12 p13 p14 p15 p16 p20 p21 (p22 ++ (p19 :: ([] : (List (List Int))))) (p23 ++ (true :: ([] : (List Bool)))))
     (ifB t397.1
       (bindD ((Go.Proofs.R.grow ((List.length p23) + (List.length (true :: ([] : (List Bool))))))) fun t417 =>
       ancepsref06_Product.l14 p0 (Go.IntKind.wrap Go.IntKind.i64 (p1 + (1 : Int))) p3 p4 p5 p6 p7 p8 p9 p10 p11 p12 p13 p14 p15 p16 p20 p21 (p22 ++ (p19 :: ([] : (List (List Int))))) (p23 ++ (true :: ([] : (List Bool)))))
      (ifB (p0 == (3 : Int))
        (ifB t396.1
         (bindD ((Go.Proofs.R.grow ((List.length p23) + (List.length ((!t397.1) :: ([] : (List Bool))))))) fun t418 =>
         ancepsref06_Product.l14 p0 (Go.IntKind.wrap Go.IntKind.i64 (p1 + (1 : Int))) p3 p4 p5 p6 p7 p8 p9 p10 p11 p12 p13 p14 p15 p16 p20 p21 (p22 ++ (p19 :: ([] : (List (List Int))))) (p23 ++ ((!t397.1) :: ([] : (List Bool)))))
        (bindD ((Go.Proofs.R.grow ((List.length p23) + (List.length (false :: ([] : (List Bool))))))) fun t419 =>
         ancepsref06_Product.l14 p0 (Go.IntKind.wrap Go.IntKind.i64 (p1 + (1 : Int))) p3 p4 p5 p6 p7 p8 p9 p10 p11 p12 p13 p14 p15 p16 p20 p21 (p22 ++ (p19 :: ([] : (List (List Int))))) (p23 ++ (false :: ([] : (List Bool))))))
       (bindD ((Go.Proofs.R.grow ((List.length p23) + (List.length (false :: ([] : (List Bool))))))) fun t420 =>
        ancepsref06_Product.l14 p0 (Go.IntKind.wrap Go.IntKind.i64 (p1 + (1 : Int))) p3 p4 p5 p6 p7 p8 p9 p10 p11 p12 p13 p14 p15 p16 p20 p21 (p22 ++ (p19 :: ([] : (List (List Int))))) (p23 ++ (false :: ([] : (List Bool))))))))
    (ifB (p0 == (3 : Int))
      (ifB t396.1
       (bindD ((Go.Proofs.R.grow ((List.length p23) + (List.length ((!t397.1) :: ([] : (List Bool))))))) fun t421 =>
       ancepsref06_Product.l14 p0 (Go.IntKind.wrap Go.IntKind.i64 (p1 + (1 : Int))) p3 p4 p5 p6 p7 p8 p9 p10 p11 p12 p13 p14 p15 p16 p20 p21 (p22 ++ (p19 :: ([] : (List (List Int))))) (p23 ++ ((!t397.1) :: ([] : (List Bool)))))
      (bindD ((Go.Proofs.R.grow ((List.length p23) + (List.length (false :: ([] : (List Bool))))))) fun t422 =>
       ancepsref06_Product.l14 p0 (Go.IntKind.wrap Go.IntKind.i64 (p1 + (1 : Int))) p3 p4 p5 p6 p7 p8 p9 p10 p11 p12 p13 p14 p15 p16 p20 p21 (p22 ++ (p19 :: ([] : (List (List Int))))) (p23 ++ (false :: ([] : (List Bool))))))
     (bindD ((Go.Proofs.R.grow ((List.length p23) + (List.length (false :: ([] : (List Bool))))))) fun t423 =>
      ancepsref06_Product.l14 p0 (Go.IntKind.wrap Go.IntKind.i64 (p1 + (1 : Int))) p3 p4 p5 p6 p7 p8 p9 p10 p11 p12 p13 p14 p15 p16 p20 p21 (p22 ++ (p19 :: ([] : (List (List Int))))) (p23 ++ (false :: ([] : (List Bool)))))))) := (loopAt_step Go.Proofs.C06.ctx 28 19 _).trans (by kernel_rfl)
theorem ancepsref06_Small.f_eq (p0 : Int) (p1 : Int) (p2 : (List (List Int))) (p3 : (List Bool)) : ancepsref06_Small.f p0 p1 p2 p3 =
  bindD (ancepsref06_minimal.f p0 p1 p2 p3) fun t424 =>
  ifB (decide ((((List.length t424.2.2.1) : Nat) : Int) > (400 : Int)))
   (some ((0 : Int), ((0 : Int), (([] : (List (List Int))), (([] : (List Bool)), (false, ()))))))
  (some (t424.1, (t424.2.1, (t424.2.2.1, (t424.2.2.2.1, (true, ())))))) := (Einf_call Go.Proofs.C06.ctx 57 _).trans (by kernel_rfl)
theorem automaton_visit.l2_eq (p0 : (List ((Int × Int) × (Int × Int)))) (p1 : Int) (p2 : Int) (p3 : (List (List Int))) (p4 : (List Bool)) (p5 : Int) (p6 : Int) (p7 : (List (List Int))) (p8 : (List Bool)) (p9 : Int) (p10 : Int) : automaton_visit.l2 p0 p1 p2 p3 p4 p5 p6 p7 p8 p9 p10 =
  ifB (decide (p10 < p9))
   (bindD ((ixAt p0 p10)) fun t425 =>
   bindD (automaton_differ_1.f t425.1.1 t425.1.2 t425.2.1 t425.2.2 p1 p2 p3 p4 p5 p6 p7 p8) fun t426 =>
   ifB t426.1
    (some (p10, ()))
   (automaton_visit.l2 p0 p1 p2 p3 p4 p5 p6 p7 p8 p9 (Go.IntKind.wrap Go.IntKind.i64 (p10 + (1 : Int)))))
  (some ((-(1 : Int)), ())) := (loopAt_step Go.Proofs.C06.ctx 69 2 _).trans (by kernel_rfl)
theorem automaton_Count.l19_eq (p0 : Int) (p1 : Int) (p2 : (List (List Int))) (p3 : Int) (p4 : Int) (p5 : Int) (p6 : Int) (p7 : (List (List Int))) (p8 : (List Bool)) (p9 : (List Int)) (p10 : (List Int)) : automaton_Count.l19 p0 p1 p2 p3 p4 p5 p6 p7 p8 p9 p10 =
  ifB (decide (p4 < p3))
   (bindD ((ixAt p2 p4)) fun t427 =>
   automaton_Count.l22 p4 p0 p1 p2 p3 p4 t427 (((List.length t427) : Nat) : Int) (0 : Int) p5 p6 p7 p8 p9 p10)
  (automaton_Count.l16 p0 (Go.IntKind.wrap Go.IntKind.i64 (p1 + (1 : Int))) p5 p6 p7 p8 p10) := (loopAt_step Go.Proofs.C06.ctx 16 19 _).trans (by kernel_rfl)
theorem cmp_Compare_int.f_eq (p0 : Int) (p1 : Int) : cmp_Compare_int.f p0 p1 =
  bindD (cmp_isNaN_int.f p0) fun t428 =>
  bindD (cmp_isNaN_int.f p1) fun t429 =>
  ifB t428.1
   (ifB t429.1
    (some ((0 : Int), ()))
   (some ((-(1 : Int)), ())))
  (ifB t429.1
    (some ((1 : Int), ()))
   (ifB (decide (p0 < p1))
     (some ((-(1 : Int)), ()))
    (ifB (decide (p0 > p1))
      (some ((1 : Int), ()))
     (some ((0 : Int), ()))))) := (Einf_call Go.Proofs.C06.ctx 73 _).trans (by kernel_rfl)
theorem cmp_Or_int.f_eq (p0 : (List Int)) : cmp_Or_int.f p0 =
  cmp_Or_int.l3 (0 : Int) p0 (((List.length p0) : Nat) : Int) (0 : Int) := (Einf_call Go.Proofs.C06.ctx 72 _).trans (by kernel_rfl)
theorem api_Pair_61.f_eq (p0 : (List (Int × Int))) (p1 : Int) (p2 : Int) : api_Pair_61.f p0 p1 p2 =
  api_Pair_61.l3 p0 (((List.length p0) : Nat) : Int) (0 : Int) (((List.length p0) : Nat) : Int) p1 p2 := (Einf_call Go.Proofs.C06.ctx 61 _).trans (by kernel_rfl)
theorem automaton_CheckRelation.l19_eq (p0 : (List (Int × Int))) (p1 : Int) (p2 : Int) (p3 : Int) (p4 : Int) (p5 : Int) (p6 : Int) (p7 : (List (List Int))) (p8 : (List Bool)) (p9 : Int) (p10 : Int) (p11 : (List (List Int))) (p12 : (List Bool)) (p13 : (List (Int × Int))) (p14 : Int) (p15 : Int) (p16 : Int) (p17 : Int) : automaton_CheckRelation.l19 p0 p1 p2 p3 p4 p5 p6 p7 p8 p9 p10 p11 p12 p13 p14 p15 p16 p17 =
  ifB (decide (p4 < p3))
   (bindD (automaton_next.f p5 p6 p7 p8 p16 p4) fun t430 =>
   bindD (automaton_next.f p9 p10 p11 p12 p17 p4) fun t431 =>
   bindD (automaton_CheckRelation_1.f t430.1 t431.1 p13 p14 p15) fun t432 =>
   ifB (!t432.1)
    (some (false, ()))
   (automaton_CheckRelation.l19 p0 p1 p2 p3 (Go.IntKind.wrap Go.IntKind.i64 (p4 + (1 : Int))) p5 p6 p7 p8 p9 p10 p11 p12 p13 p14 p15 p16 p17))
  (automaton_CheckRelation.l14 p0 p1 (Go.IntKind.wrap Go.IntKind.i64 (p2 + (1 : Int))) p5 p6 p7 p8 p9 p10 p11 p12 p13 p14 p15) := (loopAt_step Go.Proofs.C06.ctx 36 19 _).trans (by kernel_rfl)
theorem slices_IndexFunc_int_int.l2_eq (p0 : (List Int)) (p1 : Int) (p2 : Int) (p3 : Int) : slices_IndexFunc_int_int.l2 p0 p1 p2 p3 =
  ifB (decide (p3 < p2))
   (bindD ((ixAt p0 p3)) fun t433 =>
   bindD (automaton_Valid_1.f t433 p1) fun t434 =>
   ifB t434.1
    (some (p3, ()))
   (slices_IndexFunc_int_int.l2 p0 p1 p2 (Go.IntKind.wrap Go.IntKind.i64 (p3 + (1 : Int)))))
  (some ((-(1 : Int)), ())) := (loopAt_step Go.Proofs.C06.ctx 67 2 _).trans (by kernel_rfl)
theorem automaton_useful.l3_eq (p0 : (List (List Int))) (p1 : Int) (p2 : Int) (p3 : Int) (p4 : Int) (p5 : (List (List Int))) (p6 : (List Bool)) (p7 : (List (List Int))) : automaton_useful.l3 p0 p1 p2 p3 p4 p5 p6 p7 =
  ifB (decide (p2 < p1))
   (bindD ((ixAt p0 p2)) fun t435 =>
   automaton_useful.l6 p2 p0 p1 p2 t435 (((List.length t435) : Nat) : Int) (0 : Int) p3 p4 p5 p6 p7)
  (bindD ((Go.Proofs.R.mkLen (((List.length p5) : Nat) : Int) (((List.length p5) : Nat) : Int))) fun t436 =>
   automaton_useful.l15 p6 (((List.length p6) : Nat) : Int) (0 : Int) p7 (List.replicate t436 false) ([] : (List Int))) := (loopAt_step Go.Proofs.C06.ctx 76 3 _).trans (by kernel_rfl)
theorem automaton_classes.l12_eq (p0 : Int) (p1 : Int) (p2 : Int) (p3 : (List (List Int))) (p4 : (List Bool)) (p5 : (List Int)) : automaton_classes.l12 p0 p1 p2 p3 p4 p5 =
  bindD ((Go.Proofs.R.mkLen (((List.length p5) : Nat) : Int) (((List.length p5) : Nat) : Int))) fun t437 =>
  automaton_classes.l15 p0 p3 (((List.length p3) : Nat) : Int) (0 : Int) p1 p2 p3 p4 p5 ([] : (List ((List Int) × Int))) (List.replicate t437 (0 : Int)) := (loopAt_step Go.Proofs.C06.ctx 66 12 _).trans (by kernel_rfl)
theorem ancepsref06_Live.l3_eq (p0 : Bool) (p1 : Int) (p2 : Int) (p3 : (List (List Int))) (p4 : (List Bool)) (p5 : (List Bool)) : ancepsref06_Live.l3 p0 p1 p2 p3 p4 p5 =
  ifB p0
   (ancepsref06_Live.l6 false (0 : Int) p1 p2 p3 p4 p5)
  (some (p5, ())) := (loopAt_step Go.Proofs.C06.ctx 77 3 _).trans (by kernel_rfl)
theorem ancepsref06_classes.l11_eq (p0 : Int) (p1 : Int) (p2 : Int) (p3 : (List (List Int))) (p4 : (List Bool)) (p5 : (List Bool)) (p6 : (List Int)) : ancepsref06_classes.l11 p0 p1 p2 p3 p4 p5 p6 =
  bindD ((Go.Proofs.R.mkLen (((List.length p6) : Nat) : Int) (((List.length p6) : Nat) : Int))) fun t438 =>
  ancepsref06_classes.l14 p0 (0 : Int) p1 p2 p3 p4 p5 p6 (List.replicate t438 (0 : Int)) ([] : (List (List Int))) := (loopAt_step Go.Proofs.C06.ctx 68 11 _).trans (by kernel_rfl)
theorem automaton_differ_1.f_eq (p0 : Int) (p1 : Int) (p2 : Int) (p3 : Int) (p4 : Int) (p5 : Int) (p6 : (List (List Int))) (p7 : (List Bool)) (p8 : Int) (p9 : Int) (p10 : (List (List Int))) (p11 : (List Bool)) : automaton_differ_1.f p0 p1 p2 p3 p4 p5 p6 p7 p8 p9 p10 p11 =
  bindD (automaton_ends.f p4 p5 p6 p7 p0) fun t439 =>
  bindD (automaton_ends.f p8 p9 p10 p11 p1) fun t440 =>
  some ((!(t439.1 == t440.1)), ()) := (Einf_call Go.Proofs.C06.ctx 70 _).trans (by kernel_rfl)
theorem automaton_Count.l22_eq (p0 : Int) (p1 : Int) (p2 : Int) (p3 : (List (List Int))) (p4 : Int) (p5 : Int) (p6 : (List Int)) (p7 : Int) (p8 : Int) (p9 : Int) (p10 : Int) (p11 : (List (List Int))) (p12 : (List Bool)) (p13 : (List Int)) (p14 : (List Int)) : automaton_Count.l22 p0 p1 p2 p3 p4 p5 p6 p7 p8 p9 p10 p11 p12 p13 p14 =
  ifB (decide (p8 < p7))
   (bindD ((ixAt p6 p8)) fun t441 =>
   ifB (decide (t441 ≥ (0 : Int)))
    (bindD ((ixAt p14 p0)) fun t442 =>
    bindD ((ixAt p14 p0)) fun t443 =>
    bindD ((ixAt p13 t441)) fun t444 =>
    bindD ((ixAt p13 t441)) fun t445 =>
    bindD ((ixAt p14 p0)) fun t446 =>
    bindD ((ixAt p14 p0)) fun t447 =>
    automaton_Count.l22 p0 p1 p2 p3 p4 p5 p6 p7 (Go.IntKind.wrap Go.IntKind.i64 (p8 + (1 : Int))) p9 p10 p11 p12 p13 (setRow p14 p0 (if ((4611686018427387905 : Int) < (Go.IntKind.wrap Go.IntKind.u64 (t443 + t445))) then (4611686018427387905 : Int) else (Go.IntKind.wrap Go.IntKind.u64 (t443 + t445)))))
   (automaton_Count.l22 p0 p1 p2 p3 p4 p5 p6 p7 (Go.IntKind.wrap Go.IntKind.i64 (p8 + (1 : Int))) p9 p10 p11 p12 p13 p14))
  (automaton_Count.l19 p1 p2 p3 p4 (Go.IntKind.wrap Go.IntKind.i64 (p5 + (1 : Int))) p9 p10 p11 p12 p13 p14) := (loopAt_step Go.Proofs.C06.ctx 16 22 _).trans (by kernel_rfl)
theorem cmp_isNaN_int.f_eq (p0 : Int) : cmp_isNaN_int.f p0 =
  some ((p0 != p0), ()) := (Einf_call Go.Proofs.C06.ctx 79 _).trans (by kernel_rfl)
theorem cmp_Or_int.l3_eq (p0 : Int) (p1 : (List Int)) (p2 : Int) (p3 : Int) : cmp_Or_int.l3 p0 p1 p2 p3 =
  ifB (decide (p3 < p2))
   (bindD ((ixAt p1 p3)) fun t448 =>
   ifB (t448 != p0)
    (some (t448, ()))
   (cmp_Or_int.l3 p0 p1 p2 (Go.IntKind.wrap Go.IntKind.i64 (p3 + (1 : Int)))))
  (some (p0, ())) := (loopAt_step Go.Proofs.C06.ctx 72 3 _).trans (by kernel_rfl)
theorem api_Pair_61.l3_eq (p0 : (List (Int × Int))) (p1 : Int) (p2 : Int) (p3 : Int) (p4 : Int) (p5 : Int) : api_Pair_61.l3 p0 p1 p2 p3 p4 p5 =
  ifB (decide (p2 < p3))
   (bindD ((ixAt p0 (Go.IntKind.wrap Go.IntKind.i64 (Go.Proofs.R.shrInt Go.IntKind.u64 (Go.IntKind.wrap Go.IntKind.u64 (Go.IntKind.wrap Go.IntKind.i64 (p2 + p3))) (1 : Int))))) fun t449 =>
   bindD (automaton_order.f t449.1 t449.2 p4 p5) fun t450 =>
   ifB (decide (t450.1 < (0 : Int)))
    (api_Pair_61.l3 p0 p1 (Go.IntKind.wrap Go.IntKind.i64 ((Go.IntKind.wrap Go.IntKind.i64 (Go.Proofs.R.shrInt Go.IntKind.u64 (Go.IntKind.wrap Go.IntKind.u64 (Go.IntKind.wrap Go.IntKind.i64 (p2 + p3))) (1 : Int))) + (1 : Int))) p3 p4 p5)
   (api_Pair_61.l3 p0 p1 p2 (Go.IntKind.wrap Go.IntKind.i64 (Go.Proofs.R.shrInt Go.IntKind.u64 (Go.IntKind.wrap Go.IntKind.u64 (Go.IntKind.wrap Go.IntKind.i64 (p2 + p3))) (1 : Int))) p4 p5))
  (ifB (decide (p2 < p1))
    (bindD ((ixAt p0 p2)) fun t451 =>
    bindD (automaton_order.f t451.1 t451.2 p4 p5) fun t452 =>
    some (p2, ((t452.1 == (0 : Int)), ())))
   (some (p2, (false, ())))) := (loopAt_step Go.Proofs.C06.ctx 61 3 _).trans (by kernel_rfl)
theorem automaton_Valid_1.f_eq (p0 : Int) (p1 : Int) : automaton_Valid_1.f p0 p1 =
  ifB (decide (p0 < (-(1 : Int))))
   (some (true, ()))
  (some ((decide (p0 ≥ p1)), ())) := (Einf_call Go.Proofs.C06.ctx 49 _).trans (by kernel_rfl)
theorem automaton_useful.l6_eq (p0 : Int) (p1 : (List (List Int))) (p2 : Int) (p3 : Int) (p4 : (List Int)) (p5 : Int) (p6 : Int) (p7 : Int) (p8 : Int) (p9 : (List (List Int))) (p10 : (List Bool)) (p11 : (List (List Int))) : automaton_useful.l6 p0 p1 p2 p3 p4 p5 p6 p7 p8 p9 p10 p11 =
  ifB (decide (p6 < p5))
   (bindD ((ixAt p4 p6)) fun t453 =>
   ifB (decide (t453 ≥ (0 : Int)))
    (bindD ((ixAt p11 t453)) fun t454 =>
    bindD ((ixAt p11 t453)) fun t455 =>
    bindD ((ixAt p11 t453)) fun t456 =>
    bindD ((Go.Proofs.R.grow ((List.length t456) + (List.length (p0 :: ([] : (List Int))))))) fun t457 =>
    bindD ((ixAt p11 t453)) fun t458 =>
    ifB (decide (t453 = t453))
     (automaton_useful.l6 p0 p1 p2 p3 p4 p5 (Go.IntKind.wrap Go.IntKind.i64 (p6 + (1 : Int))) p7 p8 p9 p10 (setRow p11 t453 (t456 ++ (p0 :: ([] : (List Int))))))
    (none))
   (automaton_useful.l6 p0 p1 p2 p3 p4 p5 (Go.IntKind.wrap Go.IntKind.i64 (p6 + (1 : Int))) p7 p8 p9 p10 p11))
  (automaton_useful.l3 p1 p2 (Go.IntKind.wrap Go.IntKind.i64 (p3 + (1 : Int))) p7 p8 p9 p10 p11) := (loopAt_step Go.Proofs.C06.ctx 76 6 _).trans (by kernel_rfl)
theorem automaton_useful.l15_eq (p0 : (List Bool)) (p1 : Int) (p2 : Int) (p3 : (List (List Int))) (p4 : (List Bool)) (p5 : (List Int)) : automaton_useful.l15 p0 p1 p2 p3 p4 p5 =
  ifB (decide (p2 < p1))
   (bindD ((ixAt p0 p2)) fun t459 =>
   ifB t459
    (bindD ((ixAt p4 p2)) fun t460 =>
    bindD ((ixAt p4 p2)) fun t461 =>
    bindD ((Go.Proofs.R.grow ((List.length p5) + (List.length (p2 :: ([] : (List Int))))))) fun t462 =>
    automaton_useful.l15 p0 p1 (Go.IntKind.wrap Go.IntKind.i64 (p2 + (1 : Int))) p3 (setRow p4 p2 true) (p5 ++ (p2 :: ([] : (List Int)))))
   (automaton_useful.l15 p0 p1 (Go.IntKind.wrap Go.IntKind.i64 (p2 + (1 : Int))) p3 p4 p5))
  (automaton_useful.l21 p3 p4 p5) := (loopAt_step Go.Proofs.C06.ctx 76 15 _).trans (by kernel_rfl)
theorem automaton_classes.l15_eq (p0 : Int) (p1 : (List (List Int))) (p2 : Int) (p3 : Int) (p4 : Int) (p5 : Int) (p6 : (List (List Int))) (p7 : (List Bool)) (p8 : (List Int)) (p9 : (List ((List Int) × Int))) (p10 : (List Int)) : automaton_classes.l15 p0 p1 p2 p3 p4 p5 p6 p7 p8 p9 p10 =
  ifB (decide (p3 < p2))
   (bindD ((ixAt p1 p3)) fun t463 =>
   bindD ((ixAt p8 p3)) fun t464 =>
   bindD ((ixAt p8 p3)) fun t465 =>
   ifB (t465 == (0 : Int))
    (automaton_classes.l15 p0 p1 p2 (Go.IntKind.wrap Go.IntKind.i64 (p3 + (1 : Int))) p4 p5 p6 p7 p8 p9 p10)
   (bindD ((ixAt p8 p3)) fun t466 =>
    bindD ((ixAt p8 p3)) fun t467 =>
    automaton_classes.l20 p0 p3 p1 p2 p3 t463 (((List.length t463) : Nat) : Int) (0 : Int) p4 p5 p6 p7 p8 p9 p10 (List.set (List.replicate (9 : Nat) (0 : Int)) (0 : Nat) t467)))
  (ifB ((((List.length p9) : Nat) : Int) == p0)
    (some (p10, ()))
   (automaton_classes.l12 (((List.length p9) : Nat) : Int) p4 p5 p6 p7 p10)) := (loopAt_step Go.Proofs.C06.ctx 66 15 _).trans (by kernel_rfl)
theorem ancepsref06_Live.l6_eq (p0 : Bool) (p1 : Int) (p2 : Int) (p3 : Int) (p4 : (List (List Int))) (p5 : (List Bool)) (p6 : (List Bool)) : ancepsref06_Live.l6 p0 p1 p2 p3 p4 p5 p6 =
  ifB (decide (p1 < (((List.length p4) : Nat) : Int)))
   (ancepsref06_Live.l9 p0 p1 (0 : Int) p2 p3 p4 p5 p6)
  (ancepsref06_Live.l3 p0 p2 p3 p4 p5 p6) := (loopAt_step Go.Proofs.C06.ctx 77 6 _).trans (by kernel_rfl)
theorem ancepsref06_classes.l14_eq (p0 : Int) (p1 : Int) (p2 : Int) (p3 : Int) (p4 : (List (List Int))) (p5 : (List Bool)) (p6 : (List Bool)) (p7 : (List Int)) (p8 : (List Int)) (p9 : (List (List Int))) : ancepsref06_classes.l14 p0 p1 p2 p3 p4 p5 p6 p7 p8 p9 =
  ifB (decide (p1 < (((List.length p7) : Nat) : Int)))
   (bindD ((ixAt p6 p1)) fun t468 =>
   bindD ((ixAt p6 p1)) fun t469 =>
   ifB (!t469)
    (ancepsref06_classes.l14 p0 (Go.IntKind.wrap Go.IntKind.i64 (p1 + (1 : Int))) p2 p3 p4 p5 p6 p7 p8 p9)
   (bindD ((ixAt p7 p1)) fun t470 =>
    bindD ((ixAt p7 p1)) fun t471 =>
    ancepsref06_classes.l19 p0 p1 (0 : Int) p2 p3 p4 p5 p6 p7 p8 p9 (t471 :: ([] : (List Int)))))
  (ifB ((((List.length p9) : Nat) : Int) == p0)
    (some (p8, ()))
   (ancepsref06_classes.l11 (((List.length p9) : Nat) : Int) p2 p3 p4 p5 p6 p8)) := (loopAt_step Go.Proofs.C06.ctx 68 14 _).trans (by kernel_rfl)
theorem automaton_useful.l21_eq (p0 : (List (List Int))) (p1 : (List Bool)) (p2 : (List Int)) : automaton_useful.l21 p0 p1 p2 =
  ifB (decide ((((List.length p2) : Nat) : Int) > (0 : Int)))
   (bindD ((ixAt p2 (0 : Int))) fun t472 =>
   bindD ((ixAt p2 (0 : Int))) fun t473 =>
   bindD ((subL p2 (1 : Int) (((List.length p2) : Nat) : Int))) fun t474 =>
   bindD ((ixAt p0 t473)) fun t475 =>
   bindD ((ixAt p0 t473)) fun t476 =>
   automaton_useful.l25 t476 (((List.length t476) : Nat) : Int) (0 : Int) p0 p1 t474)
  (some (p1, ())) := (loopAt_step Go.Proofs.C06.ctx 76 21 _).trans (by kernel_rfl)
theorem automaton_classes.l20_eq (p0 : Int) (p1 : Int) (p2 : (List (List Int))) (p3 : Int) (p4 : Int) (p5 : (List Int)) (p6 : Int) (p7 : Int) (p8 : Int) (p9 : Int) (p10 : (List (List Int))) (p11 : (List Bool)) (p12 : (List Int)) (p13 : (List ((List Int) × Int))) (p14 : (List Int)) (p15 : (List Int)) : automaton_classes.l20 p0 p1 p2 p3 p4 p5 p6 p7 p8 p9 p10 p11 p12 p13 p14 p15 =
  ifB (decide (p7 < p6))
   (bindD ((ixAt p5 p7)) fun t477 =>
   ifB (decide (t477 ≥ (0 : Int)))
    (bindD ((ixAt p12 t477)) fun t478 =>
    bindD ((ixAt p12 t477)) fun t479 =>
    bindD ((ixAt p15 (Go.IntKind.wrap Go.IntKind.i64 (p7 + (1 : Int))))) fun t480 =>
    bindD ((ixAt p15 (Go.IntKind.wrap Go.IntKind.i64 (p7 + (1 : Int))))) fun t481 =>
    automaton_classes.l20 p0 p1 p2 p3 p4 p5 p6 (Go.IntKind.wrap Go.IntKind.i64 (p7 + (1 : Int))) p8 p9 p10 p11 p12 p13 p14 (setRow p15 (Go.IntKind.wrap Go.IntKind.i64 (p7 + (1 : Int))) t479))
   (automaton_classes.l20 p0 p1 p2 p3 p4 p5 p6 (Go.IntKind.wrap Go.IntKind.i64 (p7 + (1 : Int))) p8 p9 p10 p11 p12 p13 p14 p15))
  (ifB ((Go.Proofs.R.mget (Go.Proofs.R.Ty.arr (9 : Nat) (Go.Proofs.R.Ty.int Go.IntKind.i64)) (0 : Int) p15 p13).1 == (0 : Int))
    (bindD ((ixAt p14 p1)) fun t482 =>
    bindD ((ixAt p14 p1)) fun t483 =>
    automaton_classes.l15 p0 p2 p3 (Go.IntKind.wrap Go.IntKind.i64 (p4 + (1 : Int))) p8 p9 p10 p11 p12 (Go.Proofs.R.mput (Go.Proofs.R.Ty.arr (9 : Nat) (Go.Proofs.R.Ty.int Go.IntKind.i64)) p15 (Go.IntKind.wrap Go.IntKind.i64 ((((List.length p13) : Nat) : Int) + (1 : Int))) p13) (setRow p14 p1 (Go.Proofs.R.mget (Go.Proofs.R.Ty.arr (9 : Nat) (Go.Proofs.R.Ty.int Go.IntKind.i64)) (0 : Int) p15 (Go.Proofs.R.mput (Go.Proofs.R.Ty.arr (9 : Nat) (Go.Proofs.R.Ty.int Go.IntKind.i64)) p15 (Go.IntKind.wrap Go.IntKind.i64 ((((List.length p13) : Nat) : Int) + (1 : Int))) p13)).1))
   (bindD ((ixAt p14 p1)) fun t484 =>
    bindD ((ixAt p14 p1)) fun t485 =>
    automaton_classes.l15 p0 p2 p3 (Go.IntKind.wrap Go.IntKind.i64 (p4 + (1 : Int))) p8 p9 p10 p11 p12 p13 (setRow p14 p1 (Go.Proofs.R.mget (Go.Proofs.R.Ty.arr (9 : Nat) (Go.Proofs.R.Ty.int Go.IntKind.i64)) (0 : Int) p15 p13).1))) := (loopAt_step Go.Proofs.C06.ctx 66 20 _).trans (by kernel_rfl)
theorem ancepsref06_Live.l9_eq (p0 : Bool) (p1 : Int) (p2 : Int) (p3 : Int) (p4 : Int) (p5 : (List (List Int))) (p6 : (List Bool)) (p7 : (List Bool)) : ancepsref06_Live.l9 p0 p1 p2 p3 p4 p5 p6 p7 =
  ifB (decide (p2 < p3))
   (bindD ((ixAt p7 p1)) fun t486 =>
   bindD ((ixAt p7 p1)) fun t487 =>
   ifB (!t487)
    (bindD ((ixAt p5 p1)) fun t488 =>
    bindD ((ixAt t488 p2)) fun t489 =>
    ifB (decide (t489 ≥ (0 : Int)))
     (bindD ((ixAt p7 t489)) fun t490 =>
     bindD ((ixAt p7 t489)) fun t491 =>
     ifB t491
      (bindD ((ixAt p7 p1)) fun t492 =>
      bindD ((ixAt p7 p1)) fun t493 =>
      ancepsref06_Live.l9 true p1 (Go.IntKind.wrap Go.IntKind.i64 (p2 + (1 : Int))) p3 p4 p5 p6 (setRow p7 p1 true))
     (ancepsref06_Live.l9 p0 p1 (Go.IntKind.wrap Go.IntKind.i64 (p2 + (1 : Int))) p3 p4 p5 p6 p7))
    (ancepsref06_Live.l9 p0 p1 (Go.IntKind.wrap Go.IntKind.i64 (p2 + (1 : Int))) p3 p4 p5 p6 p7))
   (ancepsref06_Live.l6 p0 (Go.IntKind.wrap Go.IntKind.i64 (p1 + (1 : Int))) p3 p4 p5 p6 p7))
  (ancepsref06_Live.l6 p0 (Go.IntKind.wrap Go.IntKind.i64 (p1 + (1 : Int))) p3 p4 p5 p6 p7) := (loopAt_step Go.Proofs.C06.ctx 77 9 _).trans (by kernel_rfl)
theorem ancepsref06_classes.l19_eq (p0 : Int) (p1 : Int) (p2 : Int) (p3 : Int) (p4 : Int) (p5 : (List (List Int))) (p6 : (List Bool)) (p7 : (List Bool)) (p8 : (List Int)) (p9 : (List Int)) (p10 : (List (List Int))) (p11 : (List Int)) : ancepsref06_classes.l19 p0 p1 p2 p3 p4 p5 p6 p7 p8 p9 p10 p11 =
  ifB (decide (p2 < p3))
   (bindD ((ixAt p5 p1)) fun t494 =>
   bindD ((ixAt t494 p2)) fun t495 =>
   ifB (decide (t495 ≥ (0 : Int)))
    (bindD ((ixAt p5 p1)) fun t496 =>
    bindD ((ixAt t496 p2)) fun t497 =>
    bindD ((ixAt p8 t497)) fun t498 =>
    bindD ((ixAt p8 t497)) fun t499 =>
    bindD ((Go.Proofs.R.grow ((List.length p11) + (List.length (t499 :: ([] : (List Int))))))) fun t500 =>
    ancepsref06_classes.l19 p0 p1 (Go.IntKind.wrap Go.IntKind.i64 (p2 + (1 : Int))) p3 p4 p5 p6 p7 p8 p9 p10 (p11 ++ (t499 :: ([] : (List Int)))))
   (bindD ((Go.Proofs.R.grow ((List.length p11) + (List.length ((0 : Int) :: ([] : (List Int))))))) fun t501 =>
    ancepsref06_classes.l19 p0 p1 (Go.IntKind.wrap Go.IntKind.i64 (p2 + (1 : Int))) p3 p4 p5 p6 p7 p8 p9 p10 (p11 ++ ((0 : Int) :: ([] : (List Int))))))
  (bindD (ancepsref06_index.f p10 p11) fun t502 =>
   ifB (decide (t502.1 < (0 : Int)))
    (bindD ((Go.Proofs.R.grow ((List.length p10) + (List.length (p11 :: ([] : (List (List Int)))))))) fun t503 =>
    bindD ((ixAt p9 p1)) fun t504 =>
    bindD ((ixAt p9 p1)) fun t505 =>
    ancepsref06_classes.l14 p0 (Go.IntKind.wrap Go.IntKind.i64 (p1 + (1 : Int))) p3 p4 p5 p6 p7 p8 (setRow p9 p1 (Go.IntKind.wrap Go.IntKind.i64 ((Go.IntKind.wrap Go.IntKind.i64 ((((List.length (p10 ++ (p11 :: ([] : (List (List Int)))))) : Nat) : Int) - (1 : Int))) + (1 : Int)))) (p10 ++ (p11 :: ([] : (List (List Int))))))
   (bindD ((ixAt p9 p1)) fun t506 =>
    bindD ((ixAt p9 p1)) fun t507 =>
    ancepsref06_classes.l14 p0 (Go.IntKind.wrap Go.IntKind.i64 (p1 + (1 : Int))) p3 p4 p5 p6 p7 p8 (setRow p9 p1 (Go.IntKind.wrap Go.IntKind.i64 (t502.1 + (1 : Int)))) p10)) := (loopAt_step Go.Proofs.C06.ctx 68 19 _).trans (by kernel_rfl)
theorem automaton_useful.l25_eq (p0 : (List Int)) (p1 : Int) (p2 : Int) (p3 : (List (List Int))) (p4 : (List Bool)) (p5 : (List Int)) : automaton_useful.l25 p0 p1 p2 p3 p4 p5 =
  ifB (decide (p2 < p1))
   (bindD ((ixAt p0 p2)) fun t508 =>
   bindD ((ixAt p4 t508)) fun t509 =>
   bindD ((ixAt p4 t508)) fun t510 =>
   ifB (!t510)
    (bindD ((ixAt p4 t508)) fun t511 =>
    bindD ((ixAt p4 t508)) fun t512 =>
    bindD ((Go.Proofs.R.grow ((List.length p5) + (List.length (t508 :: ([] : (List Int))))))) fun t513 =>
    automaton_useful.l25 p0 p1 (Go.IntKind.wrap Go.IntKind.i64 (p2 + (1 : Int))) p3 (setRow p4 t508 true) (p5 ++ (t508 :: ([] : (List Int)))))
   (automaton_useful.l25 p0 p1 (Go.IntKind.wrap Go.IntKind.i64 (p2 + (1 : Int))) p3 p4 p5))
  (automaton_useful.l21 p3 p4 p5) := (loopAt_step Go.Proofs.C06.ctx 76 25 _).trans (by kernel_rfl)
theorem ancepsref06_index.f_eq (p0 : (List (List Int))) (p1 : (List Int)) : ancepsref06_index.f p0 p1 =
  ancepsref06_index.l2 p0 p1 (0 : Int) := (Einf_call Go.Proofs.C06.ctx 78 _).trans (by kernel_rfl)
theorem ancepsref06_index.l2_eq (p0 : (List (List Int))) (p1 : (List Int)) (p2 : Int) : ancepsref06_index.l2 p0 p1 p2 =
  ifB (decide (p2 < (((List.length p0) : Nat) : Int)))
   (bindD ((ixAt p0 p2)) fun t514 =>
   bindD (ancepsref06_Equal.f t514 p1) fun t515 =>
   ifB t515.1
    (some (p2, ()))
   (ancepsref06_index.l2 p0 p1 (Go.IntKind.wrap Go.IntKind.i64 (p2 + (1 : Int)))))
  (some ((-(1 : Int)), ())) := (loopAt_step Go.Proofs.C06.ctx 78 2 _).trans (by kernel_rfl)
end Go.Proofs.C06
