/- C07B: what the row's functions are, as the evaluator tells them. No condition. -/
import Derived.Test.YtmbloefhgkhoaaaC07
set_option linter.unusedVariables false
set_option linter.unusedSimpArgs false
set_option maxRecDepth 100000
set_option linter.unusedVariables false
namespace Go.Proofs.C07
open Go Go.Proofs.R
noncomputable def ancepslaw07_NondetErrors.f (p0 : Int) (p1 : Int) (p2 : (List Int)) (p3 : (List (Int × (Int × Int)))) (p4 : (List Int)) (p5 : Int) (p6 : Int) (p7 : (List Int)) (p8 : (List (Int × (Int × Int)))) (p9 : (List Int)) : Option (Bool × Unit) := (Go.Proofs.R.Einf Go.Proofs.C07.ctx).call 10 [(.agg [(.v (.int .i64) p0), (.v (.int .i64) p1), (.v (.sl (.int .i64)) p2), (.v (.sl (.pair (.int .i64) (.pair (.int .i64) (.int .i64)))) p3), (.v (.sl (.int .i64)) p4)]), (.agg [(.v (.int .i64) p5), (.v (.int .i64) p6), (.v (.sl (.int .i64)) p7), (.v (.sl (.pair (.int .i64) (.pair (.int .i64) (.int .i64)))) p8), (.v (.sl (.int .i64)) p9)])]
noncomputable def ancepslaw07_awake.f : Option (Bool × Unit) := (Go.Proofs.R.Einf Go.Proofs.C07.ctx).call 11 []
noncomputable def ancepsref07_Few.f (p0 : Int) (p1 : Int) (p2 : (List Int)) (p3 : (List (Int × (Int × Int)))) (p4 : (List Int)) : Option (Bool × Unit) := (Go.Proofs.R.Einf Go.Proofs.C07.ctx).call 12 [(.agg [(.v (.int .i64) p0), (.v (.int .i64) p1), (.v (.sl (.int .i64)) p2), (.v (.sl (.pair (.int .i64) (.pair (.int .i64) (.int .i64)))) p3), (.v (.sl (.int .i64)) p4)])]
noncomputable def ancepsref07_Valid.f (p0 : Int) (p1 : Int) (p2 : (List Int)) (p3 : (List (Int × (Int × Int)))) (p4 : (List Int)) : Option (Int × Unit) := (Go.Proofs.R.Einf Go.Proofs.C07.ctx).call 13 [(.agg [(.v (.int .i64) p0), (.v (.int .i64) p1), (.v (.sl (.int .i64)) p2), (.v (.sl (.pair (.int .i64) (.pair (.int .i64) (.int .i64)))) p3), (.v (.sl (.int .i64)) p4)])]
noncomputable def ancepslaw07_own.f (p0 : Int) (p1 : Int) (p2 : (List Int)) (p3 : (List (Int × (Int × Int)))) (p4 : (List Int)) : Option (Int × (Int × ((List Int) × ((List (Int × (Int × Int))) × ((List Int) × Unit))))) := (Go.Proofs.R.Einf Go.Proofs.C07.ctx).call 15 [(.agg [(.v (.int .i64) p0), (.v (.int .i64) p1), (.v (.sl (.int .i64)) p2), (.v (.sl (.pair (.int .i64) (.pair (.int .i64) (.int .i64)))) p3), (.v (.sl (.int .i64)) p4)])]
noncomputable def ancepsref07_Determine.f (p0 : Int) (p1 : Int) (p2 : (List Int)) (p3 : (List (Int × (Int × Int)))) (p4 : (List Int)) : Option (Int × (Int × ((List (List Int)) × ((List Bool) × (Int × Unit))))) := (Go.Proofs.R.Einf Go.Proofs.C07.ctx).call 16 [(.agg [(.v (.int .i64) p0), (.v (.int .i64) p1), (.v (.sl (.int .i64)) p2), (.v (.sl (.pair (.int .i64) (.pair (.int .i64) (.int .i64)))) p3), (.v (.sl (.int .i64)) p4)])]
noncomputable def ancepsref06_SameDFA.f (p0 : Int) (p1 : Int) (p2 : (List (List Int))) (p3 : (List Bool)) (p4 : Int) (p5 : Int) (p6 : (List (List Int))) (p7 : (List Bool)) : Option (Bool × Unit) := (Go.Proofs.R.Einf Go.Proofs.C07.ctx).call 17 [(.agg [(.v (.int .i64) p0), (.v (.int .i64) p1), (.v (.sl (.sl (.int .i64))) p2), (.v (.sl .bool) p3)]), (.agg [(.v (.int .i64) p4), (.v (.int .i64) p5), (.v (.sl (.sl (.int .i64))) p6), (.v (.sl .bool) p7)])]
noncomputable def slices_Clone_int_int.f (p0 : (List Int)) : Option ((List Int) × Unit) := (Go.Proofs.R.Einf Go.Proofs.C07.ctx).call 22 [(.one (.v (.sl (.int .i64)) p0))]
noncomputable def nondet_Valid.f (p0 : Int) (p1 : Int) (p2 : (List Int)) (p3 : (List (Int × (Int × Int)))) (p4 : (List Int)) : Option (Int × Unit) := (Go.Proofs.R.Einf Go.Proofs.C07.ctx).call 25 [(.agg [(.v (.int .i64) p0), (.v (.int .i64) p1), (.v (.sl (.int .i64)) p2), (.v (.sl (.pair (.int .i64) (.pair (.int .i64) (.int .i64)))) p3), (.v (.sl (.int .i64)) p4)])]
noncomputable def ancepsref06_Few.f (p0 : Int) (p1 : Int) (p2 : (List (List Int))) (p3 : (List Bool)) : Option (Bool × Unit) := (Go.Proofs.R.Einf Go.Proofs.C07.ctx).call 27 [(.agg [(.v (.int .i64) p0), (.v (.int .i64) p1), (.v (.sl (.sl (.int .i64))) p2), (.v (.sl .bool) p3)])]
noncomputable def ancepsref06_Valid.f (p0 : Int) (p1 : Int) (p2 : (List (List Int))) (p3 : (List Bool)) : Option (Int × Unit) := (Go.Proofs.R.Einf Go.Proofs.C07.ctx).call 28 [(.agg [(.v (.int .i64) p0), (.v (.int .i64) p1), (.v (.sl (.sl (.int .i64))) p2), (.v (.sl .bool) p3)])]
noncomputable def ancepsref06_Minimal.f (p0 : Int) (p1 : Int) (p2 : (List (List Int))) (p3 : (List Bool)) : Option (Int × (Int × ((List (List Int)) × ((List Bool) × (Int × Unit))))) := (Go.Proofs.R.Einf Go.Proofs.C07.ctx).call 30 [(.agg [(.v (.int .i64) p0), (.v (.int .i64) p1), (.v (.sl (.sl (.int .i64))) p2), (.v (.sl .bool) p3)])]
noncomputable def nondet_Reverse.f (p0 : Int) (p1 : Int) (p2 : (List Int)) (p3 : (List (Int × (Int × Int)))) (p4 : (List Int)) : Option (Int × (Int × ((List Int) × ((List (Int × (Int × Int))) × ((List Int) × (Int × Unit)))))) := (Go.Proofs.R.Einf Go.Proofs.C07.ctx).call 32 [(.agg [(.v (.int .i64) p0), (.v (.int .i64) p1), (.v (.sl (.int .i64)) p2), (.v (.sl (.pair (.int .i64) (.pair (.int .i64) (.int .i64)))) p3), (.v (.sl (.int .i64)) p4)])]
noncomputable def ancepsref07_Reverse.f (p0 : Int) (p1 : Int) (p2 : (List Int)) (p3 : (List (Int × (Int × Int)))) (p4 : (List Int)) : Option (Int × (Int × ((List Int) × ((List (Int × (Int × Int))) × ((List Int) × (Int × Unit)))))) := (Go.Proofs.R.Einf Go.Proofs.C07.ctx).call 38 [(.agg [(.v (.int .i64) p0), (.v (.int .i64) p1), (.v (.sl (.int .i64)) p2), (.v (.sl (.pair (.int .i64) (.pair (.int .i64) (.int .i64)))) p3), (.v (.sl (.int .i64)) p4)])]
noncomputable def ancepslaw07_right.f (p0 : Int) (p1 : Int) (p2 : (List Int)) (p3 : (List (Int × (Int × Int)))) (p4 : (List Int)) (p5 : Int) (p6 : Int) (p7 : Int) (p8 : (List Int)) (p9 : (List (Int × (Int × Int)))) (p10 : (List Int)) (p11 : Int) : Option (Bool × Unit) := (Go.Proofs.R.Einf Go.Proofs.C07.ctx).call 39 [(.agg [(.v (.int .i64) p0), (.v (.int .i64) p1), (.v (.sl (.int .i64)) p2), (.v (.sl (.pair (.int .i64) (.pair (.int .i64) (.int .i64)))) p3), (.v (.sl (.int .i64)) p4)]), (.one (.v (.int .i64) p5)), (.agg [(.v (.int .i64) p6), (.v (.int .i64) p7), (.v (.sl (.int .i64)) p8), (.v (.sl (.pair (.int .i64) (.pair (.int .i64) (.int .i64)))) p9), (.v (.sl (.int .i64)) p10)]), (.one (.v (.int .i64) p11))]
noncomputable def nondet_Union.f (p0 : Int) (p1 : Int) (p2 : (List Int)) (p3 : (List (Int × (Int × Int)))) (p4 : (List Int)) (p5 : Int) (p6 : Int) (p7 : (List Int)) (p8 : (List (Int × (Int × Int)))) (p9 : (List Int)) : Option (Int × (Int × ((List Int) × ((List (Int × (Int × Int))) × ((List Int) × (Int × Unit)))))) := (Go.Proofs.R.Einf Go.Proofs.C07.ctx).call 34 [(.agg [(.v (.int .i64) p0), (.v (.int .i64) p1), (.v (.sl (.int .i64)) p2), (.v (.sl (.pair (.int .i64) (.pair (.int .i64) (.int .i64)))) p3), (.v (.sl (.int .i64)) p4)]), (.agg [(.v (.int .i64) p5), (.v (.int .i64) p6), (.v (.sl (.int .i64)) p7), (.v (.sl (.pair (.int .i64) (.pair (.int .i64) (.int .i64)))) p8), (.v (.sl (.int .i64)) p9)])]
noncomputable def ancepsref07_Union.f (p0 : Int) (p1 : Int) (p2 : (List Int)) (p3 : (List (Int × (Int × Int)))) (p4 : (List Int)) (p5 : Int) (p6 : Int) (p7 : (List Int)) (p8 : (List (Int × (Int × Int)))) (p9 : (List Int)) : Option (Int × (Int × ((List Int) × ((List (Int × (Int × Int))) × ((List Int) × (Int × Unit)))))) := (Go.Proofs.R.Einf Go.Proofs.C07.ctx).call 40 [(.agg [(.v (.int .i64) p0), (.v (.int .i64) p1), (.v (.sl (.int .i64)) p2), (.v (.sl (.pair (.int .i64) (.pair (.int .i64) (.int .i64)))) p3), (.v (.sl (.int .i64)) p4)]), (.agg [(.v (.int .i64) p5), (.v (.int .i64) p6), (.v (.sl (.int .i64)) p7), (.v (.sl (.pair (.int .i64) (.pair (.int .i64) (.int .i64)))) p8), (.v (.sl (.int .i64)) p9)])]
noncomputable def nondet_Concat.f (p0 : Int) (p1 : Int) (p2 : (List Int)) (p3 : (List (Int × (Int × Int)))) (p4 : (List Int)) (p5 : Int) (p6 : Int) (p7 : (List Int)) (p8 : (List (Int × (Int × Int)))) (p9 : (List Int)) : Option (Int × (Int × ((List Int) × ((List (Int × (Int × Int))) × ((List Int) × (Int × Unit)))))) := (Go.Proofs.R.Einf Go.Proofs.C07.ctx).call 36 [(.agg [(.v (.int .i64) p0), (.v (.int .i64) p1), (.v (.sl (.int .i64)) p2), (.v (.sl (.pair (.int .i64) (.pair (.int .i64) (.int .i64)))) p3), (.v (.sl (.int .i64)) p4)]), (.agg [(.v (.int .i64) p5), (.v (.int .i64) p6), (.v (.sl (.int .i64)) p7), (.v (.sl (.pair (.int .i64) (.pair (.int .i64) (.int .i64)))) p8), (.v (.sl (.int .i64)) p9)])]
noncomputable def ancepsref07_Concat.f (p0 : Int) (p1 : Int) (p2 : (List Int)) (p3 : (List (Int × (Int × Int)))) (p4 : (List Int)) (p5 : Int) (p6 : Int) (p7 : (List Int)) (p8 : (List (Int × (Int × Int)))) (p9 : (List Int)) : Option (Int × (Int × ((List Int) × ((List (Int × (Int × Int))) × ((List Int) × (Int × Unit)))))) := (Go.Proofs.R.Einf Go.Proofs.C07.ctx).call 41 [(.agg [(.v (.int .i64) p0), (.v (.int .i64) p1), (.v (.sl (.int .i64)) p2), (.v (.sl (.pair (.int .i64) (.pair (.int .i64) (.int .i64)))) p3), (.v (.sl (.int .i64)) p4)]), (.agg [(.v (.int .i64) p5), (.v (.int .i64) p6), (.v (.sl (.int .i64)) p7), (.v (.sl (.pair (.int .i64) (.pair (.int .i64) (.int .i64)))) p8), (.v (.sl (.int .i64)) p9)])]
noncomputable def nondet_Star.f (p0 : Int) (p1 : Int) (p2 : (List Int)) (p3 : (List (Int × (Int × Int)))) (p4 : (List Int)) : Option (Int × (Int × ((List Int) × ((List (Int × (Int × Int))) × ((List Int) × (Int × Unit)))))) := (Go.Proofs.R.Einf Go.Proofs.C07.ctx).call 35 [(.agg [(.v (.int .i64) p0), (.v (.int .i64) p1), (.v (.sl (.int .i64)) p2), (.v (.sl (.pair (.int .i64) (.pair (.int .i64) (.int .i64)))) p3), (.v (.sl (.int .i64)) p4)])]
noncomputable def ancepsref07_Star.f (p0 : Int) (p1 : Int) (p2 : (List Int)) (p3 : (List (Int × (Int × Int)))) (p4 : (List Int)) : Option (Int × (Int × ((List Int) × ((List (Int × (Int × Int))) × ((List Int) × (Int × Unit)))))) := (Go.Proofs.R.Einf Go.Proofs.C07.ctx).call 42 [(.agg [(.v (.int .i64) p0), (.v (.int .i64) p1), (.v (.sl (.int .i64)) p2), (.v (.sl (.pair (.int .i64) (.pair (.int .i64) (.int .i64)))) p3), (.v (.sl (.int .i64)) p4)])]
noncomputable def ancepsref07_ascending.f (p0 : (List Int)) (p1 : Int) : Option (Bool × Unit) := (Go.Proofs.R.Einf Go.Proofs.C07.ctx).call 44 [(.one (.v (.sl (.int .i64)) p0)), (.one (.v (.int .i64) p1))]
noncomputable def ancepsref07_Valid.l6 (p0 : Int) (p1 : Int) (p2 : Int) (p3 : (List Int)) (p4 : (List (Int × (Int × Int)))) (p5 : (List Int)) : Option (Int × Unit) := Go.Proofs.R.loopAt Go.Proofs.C07.ctx (Go.Proofs.R.Einf Go.Proofs.C07.ctx) 13 6 (.mk [(1, (.one (.ref 7 0))), (3, (.one (.v (.int .i64) p0)))] [(7, (.box 25 [(.v (.int .i64) p1), (.v (.int .i64) p2), (.v (.sl (.int .i64)) p3), (.v (.sl (.pair (.int .i64) (.pair (.int .i64) (.int .i64)))) p4), (.v (.sl (.int .i64)) p5)]))])
noncomputable def api_Edge.f (p0 : (List (Int × (Int × Int)))) : Option ((List (Int × (Int × Int))) × Unit) := (Go.Proofs.R.Einf Go.Proofs.C07.ctx).call 53 [(.one (.v (.sl (.pair (.int .i64) (.pair (.int .i64) (.int .i64)))) p0))]
noncomputable def ancepsref07_closed.f (p0 : Int) (p1 : Int) (p2 : (List Int)) (p3 : (List (Int × (Int × Int)))) (p4 : (List Int)) (p5 : (List Int)) : Option ((List Int) × Unit) := (Go.Proofs.R.Einf Go.Proofs.C07.ctx).call 54 [(.agg [(.v (.int .i64) p0), (.v (.int .i64) p1), (.v (.sl (.int .i64)) p2), (.v (.sl (.pair (.int .i64) (.pair (.int .i64) (.int .i64)))) p3), (.v (.sl (.int .i64)) p4)]), (.one (.v (.sl (.int .i64)) p5))]
noncomputable def ancepsref07_Determine.l10 (p0 : Int) (p1 : Int) (p2 : Int) (p3 : (List Int)) (p4 : (List (Int × (Int × Int)))) (p5 : (List Int)) (p6 : Int) (p7 : Int) (p8 : Int) (p9 : Int) (p10 : (List (List Int))) (p11 : (List (List Int))) (p12 : (List Bool)) (p13 : (List (List Int))) (p14 : (List Bool)) : Option (Int × (Int × ((List (List Int)) × ((List Bool) × (Int × Unit))))) := Go.Proofs.R.loopAt Go.Proofs.C07.ctx (Go.Proofs.R.Einf Go.Proofs.C07.ctx) 16 10 (.mk [(1, (.one (.ref 7 0))), (2, (.one (.ref 15 0))), (5, (.one (.ref 23 0))), (6, (.one (.row 31))), (7, (.one (.v (.int .i64) p0)))] [(7, (.box 25 [(.v (.int .i64) p1), (.v (.int .i64) p2), (.v (.sl (.int .i64)) p3), (.v (.sl (.pair (.int .i64) (.pair (.int .i64) (.int .i64)))) p4), (.v (.sl (.int .i64)) p5)])), (15, (.box 34 [(.v (.int .i64) p6), (.v (.int .i64) p7), (.row 39), (.row 47)])), (23, (.box 34 [(.v (.int .i64) p8), (.v (.int .i64) p9), (.row 55), (.row 63)])), (31, (.row 22 (.sl (.int .i64)) p10 false)), (39, (.row 22 (.sl (.int .i64)) p11 false)), (47, (.row 4 .bool p12 false)), (55, (.row 22 (.sl (.int .i64)) p13 false)), (63, (.row 4 .bool p14 false))])
noncomputable def ancepsref06_SameDFA.l4 (p0 : Int) (p1 : Int) (p2 : Int) (p3 : (List (List Int))) (p4 : (List Bool)) (p5 : Int) (p6 : Int) (p7 : (List (List Int))) (p8 : (List Bool)) : Option (Bool × Unit) := Go.Proofs.R.loopAt Go.Proofs.C07.ctx (Go.Proofs.R.Einf Go.Proofs.C07.ctx) 17 4 (.mk [(2, (.one (.ref 7 0))), (3, (.one (.ref 15 0))), (5, (.one (.v (.int .i64) p0)))] [(7, (.box 34 [(.v (.int .i64) p1), (.v (.int .i64) p2), (.v (.sl (.sl (.int .i64))) p3), (.v (.sl .bool) p4)])), (15, (.box 34 [(.v (.int .i64) p5), (.v (.int .i64) p6), (.v (.sl (.sl (.int .i64))) p7), (.v (.sl .bool) p8)]))])
noncomputable def nondet_ascends.f (p0 : (List Int)) (p1 : Int) : Option (Bool × Unit) := (Go.Proofs.R.Einf Go.Proofs.C07.ctx).call 64 [(.one (.v (.sl (.int .i64)) p0)), (.one (.v (.int .i64) p1))]
noncomputable def nondet_Valid.l6 (p0 : (List (Int × (Int × Int)))) (p1 : Int) (p2 : Int) (p3 : Int) (p4 : Int) (p5 : (List Int)) (p6 : (List (Int × (Int × Int)))) (p7 : (List Int)) : Option (Int × Unit) := Go.Proofs.R.loopAt Go.Proofs.C07.ctx (Go.Proofs.R.Einf Go.Proofs.C07.ctx) 25 6 (.mk [(1, (.one (.ref 7 0))), (44, (.one (.v (.sl (.pair (.int .i64) (.pair (.int .i64) (.int .i64)))) p0))), (45, (.one (.v (.int .i64) p1))), (46, (.one (.v (.int .i64) p2)))] [(7, (.box 25 [(.v (.int .i64) p3), (.v (.int .i64) p4), (.v (.sl (.int .i64)) p5), (.v (.sl (.pair (.int .i64) (.pair (.int .i64) (.int .i64)))) p6), (.v (.sl (.int .i64)) p7)]))])
noncomputable def ancepsref06_Few.l5 (p0 : Int) (p1 : Int) (p2 : Int) (p3 : Int) (p4 : (List (List Int))) (p5 : (List Bool)) : Option (Bool × Unit) := Go.Proofs.R.loopAt Go.Proofs.C07.ctx (Go.Proofs.R.Einf Go.Proofs.C07.ctx) 27 5 (.mk [(1, (.one (.ref 7 0))), (3, (.one (.v (.int .i64) p0))), (4, (.one (.v (.int .i64) p1)))] [(7, (.box 34 [(.v (.int .i64) p2), (.v (.int .i64) p3), (.v (.sl (.sl (.int .i64))) p4), (.v (.sl .bool) p5)]))])
noncomputable def ancepsref06_Valid.l7 (p0 : Int) (p1 : Int) (p2 : Int) (p3 : Int) (p4 : (List (List Int))) (p5 : (List Bool)) : Option (Int × Unit) := Go.Proofs.R.loopAt Go.Proofs.C07.ctx (Go.Proofs.R.Einf Go.Proofs.C07.ctx) 28 7 (.mk [(1, (.one (.ref 7 0))), (3, (.one (.v (.int .i64) p0))), (4, (.one (.v (.int .i64) p1)))] [(7, (.box 34 [(.v (.int .i64) p2), (.v (.int .i64) p3), (.v (.sl (.sl (.int .i64))) p4), (.v (.sl .bool) p5)]))])
noncomputable def ancepsref06_minimal.f (p0 : Int) (p1 : Int) (p2 : (List (List Int))) (p3 : (List Bool)) : Option (Int × (Int × ((List (List Int)) × ((List Bool) × Unit)))) := (Go.Proofs.R.Einf Go.Proofs.C07.ctx).call 67 [(.agg [(.v (.int .i64) p0), (.v (.int .i64) p1), (.v (.sl (.sl (.int .i64))) p2), (.v (.sl .bool) p3)])]
noncomputable def nondet_Reverse.l6 (p0 : (List (Int × (Int × Int)))) (p1 : Int) (p2 : Int) (p3 : Int) (p4 : Int) (p5 : Int) (p6 : Int) (p7 : (List Int)) (p8 : (List (Int × (Int × Int)))) (p9 : (List Int)) (p10 : (List Int)) (p11 : (List (Int × (Int × Int)))) (p12 : (List Int)) : Option (Int × (Int × ((List Int) × ((List (Int × (Int × Int))) × ((List Int) × (Int × Unit)))))) := Go.Proofs.R.loopAt Go.Proofs.C07.ctx (Go.Proofs.R.Einf Go.Proofs.C07.ctx) 32 6 (.mk [(2, (.one (.ref 7 0))), (5, (.one (.ref 15 0))), (26, (.one (.v (.sl (.pair (.int .i64) (.pair (.int .i64) (.int .i64)))) p0))), (27, (.one (.v (.int .i64) p1))), (28, (.one (.v (.int .i64) p2)))] [(7, (.box 25 [(.v (.int .i64) p3), (.v (.int .i64) p4), (.row 23), (.row 31), (.row 39)])), (15, (.box 25 [(.v (.int .i64) p5), (.v (.int .i64) p6), (.row 47), (.row 55), (.row 63)])), (23, (.row 3 (.int .i64) p7 false)), (31, (.row 74 (.pair (.int .i64) (.pair (.int .i64) (.int .i64))) p8 false)), (39, (.row 3 (.int .i64) p9 false)), (47, (.row 3 (.int .i64) p10 false)), (55, (.row 74 (.pair (.int .i64) (.pair (.int .i64) (.int .i64))) p11 false)), (63, (.row 3 (.int .i64) p12 false))])
noncomputable def ancepsref07_Reverse.l6 (p0 : Int) (p1 : Int) (p2 : Int) (p3 : (List Int)) (p4 : (List (Int × (Int × Int)))) (p5 : (List Int)) (p6 : Int) (p7 : Int) (p8 : Int) (p9 : Int) (p10 : (List Int)) (p11 : (List (Int × (Int × Int)))) (p12 : (List Int)) (p13 : (List Int)) (p14 : (List (Int × (Int × Int)))) (p15 : (List Int)) : Option (Int × (Int × ((List Int) × ((List (Int × (Int × Int))) × ((List Int) × (Int × Unit)))))) := Go.Proofs.R.loopAt Go.Proofs.C07.ctx (Go.Proofs.R.Einf Go.Proofs.C07.ctx) 38 6 (.mk [(1, (.one (.ref 7 0))), (2, (.one (.ref 15 0))), (5, (.one (.ref 23 0))), (6, (.one (.v (.int .i64) p0)))] [(7, (.box 25 [(.v (.int .i64) p1), (.v (.int .i64) p2), (.v (.sl (.int .i64)) p3), (.v (.sl (.pair (.int .i64) (.pair (.int .i64) (.int .i64)))) p4), (.v (.sl (.int .i64)) p5)])), (15, (.box 25 [(.v (.int .i64) p6), (.v (.int .i64) p7), (.row 31), (.row 39), (.row 47)])), (23, (.box 25 [(.v (.int .i64) p8), (.v (.int .i64) p9), (.row 55), (.row 63), (.row 71)])), (31, (.row 3 (.int .i64) p10 false)), (39, (.row 74 (.pair (.int .i64) (.pair (.int .i64) (.int .i64))) p11 false)), (47, (.row 3 (.int .i64) p12 false)), (55, (.row 3 (.int .i64) p13 false)), (63, (.row 74 (.pair (.int .i64) (.pair (.int .i64) (.int .i64))) p14 false)), (71, (.row 3 (.int .i64) p15 false))])
noncomputable def nondet_beside.f (p0 : Int) (p1 : Int) (p2 : (List Int)) (p3 : (List (Int × (Int × Int)))) (p4 : (List Int)) (p5 : Int) (p6 : Int) (p7 : (List Int)) (p8 : (List (Int × (Int × Int)))) (p9 : (List Int)) : Option (Int × (Int × ((List Int) × ((List (Int × (Int × Int))) × ((List Int) × (Int × Unit)))))) := (Go.Proofs.R.Einf Go.Proofs.C07.ctx).call 71 [(.agg [(.v (.int .i64) p0), (.v (.int .i64) p1), (.v (.sl (.int .i64)) p2), (.v (.sl (.pair (.int .i64) (.pair (.int .i64) (.int .i64)))) p3), (.v (.sl (.int .i64)) p4)]), (.agg [(.v (.int .i64) p5), (.v (.int .i64) p6), (.v (.sl (.int .i64)) p7), (.v (.sl (.pair (.int .i64) (.pair (.int .i64) (.int .i64)))) p8), (.v (.sl (.int .i64)) p9)])]
noncomputable def nondet_moved.f (p0 : (List Int)) (p1 : Int) : Option ((List Int) × Unit) := (Go.Proofs.R.Einf Go.Proofs.C07.ctx).call 72 [(.one (.v (.sl (.int .i64)) p0)), (.one (.v (.int .i64) p1))]
noncomputable def nondet_order.f (p0 : Int) (p1 : Int) (p2 : Int) (p3 : Int) (p4 : Int) (p5 : Int) : Option (Int × Unit) := (Go.Proofs.R.Einf Go.Proofs.C07.ctx).call 65 [(.agg [(.v (.int .i64) p0), (.v (.int .i64) p1), (.v (.int .i64) p2)]), (.agg [(.v (.int .i64) p3), (.v (.int .i64) p4), (.v (.int .i64) p5)])]
noncomputable def ancepsref07_two.f (p0 : Int) (p1 : Int) (p2 : (List Int)) (p3 : (List (Int × (Int × Int)))) (p4 : (List Int)) (p5 : Int) (p6 : Int) (p7 : (List Int)) (p8 : (List (Int × (Int × Int)))) (p9 : (List Int)) : Option (Int × Unit) := (Go.Proofs.R.Einf Go.Proofs.C07.ctx).call 74 [(.agg [(.v (.int .i64) p0), (.v (.int .i64) p1), (.v (.sl (.int .i64)) p2), (.v (.sl (.pair (.int .i64) (.pair (.int .i64) (.int .i64)))) p3), (.v (.sl (.int .i64)) p4)]), (.agg [(.v (.int .i64) p5), (.v (.int .i64) p6), (.v (.sl (.int .i64)) p7), (.v (.sl (.pair (.int .i64) (.pair (.int .i64) (.int .i64)))) p8), (.v (.sl (.int .i64)) p9)])]
noncomputable def ancepsref07_both.f (p0 : Int) (p1 : Int) (p2 : (List Int)) (p3 : (List (Int × (Int × Int)))) (p4 : (List Int)) (p5 : Int) (p6 : Int) (p7 : (List Int)) (p8 : (List (Int × (Int × Int)))) (p9 : (List Int)) : Option (Int × (Int × ((List Int) × ((List (Int × (Int × Int))) × ((List Int) × Unit))))) := (Go.Proofs.R.Einf Go.Proofs.C07.ctx).call 75 [(.agg [(.v (.int .i64) p0), (.v (.int .i64) p1), (.v (.sl (.int .i64)) p2), (.v (.sl (.pair (.int .i64) (.pair (.int .i64) (.int .i64)))) p3), (.v (.sl (.int .i64)) p4)]), (.agg [(.v (.int .i64) p5), (.v (.int .i64) p6), (.v (.sl (.int .i64)) p7), (.v (.sl (.pair (.int .i64) (.pair (.int .i64) (.int .i64)))) p8), (.v (.sl (.int .i64)) p9)])]
noncomputable def ancepsref07_moved.f (p0 : (List Int)) (p1 : Int) : Option ((List Int) × Unit) := (Go.Proofs.R.Einf Go.Proofs.C07.ctx).call 76 [(.one (.v (.sl (.int .i64)) p0)), (.one (.v (.int .i64) p1))]
noncomputable def ancepsref07_large.f (p0 : Int) (p1 : Int) (p2 : (List Int)) (p3 : (List (Int × (Int × Int)))) (p4 : (List Int)) : Option (Bool × Unit) := (Go.Proofs.R.Einf Go.Proofs.C07.ctx).call 77 [(.agg [(.v (.int .i64) p0), (.v (.int .i64) p1), (.v (.sl (.int .i64)) p2), (.v (.sl (.pair (.int .i64) (.pair (.int .i64) (.int .i64)))) p3), (.v (.sl (.int .i64)) p4)])]
noncomputable def nondet_Concat.l8 (p0 : (List Int)) (p1 : Int) (p2 : Int) (p3 : Int) (p4 : Int) (p5 : (List Int)) (p6 : (List (Int × (Int × Int)))) (p7 : (List Int)) (p8 : Int) (p9 : Int) (p10 : (List Int)) (p11 : (List (Int × (Int × Int)))) (p12 : (List Int)) (p13 : Int) (p14 : Int) (p15 : Int) (p16 : Int) (p17 : (List Int)) (p18 : (List (Int × (Int × Int)))) (p19 : (List Int)) (p20 : (List Int)) (p21 : (List (Int × (Int × Int)))) (p22 : (List Int)) : Option (Int × (Int × ((List Int) × ((List (Int × (Int × Int))) × ((List Int) × (Int × Unit)))))) := Go.Proofs.R.loopAt Go.Proofs.C07.ctx (Go.Proofs.R.Einf Go.Proofs.C07.ctx) 36 8 (.mk [(2, (.one (.ref 7 0))), (3, (.one (.ref 15 0))), (4, (.one (.ref 23 0))), (6, (.one (.ref 31 0))), (46, (.one (.v (.sl (.int .i64)) p0))), (47, (.one (.v (.int .i64) p1))), (48, (.one (.v (.int .i64) p2)))] [(7, (.box 25 [(.v (.int .i64) p3), (.v (.int .i64) p4), (.v (.sl (.int .i64)) p5), (.v (.sl (.pair (.int .i64) (.pair (.int .i64) (.int .i64)))) p6), (.v (.sl (.int .i64)) p7)])), (15, (.box 25 [(.v (.int .i64) p8), (.v (.int .i64) p9), (.v (.sl (.int .i64)) p10), (.v (.sl (.pair (.int .i64) (.pair (.int .i64) (.int .i64)))) p11), (.v (.sl (.int .i64)) p12)])), (23, (.box 25 [(.v (.int .i64) p13), (.v (.int .i64) p14), (.row 39), (.row 47), (.row 55)])), (31, (.box 25 [(.v (.int .i64) p15), (.v (.int .i64) p16), (.row 63), (.row 71), (.row 79)])), (39, (.row 3 (.int .i64) p17 false)), (47, (.row 74 (.pair (.int .i64) (.pair (.int .i64) (.int .i64))) p18 false)), (55, (.row 3 (.int .i64) p19 false)), (63, (.row 3 (.int .i64) p20 false)), (71, (.row 74 (.pair (.int .i64) (.pair (.int .i64) (.int .i64))) p21 false)), (79, (.row 3 (.int .i64) p22 false))])
noncomputable def ancepsref07_Concat.l8 (p0 : Int) (p1 : Int) (p2 : Int) (p3 : (List Int)) (p4 : (List (Int × (Int × Int)))) (p5 : (List Int)) (p6 : Int) (p7 : Int) (p8 : (List Int)) (p9 : (List (Int × (Int × Int)))) (p10 : (List Int)) (p11 : Int) (p12 : Int) (p13 : Int) (p14 : Int) (p15 : (List Int)) (p16 : (List (Int × (Int × Int)))) (p17 : (List Int)) (p18 : (List Int)) (p19 : (List (Int × (Int × Int)))) (p20 : (List Int)) : Option (Int × (Int × ((List Int) × ((List (Int × (Int × Int))) × ((List Int) × (Int × Unit)))))) := Go.Proofs.R.loopAt Go.Proofs.C07.ctx (Go.Proofs.R.Einf Go.Proofs.C07.ctx) 41 8 (.mk [(2, (.one (.ref 7 0))), (3, (.one (.ref 15 0))), (4, (.one (.ref 23 0))), (7, (.one (.ref 31 0))), (8, (.one (.v (.int .i64) p0)))] [(7, (.box 25 [(.v (.int .i64) p1), (.v (.int .i64) p2), (.v (.sl (.int .i64)) p3), (.v (.sl (.pair (.int .i64) (.pair (.int .i64) (.int .i64)))) p4), (.v (.sl (.int .i64)) p5)])), (15, (.box 25 [(.v (.int .i64) p6), (.v (.int .i64) p7), (.v (.sl (.int .i64)) p8), (.v (.sl (.pair (.int .i64) (.pair (.int .i64) (.int .i64)))) p9), (.v (.sl (.int .i64)) p10)])), (23, (.box 25 [(.v (.int .i64) p11), (.v (.int .i64) p12), (.row 39), (.row 47), (.row 55)])), (31, (.box 25 [(.v (.int .i64) p13), (.v (.int .i64) p14), (.row 63), (.row 71), (.row 79)])), (39, (.row 3 (.int .i64) p15 false)), (47, (.row 74 (.pair (.int .i64) (.pair (.int .i64) (.int .i64))) p16 false)), (55, (.row 3 (.int .i64) p17 false)), (63, (.row 3 (.int .i64) p18 false)), (71, (.row 74 (.pair (.int .i64) (.pair (.int .i64) (.int .i64))) p19 false)), (79, (.row 3 (.int .i64) p20 false))])
noncomputable def nondet_Star.l7 (p0 : Int) (p1 : (List Int)) (p2 : Int) (p3 : Int) (p4 : Int) (p5 : Int) (p6 : (List Int)) (p7 : (List (Int × (Int × Int)))) (p8 : (List Int)) (p9 : Int) (p10 : Int) (p11 : Int) (p12 : Int) (p13 : (List Int)) (p14 : (List (Int × (Int × Int)))) (p15 : (List Int)) (p16 : (List Int)) (p17 : (List (Int × (Int × Int)))) (p18 : (List Int)) : Option (Int × (Int × ((List Int) × ((List (Int × (Int × Int))) × ((List Int) × (Int × Unit)))))) := Go.Proofs.R.loopAt Go.Proofs.C07.ctx (Go.Proofs.R.Einf Go.Proofs.C07.ctx) 35 7 (.mk [(1, (.one (.ref 7 0))), (2, (.one (.ref 15 0))), (5, (.one (.v (.int .i64) p0))), (6, (.one (.ref 23 0))), (32, (.one (.v (.sl (.int .i64)) p1))), (33, (.one (.v (.int .i64) p2))), (34, (.one (.v (.int .i64) p3)))] [(7, (.box 25 [(.v (.int .i64) p4), (.v (.int .i64) p5), (.v (.sl (.int .i64)) p6), (.v (.sl (.pair (.int .i64) (.pair (.int .i64) (.int .i64)))) p7), (.v (.sl (.int .i64)) p8)])), (15, (.box 25 [(.v (.int .i64) p9), (.v (.int .i64) p10), (.row 31), (.row 39), (.row 47)])), (23, (.box 25 [(.v (.int .i64) p11), (.v (.int .i64) p12), (.row 55), (.row 63), (.row 71)])), (31, (.row 3 (.int .i64) p13 false)), (39, (.row 74 (.pair (.int .i64) (.pair (.int .i64) (.int .i64))) p14 false)), (47, (.row 3 (.int .i64) p15 false)), (55, (.row 3 (.int .i64) p16 false)), (63, (.row 74 (.pair (.int .i64) (.pair (.int .i64) (.int .i64))) p17 false)), (71, (.row 3 (.int .i64) p18 false))])
noncomputable def ancepsref07_Star.l8 (p0 : Int) (p1 : Int) (p2 : Int) (p3 : Int) (p4 : (List Int)) (p5 : (List (Int × (Int × Int)))) (p6 : (List Int)) (p7 : Int) (p8 : Int) (p9 : Int) (p10 : Int) (p11 : (List Int)) (p12 : (List (Int × (Int × Int)))) (p13 : (List Int)) (p14 : (List Int)) (p15 : (List (Int × (Int × Int)))) (p16 : (List Int)) : Option (Int × (Int × ((List Int) × ((List (Int × (Int × Int))) × ((List Int) × (Int × Unit)))))) := Go.Proofs.R.loopAt Go.Proofs.C07.ctx (Go.Proofs.R.Einf Go.Proofs.C07.ctx) 42 8 (.mk [(1, (.one (.ref 7 0))), (2, (.one (.ref 15 0))), (5, (.one (.v (.int .i64) p0))), (6, (.one (.ref 23 0))), (7, (.one (.v (.int .i64) p1)))] [(7, (.box 25 [(.v (.int .i64) p2), (.v (.int .i64) p3), (.v (.sl (.int .i64)) p4), (.v (.sl (.pair (.int .i64) (.pair (.int .i64) (.int .i64)))) p5), (.v (.sl (.int .i64)) p6)])), (15, (.box 25 [(.v (.int .i64) p7), (.v (.int .i64) p8), (.row 31), (.row 39), (.row 47)])), (23, (.box 25 [(.v (.int .i64) p9), (.v (.int .i64) p10), (.row 55), (.row 63), (.row 71)])), (31, (.row 3 (.int .i64) p11 false)), (39, (.row 74 (.pair (.int .i64) (.pair (.int .i64) (.int .i64))) p12 false)), (47, (.row 3 (.int .i64) p13 false)), (55, (.row 3 (.int .i64) p14 false)), (63, (.row 74 (.pair (.int .i64) (.pair (.int .i64) (.int .i64))) p15 false)), (71, (.row 3 (.int .i64) p16 false))])
noncomputable def ancepsref07_ascending.l2 (p0 : (List Int)) (p1 : Int) (p2 : Int) : Option (Bool × Unit) := Go.Proofs.R.loopAt Go.Proofs.C07.ctx (Go.Proofs.R.Einf Go.Proofs.C07.ctx) 44 2 (.mk [(0, (.one (.v (.sl (.int .i64)) p0))), (1, (.one (.v (.int .i64) p1))), (5, (.one (.v (.int .i64) p2)))] [])
noncomputable def ancepsref07_ahead.f (p0 : Int) (p1 : Int) (p2 : Int) (p3 : Int) (p4 : Int) (p5 : Int) : Option (Bool × Unit) := (Go.Proofs.R.Einf Go.Proofs.C07.ctx).call 45 [(.agg [(.v (.int .i64) p0), (.v (.int .i64) p1), (.v (.int .i64) p2)]), (.agg [(.v (.int .i64) p3), (.v (.int .i64) p4), (.v (.int .i64) p5)])]
noncomputable def ancepsref07_closed.l3 (p0 : (List Int)) (p1 : Int) (p2 : Int) (p3 : Int) (p4 : (List Int)) (p5 : (List (Int × (Int × Int)))) (p6 : (List Int)) (p7 : (List Bool)) : Option ((List Int) × Unit) := Go.Proofs.R.loopAt Go.Proofs.C07.ctx (Go.Proofs.R.Einf Go.Proofs.C07.ctx) 54 3 (.mk [(1, (.one (.v (.sl (.int .i64)) p0))), (2, (.one (.ref 7 0))), (5, (.one (.row 15))), (6, (.one (.v (.int .i64) p1)))] [(7, (.box 25 [(.v (.int .i64) p2), (.v (.int .i64) p3), (.v (.sl (.int .i64)) p4), (.v (.sl (.pair (.int .i64) (.pair (.int .i64) (.int .i64)))) p5), (.v (.sl (.int .i64)) p6)])), (15, (.row 4 .bool p7 false))])
noncomputable def ancepsref07_Determine.l14 (p0 : Int) (p1 : Int) (p2 : Int) (p3 : Int) (p4 : (List Int)) (p5 : (List (Int × (Int × Int)))) (p6 : (List Int)) (p7 : Int) (p8 : Int) (p9 : Int) (p10 : Int) (p11 : (List (List Int))) (p12 : (List Int)) (p13 : (List (List Int))) (p14 : (List Bool)) (p15 : (List (List Int))) (p16 : (List Bool)) : Option (Int × (Int × ((List (List Int)) × ((List Bool) × (Int × Unit))))) := Go.Proofs.R.loopAt Go.Proofs.C07.ctx (Go.Proofs.R.Einf Go.Proofs.C07.ctx) 16 14 (.mk [(1, (.one (.ref 7 0))), (2, (.one (.ref 15 0))), (5, (.one (.ref 23 0))), (6, (.one (.row 31))), (7, (.one (.v (.int .i64) p0))), (8, (.one (.row 39))), (9, (.one (.v (.int .i64) p1)))] [(7, (.box 25 [(.v (.int .i64) p2), (.v (.int .i64) p3), (.v (.sl (.int .i64)) p4), (.v (.sl (.pair (.int .i64) (.pair (.int .i64) (.int .i64)))) p5), (.v (.sl (.int .i64)) p6)])), (15, (.box 34 [(.v (.int .i64) p7), (.v (.int .i64) p8), (.row 47), (.row 55)])), (23, (.box 34 [(.v (.int .i64) p9), (.v (.int .i64) p10), (.row 63), (.row 71)])), (31, (.row 22 (.sl (.int .i64)) p11 false)), (39, (.row 3 (.int .i64) p12 false)), (47, (.row 22 (.sl (.int .i64)) p13 false)), (55, (.row 4 .bool p14 false)), (63, (.row 22 (.sl (.int .i64)) p15 false)), (71, (.row 4 .bool p16 false))])
noncomputable def ancepsref06_Equal.f (p0 : (List Int)) (p1 : (List Int)) : Option (Bool × Unit) := (Go.Proofs.R.Einf Go.Proofs.C07.ctx).call 58 [(.one (.v (.sl (.int .i64)) p0)), (.one (.v (.sl (.int .i64)) p1))]
noncomputable def ancepsref06_SameDFA.l9 (p0 : Int) (p1 : Int) (p2 : Int) (p3 : (List (List Int))) (p4 : (List Bool)) (p5 : Int) (p6 : Int) (p7 : (List (List Int))) (p8 : (List Bool)) : Option (Bool × Unit) := Go.Proofs.R.loopAt Go.Proofs.C07.ctx (Go.Proofs.R.Einf Go.Proofs.C07.ctx) 17 9 (.mk [(2, (.one (.ref 7 0))), (3, (.one (.ref 15 0))), (6, (.one (.v (.int .i64) p0)))] [(7, (.box 34 [(.v (.int .i64) p1), (.v (.int .i64) p2), (.v (.sl (.sl (.int .i64))) p3), (.v (.sl .bool) p4)])), (15, (.box 34 [(.v (.int .i64) p5), (.v (.int .i64) p6), (.v (.sl (.sl (.int .i64))) p7), (.v (.sl .bool) p8)]))])
noncomputable def nondet_ascends.l2 (p0 : (List Int)) (p1 : Int) (p2 : (List Int)) (p3 : Int) (p4 : Int) : Option (Bool × Unit) := Go.Proofs.R.loopAt Go.Proofs.C07.ctx (Go.Proofs.R.Einf Go.Proofs.C07.ctx) 64 2 (.mk [(0, (.one (.v (.sl (.int .i64)) p0))), (1, (.one (.v (.int .i64) p1))), (7, (.one (.v (.sl (.int .i64)) p2))), (8, (.one (.v (.int .i64) p3))), (9, (.one (.v (.int .i64) p4)))] [])
noncomputable def ancepsref06_Valid.l12 (p0 : Int) (p1 : Int) (p2 : Int) (p3 : Int) (p4 : Int) (p5 : (List (List Int))) (p6 : (List Bool)) : Option (Int × Unit) := Go.Proofs.R.loopAt Go.Proofs.C07.ctx (Go.Proofs.R.Einf Go.Proofs.C07.ctx) 28 12 (.mk [(1, (.one (.ref 7 0))), (3, (.one (.v (.int .i64) p0))), (4, (.one (.v (.int .i64) p1))), (5, (.one (.v (.int .i64) p2)))] [(7, (.box 34 [(.v (.int .i64) p3), (.v (.int .i64) p4), (.v (.sl (.sl (.int .i64))) p5), (.v (.sl .bool) p6)]))])
noncomputable def ancepsref06_classes.f (p0 : Int) (p1 : Int) (p2 : (List (List Int))) (p3 : (List Bool)) : Option ((List Int) × Unit) := (Go.Proofs.R.Einf Go.Proofs.C07.ctx).call 89 [(.agg [(.v (.int .i64) p0), (.v (.int .i64) p1), (.v (.sl (.sl (.int .i64))) p2), (.v (.sl .bool) p3)])]
noncomputable def ancepsref06_minimal.l9 (p0 : Int) (p1 : Int) (p2 : Int) (p3 : (List (List Int))) (p4 : (List Bool)) (p5 : Int) (p6 : Int) (p7 : Int) (p8 : Int) (p9 : (List Int)) (p10 : (List Int)) (p11 : (List (Int × Int))) (p12 : (List (List Int))) (p13 : (List Bool)) (p14 : (List (List Int))) (p15 : (List Bool)) : Option (Int × (Int × ((List (List Int)) × ((List Bool) × Unit)))) := Go.Proofs.R.loopAt Go.Proofs.C07.ctx (Go.Proofs.R.Einf Go.Proofs.C07.ctx) 67 9 (.mk [(1, (.one (.ref 7 0))), (2, (.one (.ref 15 0))), (3, (.one (.ref 23 0))), (4, (.one (.row 31))), (5, (.one (.row 39))), (6, (.one (.mp 47))), (7, (.one (.v (.int .i64) p0)))] [(7, (.box 34 [(.v (.int .i64) p1), (.v (.int .i64) p2), (.v (.sl (.sl (.int .i64))) p3), (.v (.sl .bool) p4)])), (15, (.box 34 [(.v (.int .i64) p5), (.v (.int .i64) p6), (.row 55), (.row 63)])), (23, (.box 34 [(.v (.int .i64) p7), (.v (.int .i64) p8), (.row 71), (.row 79)])), (31, (.row 3 (.int .i64) p9 false)), (39, (.row 3 (.int .i64) p10 false)), (47, (.mp 3 3 (.int .i64) (.int .i64) p11)), (55, (.row 22 (.sl (.int .i64)) p12 false)), (63, (.row 4 .bool p13 false)), (71, (.row 22 (.sl (.int .i64)) p14 false)), (79, (.row 4 .bool p15 false))])
noncomputable def ancepsref07_sorted.f (p0 : (List (Int × (Int × Int)))) : Option ((List (Int × (Int × Int))) × Unit) := (Go.Proofs.R.Einf Go.Proofs.C07.ctx).call 69 [(.one (.v (.sl (.pair (.int .i64) (.pair (.int .i64) (.int .i64)))) p0))]
noncomputable def nondet_beside.l5 (p0 : (List (Int × (Int × Int)))) (p1 : Int) (p2 : Int) (p3 : Int) (p4 : Int) (p5 : (List Int)) (p6 : (List (Int × (Int × Int)))) (p7 : (List Int)) (p8 : Int) (p9 : Int) (p10 : Int) (p11 : Int) (p12 : (List Int)) (p13 : (List (Int × (Int × Int)))) (p14 : (List Int)) (p15 : (List Int)) (p16 : (List (Int × (Int × Int)))) (p17 : (List Int)) : Option (Int × (Int × ((List Int) × ((List (Int × (Int × Int))) × ((List Int) × (Int × Unit)))))) := Go.Proofs.R.loopAt Go.Proofs.C07.ctx (Go.Proofs.R.Einf Go.Proofs.C07.ctx) 71 5 (.mk [(2, (.one (.ref 7 0))), (4, (.one (.ref 15 0))), (6, (.one (.ref 23 0))), (37, (.one (.v (.sl (.pair (.int .i64) (.pair (.int .i64) (.int .i64)))) p0))), (38, (.one (.v (.int .i64) p1))), (39, (.one (.v (.int .i64) p2)))] [(7, (.box 25 [(.v (.int .i64) p3), (.v (.int .i64) p4), (.v (.sl (.int .i64)) p5), (.v (.sl (.pair (.int .i64) (.pair (.int .i64) (.int .i64)))) p6), (.v (.sl (.int .i64)) p7)])), (15, (.box 25 [(.v (.int .i64) p8), (.v (.int .i64) p9), (.row 31), (.row 39), (.row 47)])), (23, (.box 25 [(.v (.int .i64) p10), (.v (.int .i64) p11), (.row 55), (.row 63), (.row 71)])), (31, (.row 3 (.int .i64) p12 false)), (39, (.row 74 (.pair (.int .i64) (.pair (.int .i64) (.int .i64))) p13 false)), (47, (.row 3 (.int .i64) p14 false)), (55, (.row 3 (.int .i64) p15 false)), (63, (.row 74 (.pair (.int .i64) (.pair (.int .i64) (.int .i64))) p16 false)), (71, (.row 3 (.int .i64) p17 false))])
noncomputable def nondet_moved.l3 (p0 : Int) (p1 : (List Int)) (p2 : Int) (p3 : Int) (p4 : (List Int)) : Option ((List Int) × Unit) := Go.Proofs.R.loopAt Go.Proofs.C07.ctx (Go.Proofs.R.Einf Go.Proofs.C07.ctx) 72 3 (.mk [(1, (.one (.v (.int .i64) p0))), (5, (.one (.row 7))), (8, (.one (.v (.sl (.int .i64)) p1))), (9, (.one (.v (.int .i64) p2))), (10, (.one (.v (.int .i64) p3)))] [(7, (.row 3 (.int .i64) p4 false))])
noncomputable def cmp_Compare_int.f (p0 : Int) (p1 : Int) : Option (Int × Unit) := (Go.Proofs.R.Einf Go.Proofs.C07.ctx).call 87 [(.one (.v (.int .i64) p0)), (.one (.v (.int .i64) p1))]
noncomputable def cmp_Or_int.f (p0 : (List Int)) : Option (Int × Unit) := (Go.Proofs.R.Einf Go.Proofs.C07.ctx).call 86 [(.one (.v (.sl (.int .i64)) p0))]
noncomputable def ancepsref07_both.l4 (p0 : Int) (p1 : Int) (p2 : Int) (p3 : (List Int)) (p4 : (List (Int × (Int × Int)))) (p5 : (List Int)) (p6 : Int) (p7 : Int) (p8 : (List Int)) (p9 : (List (Int × (Int × Int)))) (p10 : (List Int)) (p11 : Int) (p12 : Int) (p13 : Int) (p14 : Int) (p15 : (List Int)) (p16 : (List (Int × (Int × Int)))) (p17 : (List Int)) (p18 : (List Int)) (p19 : (List (Int × (Int × Int)))) (p20 : (List Int)) : Option (Int × (Int × ((List Int) × ((List (Int × (Int × Int))) × ((List Int) × Unit))))) := Go.Proofs.R.loopAt Go.Proofs.C07.ctx (Go.Proofs.R.Einf Go.Proofs.C07.ctx) 75 4 (.mk [(2, (.one (.ref 7 0))), (3, (.one (.ref 15 0))), (4, (.one (.ref 23 0))), (5, (.one (.ref 31 0))), (6, (.one (.v (.int .i64) p0)))] [(7, (.box 25 [(.v (.int .i64) p1), (.v (.int .i64) p2), (.v (.sl (.int .i64)) p3), (.v (.sl (.pair (.int .i64) (.pair (.int .i64) (.int .i64)))) p4), (.v (.sl (.int .i64)) p5)])), (15, (.box 25 [(.v (.int .i64) p6), (.v (.int .i64) p7), (.v (.sl (.int .i64)) p8), (.v (.sl (.pair (.int .i64) (.pair (.int .i64) (.int .i64)))) p9), (.v (.sl (.int .i64)) p10)])), (23, (.box 25 [(.v (.int .i64) p11), (.v (.int .i64) p12), (.row 39), (.row 47), (.row 55)])), (31, (.box 25 [(.v (.int .i64) p13), (.v (.int .i64) p14), (.row 63), (.row 71), (.row 79)])), (39, (.row 3 (.int .i64) p15 false)), (47, (.row 74 (.pair (.int .i64) (.pair (.int .i64) (.int .i64))) p16 false)), (55, (.row 3 (.int .i64) p17 false)), (63, (.row 3 (.int .i64) p18 false)), (71, (.row 74 (.pair (.int .i64) (.pair (.int .i64) (.int .i64))) p19 false)), (79, (.row 3 (.int .i64) p20 false))])
noncomputable def ancepsref07_moved.l3 (p0 : (List Int)) (p1 : Int) (p2 : Int) (p3 : (List Int)) : Option ((List Int) × Unit) := Go.Proofs.R.loopAt Go.Proofs.C07.ctx (Go.Proofs.R.Einf Go.Proofs.C07.ctx) 76 3 (.mk [(0, (.one (.v (.sl (.int .i64)) p0))), (1, (.one (.v (.int .i64) p1))), (5, (.one (.row 7))), (6, (.one (.v (.int .i64) p2)))] [(7, (.row 3 (.int .i64) p3 false))])
noncomputable def nondet_Concat.l11 (p0 : Int) (p1 : (List Int)) (p2 : Int) (p3 : Int) (p4 : (List Int)) (p5 : Int) (p6 : Int) (p7 : Int) (p8 : Int) (p9 : (List Int)) (p10 : (List (Int × (Int × Int)))) (p11 : (List Int)) (p12 : Int) (p13 : Int) (p14 : (List Int)) (p15 : (List (Int × (Int × Int)))) (p16 : (List Int)) (p17 : Int) (p18 : Int) (p19 : Int) (p20 : Int) (p21 : (List Int)) (p22 : (List (Int × (Int × Int)))) (p23 : (List Int)) (p24 : (List Int)) (p25 : (List (Int × (Int × Int)))) (p26 : (List Int)) : Option (Int × (Int × ((List Int) × ((List (Int × (Int × Int))) × ((List Int) × (Int × Unit)))))) := Go.Proofs.R.loopAt Go.Proofs.C07.ctx (Go.Proofs.R.Einf Go.Proofs.C07.ctx) 36 11 (.mk [(2, (.one (.ref 7 0))), (3, (.one (.ref 15 0))), (4, (.one (.ref 23 0))), (6, (.one (.ref 31 0))), (9, (.one (.v (.int .i64) p0))), (46, (.one (.v (.sl (.int .i64)) p1))), (47, (.one (.v (.int .i64) p2))), (48, (.one (.v (.int .i64) p3))), (53, (.one (.v (.sl (.int .i64)) p4))), (54, (.one (.v (.int .i64) p5))), (55, (.one (.v (.int .i64) p6)))] [(7, (.box 25 [(.v (.int .i64) p7), (.v (.int .i64) p8), (.v (.sl (.int .i64)) p9), (.v (.sl (.pair (.int .i64) (.pair (.int .i64) (.int .i64)))) p10), (.v (.sl (.int .i64)) p11)])), (15, (.box 25 [(.v (.int .i64) p12), (.v (.int .i64) p13), (.v (.sl (.int .i64)) p14), (.v (.sl (.pair (.int .i64) (.pair (.int .i64) (.int .i64)))) p15), (.v (.sl (.int .i64)) p16)])), (23, (.box 25 [(.v (.int .i64) p17), (.v (.int .i64) p18), (.row 39), (.row 47), (.row 55)])), (31, (.box 25 [(.v (.int .i64) p19), (.v (.int .i64) p20), (.row 63), (.row 71), (.row 79)])), (39, (.row 3 (.int .i64) p21 false)), (47, (.row 74 (.pair (.int .i64) (.pair (.int .i64) (.int .i64))) p22 false)), (55, (.row 3 (.int .i64) p23 false)), (63, (.row 3 (.int .i64) p24 false)), (71, (.row 74 (.pair (.int .i64) (.pair (.int .i64) (.int .i64))) p25 false)), (79, (.row 3 (.int .i64) p26 false))])
noncomputable def ancepsref07_Concat.l11 (p0 : Int) (p1 : Int) (p2 : Int) (p3 : Int) (p4 : (List Int)) (p5 : (List (Int × (Int × Int)))) (p6 : (List Int)) (p7 : Int) (p8 : Int) (p9 : (List Int)) (p10 : (List (Int × (Int × Int)))) (p11 : (List Int)) (p12 : Int) (p13 : Int) (p14 : Int) (p15 : Int) (p16 : (List Int)) (p17 : (List (Int × (Int × Int)))) (p18 : (List Int)) (p19 : (List Int)) (p20 : (List (Int × (Int × Int)))) (p21 : (List Int)) : Option (Int × (Int × ((List Int) × ((List (Int × (Int × Int))) × ((List Int) × (Int × Unit)))))) := Go.Proofs.R.loopAt Go.Proofs.C07.ctx (Go.Proofs.R.Einf Go.Proofs.C07.ctx) 41 11 (.mk [(2, (.one (.ref 7 0))), (3, (.one (.ref 15 0))), (4, (.one (.ref 23 0))), (7, (.one (.ref 31 0))), (8, (.one (.v (.int .i64) p0))), (9, (.one (.v (.int .i64) p1)))] [(7, (.box 25 [(.v (.int .i64) p2), (.v (.int .i64) p3), (.v (.sl (.int .i64)) p4), (.v (.sl (.pair (.int .i64) (.pair (.int .i64) (.int .i64)))) p5), (.v (.sl (.int .i64)) p6)])), (15, (.box 25 [(.v (.int .i64) p7), (.v (.int .i64) p8), (.v (.sl (.int .i64)) p9), (.v (.sl (.pair (.int .i64) (.pair (.int .i64) (.int .i64)))) p10), (.v (.sl (.int .i64)) p11)])), (23, (.box 25 [(.v (.int .i64) p12), (.v (.int .i64) p13), (.row 39), (.row 47), (.row 55)])), (31, (.box 25 [(.v (.int .i64) p14), (.v (.int .i64) p15), (.row 63), (.row 71), (.row 79)])), (39, (.row 3 (.int .i64) p16 false)), (47, (.row 74 (.pair (.int .i64) (.pair (.int .i64) (.int .i64))) p17 false)), (55, (.row 3 (.int .i64) p18 false)), (63, (.row 3 (.int .i64) p19 false)), (71, (.row 74 (.pair (.int .i64) (.pair (.int .i64) (.int .i64))) p20 false)), (79, (.row 3 (.int .i64) p21 false))])
noncomputable def nondet_Star.l12 (p0 : Int) (p1 : (List Int)) (p2 : Int) (p3 : Int) (p4 : Int) (p5 : Int) (p6 : Int) (p7 : Int) (p8 : (List Int)) (p9 : (List (Int × (Int × Int)))) (p10 : (List Int)) (p11 : (List Int)) (p12 : (List (Int × (Int × Int)))) (p13 : (List Int)) : Option (Int × (Int × ((List Int) × ((List (Int × (Int × Int))) × ((List Int) × (Int × Unit)))))) := Go.Proofs.R.loopAt Go.Proofs.C07.ctx (Go.Proofs.R.Einf Go.Proofs.C07.ctx) 35 12 (.mk [(2, (.one (.ref 7 0))), (5, (.one (.v (.int .i64) p0))), (6, (.one (.ref 15 0))), (48, (.one (.v (.sl (.int .i64)) p1))), (49, (.one (.v (.int .i64) p2))), (50, (.one (.v (.int .i64) p3)))] [(7, (.box 25 [(.v (.int .i64) p4), (.v (.int .i64) p5), (.row 23), (.row 31), (.row 39)])), (15, (.box 25 [(.v (.int .i64) p6), (.v (.int .i64) p7), (.row 47), (.row 55), (.row 63)])), (23, (.row 3 (.int .i64) p8 false)), (31, (.row 74 (.pair (.int .i64) (.pair (.int .i64) (.int .i64))) p9 false)), (39, (.row 3 (.int .i64) p10 false)), (47, (.row 3 (.int .i64) p11 false)), (55, (.row 74 (.pair (.int .i64) (.pair (.int .i64) (.int .i64))) p12 false)), (63, (.row 3 (.int .i64) p13 false))])
noncomputable def ancepsref07_Star.l12 (p0 : Int) (p1 : Int) (p2 : Int) (p3 : Int) (p4 : (List Int)) (p5 : (List (Int × (Int × Int)))) (p6 : (List Int)) (p7 : Int) (p8 : Int) (p9 : Int) (p10 : Int) (p11 : (List Int)) (p12 : (List (Int × (Int × Int)))) (p13 : (List Int)) (p14 : (List Int)) (p15 : (List (Int × (Int × Int)))) (p16 : (List Int)) : Option (Int × (Int × ((List Int) × ((List (Int × (Int × Int))) × ((List Int) × (Int × Unit)))))) := Go.Proofs.R.loopAt Go.Proofs.C07.ctx (Go.Proofs.R.Einf Go.Proofs.C07.ctx) 42 12 (.mk [(1, (.one (.ref 7 0))), (2, (.one (.ref 15 0))), (5, (.one (.v (.int .i64) p0))), (6, (.one (.ref 23 0))), (8, (.one (.v (.int .i64) p1)))] [(7, (.box 25 [(.v (.int .i64) p2), (.v (.int .i64) p3), (.v (.sl (.int .i64)) p4), (.v (.sl (.pair (.int .i64) (.pair (.int .i64) (.int .i64)))) p5), (.v (.sl (.int .i64)) p6)])), (15, (.box 25 [(.v (.int .i64) p7), (.v (.int .i64) p8), (.row 31), (.row 39), (.row 47)])), (23, (.box 25 [(.v (.int .i64) p9), (.v (.int .i64) p10), (.row 55), (.row 63), (.row 71)])), (31, (.row 3 (.int .i64) p11 false)), (39, (.row 74 (.pair (.int .i64) (.pair (.int .i64) (.int .i64))) p12 false)), (47, (.row 3 (.int .i64) p13 false)), (55, (.row 3 (.int .i64) p14 false)), (63, (.row 74 (.pair (.int .i64) (.pair (.int .i64) (.int .i64))) p15 false)), (71, (.row 3 (.int .i64) p16 false))])
noncomputable def ancepsref07_closed.l7 (p0 : Bool) (p1 : Int) (p2 : Int) (p3 : (List Int)) (p4 : (List (Int × (Int × Int)))) (p5 : (List Int)) (p6 : (List Bool)) : Option ((List Int) × Unit) := Go.Proofs.R.loopAt Go.Proofs.C07.ctx (Go.Proofs.R.Einf Go.Proofs.C07.ctx) 54 7 (.mk [(2, (.one (.ref 7 0))), (5, (.one (.row 15))), (7, (.one (.v .bool p0)))] [(7, (.box 25 [(.v (.int .i64) p1), (.v (.int .i64) p2), (.v (.sl (.int .i64)) p3), (.v (.sl (.pair (.int .i64) (.pair (.int .i64) (.int .i64)))) p4), (.v (.sl (.int .i64)) p5)])), (15, (.row 4 .bool p6 false))])
noncomputable def ancepsref07_next.f (p0 : Int) (p1 : Int) (p2 : (List Int)) (p3 : (List (Int × (Int × Int)))) (p4 : (List Int)) (p5 : (List Int)) (p6 : Int) : Option ((List Int) × Unit) := (Go.Proofs.R.Einf Go.Proofs.C07.ctx).call 55 [(.agg [(.v (.int .i64) p0), (.v (.int .i64) p1), (.v (.sl (.int .i64)) p2), (.v (.sl (.pair (.int .i64) (.pair (.int .i64) (.int .i64)))) p3), (.v (.sl (.int .i64)) p4)]), (.one (.v (.sl (.int .i64)) p5)), (.one (.v (.int .i64) p6))]
noncomputable def ancepsref07_find.f (p0 : (List (List Int))) (p1 : (List Int)) : Option (Int × Unit) := (Go.Proofs.R.Einf Go.Proofs.C07.ctx).call 56 [(.one (.v (.sl (.sl (.int .i64))) p0)), (.one (.v (.sl (.int .i64)) p1))]
noncomputable def ancepsref07_meets.f (p0 : (List Int)) (p1 : (List Int)) : Option (Bool × Unit) := (Go.Proofs.R.Einf Go.Proofs.C07.ctx).call 57 [(.one (.v (.sl (.int .i64)) p0)), (.one (.v (.sl (.int .i64)) p1))]
noncomputable def ancepsref06_Equal.l4 (p0 : (List Int)) (p1 : (List Int)) (p2 : Int) : Option (Bool × Unit) := Go.Proofs.R.loopAt Go.Proofs.C07.ctx (Go.Proofs.R.Einf Go.Proofs.C07.ctx) 58 4 (.mk [(0, (.one (.v (.sl (.int .i64)) p0))), (1, (.one (.v (.sl (.int .i64)) p1))), (5, (.one (.v (.int .i64) p2)))] [])
noncomputable def ancepsref06_Live.f (p0 : Int) (p1 : Int) (p2 : (List (List Int))) (p3 : (List Bool)) : Option ((List Bool) × Unit) := (Go.Proofs.R.Einf Go.Proofs.C07.ctx).call 95 [(.agg [(.v (.int .i64) p0), (.v (.int .i64) p1), (.v (.sl (.sl (.int .i64))) p2), (.v (.sl .bool) p3)])]
noncomputable def ancepsref06_classes.l4 (p0 : Int) (p1 : Int) (p2 : Int) (p3 : (List (List Int))) (p4 : (List Bool)) (p5 : (List Bool)) (p6 : (List Int)) : Option ((List Int) × Unit) := Go.Proofs.R.loopAt Go.Proofs.C07.ctx (Go.Proofs.R.Einf Go.Proofs.C07.ctx) 89 4 (.mk [(1, (.one (.ref 7 0))), (3, (.one (.row 15))), (4, (.one (.row 23))), (5, (.one (.v (.int .i64) p0)))] [(7, (.box 34 [(.v (.int .i64) p1), (.v (.int .i64) p2), (.v (.sl (.sl (.int .i64))) p3), (.v (.sl .bool) p4)])), (15, (.row 4 .bool p5 false)), (23, (.row 3 (.int .i64) p6 false))])
noncomputable def ancepsref06_minimal.l13 (p0 : Int) (p1 : Int) (p2 : Int) (p3 : Int) (p4 : (List (List Int))) (p5 : (List Bool)) (p6 : Int) (p7 : Int) (p8 : Int) (p9 : Int) (p10 : (List Int)) (p11 : (List Int)) (p12 : (List (Int × Int))) (p13 : (List Int)) (p14 : (List (List Int))) (p15 : (List Bool)) (p16 : (List (List Int))) (p17 : (List Bool)) : Option (Int × (Int × ((List (List Int)) × ((List Bool) × Unit)))) := Go.Proofs.R.loopAt Go.Proofs.C07.ctx (Go.Proofs.R.Einf Go.Proofs.C07.ctx) 67 13 (.mk [(1, (.one (.ref 7 0))), (2, (.one (.ref 15 0))), (3, (.one (.ref 23 0))), (4, (.one (.row 31))), (5, (.one (.row 39))), (6, (.one (.mp 47))), (7, (.one (.v (.int .i64) p0))), (8, (.one (.row 55))), (9, (.one (.v (.int .i64) p1)))] [(7, (.box 34 [(.v (.int .i64) p2), (.v (.int .i64) p3), (.v (.sl (.sl (.int .i64))) p4), (.v (.sl .bool) p5)])), (15, (.box 34 [(.v (.int .i64) p6), (.v (.int .i64) p7), (.row 63), (.row 71)])), (23, (.box 34 [(.v (.int .i64) p8), (.v (.int .i64) p9), (.row 79), (.row 87)])), (31, (.row 3 (.int .i64) p10 false)), (39, (.row 3 (.int .i64) p11 false)), (47, (.mp 3 3 (.int .i64) (.int .i64) p12)), (55, (.row 3 (.int .i64) p13 false)), (63, (.row 22 (.sl (.int .i64)) p14 false)), (71, (.row 4 .bool p15 false)), (79, (.row 22 (.sl (.int .i64)) p16 false)), (87, (.row 4 .bool p17 false))])
noncomputable def ancepsref07_sorted.l3 (p0 : (List (Int × (Int × Int)))) (p1 : Int) (p2 : (List (Int × (Int × Int)))) : Option ((List (Int × (Int × Int))) × Unit) := Go.Proofs.R.loopAt Go.Proofs.C07.ctx (Go.Proofs.R.Einf Go.Proofs.C07.ctx) 69 3 (.mk [(0, (.one (.v (.sl (.pair (.int .i64) (.pair (.int .i64) (.int .i64)))) p0))), (3, (.one (.row 7))), (4, (.one (.v (.int .i64) p1)))] [(7, (.row 74 (.pair (.int .i64) (.pair (.int .i64) (.int .i64))) p2 false))])
noncomputable def cmp_isNaN_int.f (p0 : Int) : Option (Bool × Unit) := (Go.Proofs.R.Einf Go.Proofs.C07.ctx).call 94 [(.one (.v (.int .i64) p0))]
noncomputable def cmp_Or_int.l3 (p0 : Int) (p1 : (List Int)) (p2 : Int) (p3 : Int) : Option (Int × Unit) := Go.Proofs.R.loopAt Go.Proofs.C07.ctx (Go.Proofs.R.Einf Go.Proofs.C07.ctx) 86 3 (.mk [(3, (.one (.v (.int .i64) p0))), (6, (.one (.v (.sl (.int .i64)) p1))), (7, (.one (.v (.int .i64) p2))), (8, (.one (.v (.int .i64) p3)))] [])
noncomputable def ancepsref07_closed.l10 (p0 : Bool) (p1 : Int) (p2 : Int) (p3 : Int) (p4 : (List Int)) (p5 : (List (Int × (Int × Int)))) (p6 : (List Int)) (p7 : (List Bool)) : Option ((List Int) × Unit) := Go.Proofs.R.loopAt Go.Proofs.C07.ctx (Go.Proofs.R.Einf Go.Proofs.C07.ctx) 54 10 (.mk [(2, (.one (.ref 7 0))), (5, (.one (.row 15))), (7, (.one (.v .bool p0))), (8, (.one (.v (.int .i64) p1)))] [(7, (.box 25 [(.v (.int .i64) p2), (.v (.int .i64) p3), (.v (.sl (.int .i64)) p4), (.v (.sl (.pair (.int .i64) (.pair (.int .i64) (.int .i64)))) p5), (.v (.sl (.int .i64)) p6)])), (15, (.row 4 .bool p7 false))])
noncomputable def ancepsref07_members.f (p0 : (List Bool)) : Option ((List Int) × Unit) := (Go.Proofs.R.Einf Go.Proofs.C07.ctx).call 83 [(.one (.v (.sl .bool) p0))]
noncomputable def ancepsref07_next.l3 (p0 : (List Int)) (p1 : Int) (p2 : Int) (p3 : Int) (p4 : Int) (p5 : (List Int)) (p6 : (List (Int × (Int × Int)))) (p7 : (List Int)) (p8 : (List Bool)) : Option ((List Int) × Unit) := Go.Proofs.R.loopAt Go.Proofs.C07.ctx (Go.Proofs.R.Einf Go.Proofs.C07.ctx) 55 3 (.mk [(1, (.one (.v (.sl (.int .i64)) p0))), (2, (.one (.v (.int .i64) p1))), (3, (.one (.ref 7 0))), (7, (.one (.row 15))), (8, (.one (.v (.int .i64) p2)))] [(7, (.box 25 [(.v (.int .i64) p3), (.v (.int .i64) p4), (.v (.sl (.int .i64)) p5), (.v (.sl (.pair (.int .i64) (.pair (.int .i64) (.int .i64)))) p6), (.v (.sl (.int .i64)) p7)])), (15, (.row 4 .bool p8 false))])
noncomputable def ancepsref07_find.l2 (p0 : (List (List Int))) (p1 : (List Int)) (p2 : Int) : Option (Int × Unit) := Go.Proofs.R.loopAt Go.Proofs.C07.ctx (Go.Proofs.R.Einf Go.Proofs.C07.ctx) 56 2 (.mk [(0, (.one (.v (.sl (.sl (.int .i64))) p0))), (1, (.one (.v (.sl (.int .i64)) p1))), (5, (.one (.v (.int .i64) p2)))] [])
noncomputable def ancepsref07_meets.l2 (p0 : (List Int)) (p1 : (List Int)) (p2 : Int) : Option (Bool × Unit) := Go.Proofs.R.loopAt Go.Proofs.C07.ctx (Go.Proofs.R.Einf Go.Proofs.C07.ctx) 57 2 (.mk [(0, (.one (.v (.sl (.int .i64)) p0))), (1, (.one (.v (.sl (.int .i64)) p1))), (5, (.one (.v (.int .i64) p2)))] [])
noncomputable def ancepsref06_Live.l3 (p0 : Bool) (p1 : Int) (p2 : Int) (p3 : (List (List Int))) (p4 : (List Bool)) (p5 : (List Bool)) : Option ((List Bool) × Unit) := Go.Proofs.R.loopAt Go.Proofs.C07.ctx (Go.Proofs.R.Einf Go.Proofs.C07.ctx) 95 3 (.mk [(1, (.one (.ref 7 0))), (3, (.one (.row 15))), (4, (.one (.v .bool p0)))] [(7, (.box 34 [(.v (.int .i64) p1), (.v (.int .i64) p2), (.v (.sl (.sl (.int .i64))) p3), (.v (.sl .bool) p4)])), (15, (.row 4 .bool p5 false))])
noncomputable def ancepsref06_classes.l11 (p0 : Int) (p1 : Int) (p2 : Int) (p3 : (List (List Int))) (p4 : (List Bool)) (p5 : (List Bool)) (p6 : (List Int)) : Option ((List Int) × Unit) := Go.Proofs.R.loopAt Go.Proofs.C07.ctx (Go.Proofs.R.Einf Go.Proofs.C07.ctx) 89 11 (.mk [(1, (.one (.ref 7 0))), (3, (.one (.row 15))), (4, (.one (.row 23))), (6, (.one (.v (.int .i64) p0)))] [(7, (.box 34 [(.v (.int .i64) p1), (.v (.int .i64) p2), (.v (.sl (.sl (.int .i64))) p3), (.v (.sl .bool) p4)])), (15, (.row 4 .bool p5 false)), (23, (.row 3 (.int .i64) p6 false))])
noncomputable def ancepsref07_sorted.l6 (p0 : (List (Int × (Int × Int)))) (p1 : Int) (p2 : Int) (p3 : (List (Int × (Int × Int)))) : Option ((List (Int × (Int × Int))) × Unit) := Go.Proofs.R.loopAt Go.Proofs.C07.ctx (Go.Proofs.R.Einf Go.Proofs.C07.ctx) 69 6 (.mk [(0, (.one (.v (.sl (.pair (.int .i64) (.pair (.int .i64) (.int .i64)))) p0))), (3, (.one (.row 7))), (4, (.one (.v (.int .i64) p1))), (5, (.one (.v (.int .i64) p2)))] [(7, (.row 74 (.pair (.int .i64) (.pair (.int .i64) (.int .i64))) p3 false))])
noncomputable def ancepsref07_members.l3 (p0 : (List Bool)) (p1 : Int) (p2 : (List Int)) : Option ((List Int) × Unit) := Go.Proofs.R.loopAt Go.Proofs.C07.ctx (Go.Proofs.R.Einf Go.Proofs.C07.ctx) 83 3 (.mk [(0, (.one (.v (.sl .bool) p0))), (3, (.one (.row 7))), (4, (.one (.v (.int .i64) p1)))] [(7, (.row 3 (.int .i64) p2 false))])
noncomputable def ancepsref07_next.l8 (p0 : Int) (p1 : Int) (p2 : Int) (p3 : Int) (p4 : (List Int)) (p5 : (List (Int × (Int × Int)))) (p6 : (List Int)) (p7 : (List Bool)) (p8 : (List Bool)) : Option ((List Int) × Unit) := Go.Proofs.R.loopAt Go.Proofs.C07.ctx (Go.Proofs.R.Einf Go.Proofs.C07.ctx) 55 8 (.mk [(2, (.one (.v (.int .i64) p0))), (3, (.one (.ref 7 0))), (7, (.one (.row 15))), (9, (.one (.row 23))), (10, (.one (.v (.int .i64) p1)))] [(7, (.box 25 [(.v (.int .i64) p2), (.v (.int .i64) p3), (.v (.sl (.int .i64)) p4), (.v (.sl (.pair (.int .i64) (.pair (.int .i64) (.int .i64)))) p5), (.v (.sl (.int .i64)) p6)])), (15, (.row 4 .bool p7 false)), (23, (.row 4 .bool p8 false))])
noncomputable def ancepsref07_meets.l5 (p0 : (List Int)) (p1 : (List Int)) (p2 : Int) (p3 : Int) : Option (Bool × Unit) := Go.Proofs.R.loopAt Go.Proofs.C07.ctx (Go.Proofs.R.Einf Go.Proofs.C07.ctx) 57 5 (.mk [(0, (.one (.v (.sl (.int .i64)) p0))), (1, (.one (.v (.sl (.int .i64)) p1))), (5, (.one (.v (.int .i64) p2))), (6, (.one (.v (.int .i64) p3)))] [])
noncomputable def ancepsref06_Live.l6 (p0 : Bool) (p1 : Int) (p2 : Int) (p3 : Int) (p4 : (List (List Int))) (p5 : (List Bool)) (p6 : (List Bool)) : Option ((List Bool) × Unit) := Go.Proofs.R.loopAt Go.Proofs.C07.ctx (Go.Proofs.R.Einf Go.Proofs.C07.ctx) 95 6 (.mk [(1, (.one (.ref 7 0))), (3, (.one (.row 15))), (4, (.one (.v .bool p0))), (5, (.one (.v (.int .i64) p1)))] [(7, (.box 34 [(.v (.int .i64) p2), (.v (.int .i64) p3), (.v (.sl (.sl (.int .i64))) p4), (.v (.sl .bool) p5)])), (15, (.row 4 .bool p6 false))])
noncomputable def ancepsref06_classes.l14 (p0 : Int) (p1 : Int) (p2 : Int) (p3 : Int) (p4 : (List (List Int))) (p5 : (List Bool)) (p6 : (List Bool)) (p7 : (List Int)) (p8 : (List Int)) (p9 : (List (List Int))) : Option ((List Int) × Unit) := Go.Proofs.R.loopAt Go.Proofs.C07.ctx (Go.Proofs.R.Einf Go.Proofs.C07.ctx) 89 14 (.mk [(1, (.one (.ref 7 0))), (3, (.one (.row 15))), (4, (.one (.row 23))), (6, (.one (.v (.int .i64) p0))), (7, (.one (.row 31))), (8, (.one (.row 39))), (9, (.one (.v (.int .i64) p1)))] [(7, (.box 34 [(.v (.int .i64) p2), (.v (.int .i64) p3), (.v (.sl (.sl (.int .i64))) p4), (.v (.sl .bool) p5)])), (15, (.row 4 .bool p6 false)), (23, (.row 3 (.int .i64) p7 false)), (31, (.row 3 (.int .i64) p8 false)), (39, (.row 22 (.sl (.int .i64)) p9 false))])
noncomputable def ancepsref07_sorted.l11 (p0 : (List (Int × (Int × Int)))) (p1 : Int) (p2 : Int) (p3 : Int) (p4 : (List (Int × (Int × Int)))) : Option ((List (Int × (Int × Int))) × Unit) := Go.Proofs.R.loopAt Go.Proofs.C07.ctx (Go.Proofs.R.Einf Go.Proofs.C07.ctx) 69 11 (.mk [(0, (.one (.v (.sl (.pair (.int .i64) (.pair (.int .i64) (.int .i64)))) p0))), (3, (.one (.row 7))), (4, (.one (.v (.int .i64) p1))), (5, (.one (.v (.int .i64) p2))), (6, (.one (.v (.int .i64) p3)))] [(7, (.row 74 (.pair (.int .i64) (.pair (.int .i64) (.int .i64))) p4 false))])
noncomputable def ancepsref06_Live.l9 (p0 : Bool) (p1 : Int) (p2 : Int) (p3 : Int) (p4 : Int) (p5 : (List (List Int))) (p6 : (List Bool)) (p7 : (List Bool)) : Option ((List Bool) × Unit) := Go.Proofs.R.loopAt Go.Proofs.C07.ctx (Go.Proofs.R.Einf Go.Proofs.C07.ctx) 95 9 (.mk [(1, (.one (.ref 7 0))), (3, (.one (.row 15))), (4, (.one (.v .bool p0))), (5, (.one (.v (.int .i64) p1))), (6, (.one (.v (.int .i64) p2)))] [(7, (.box 34 [(.v (.int .i64) p3), (.v (.int .i64) p4), (.v (.sl (.sl (.int .i64))) p5), (.v (.sl .bool) p6)])), (15, (.row 4 .bool p7 false))])
noncomputable def ancepsref06_classes.l19 (p0 : Int) (p1 : Int) (p2 : Int) (p3 : Int) (p4 : Int) (p5 : (List (List Int))) (p6 : (List Bool)) (p7 : (List Bool)) (p8 : (List Int)) (p9 : (List Int)) (p10 : (List (List Int))) (p11 : (List Int)) : Option ((List Int) × Unit) := Go.Proofs.R.loopAt Go.Proofs.C07.ctx (Go.Proofs.R.Einf Go.Proofs.C07.ctx) 89 19 (.mk [(1, (.one (.ref 7 0))), (3, (.one (.row 15))), (4, (.one (.row 23))), (6, (.one (.v (.int .i64) p0))), (7, (.one (.row 31))), (8, (.one (.row 39))), (9, (.one (.v (.int .i64) p1))), (10, (.one (.row 47))), (11, (.one (.v (.int .i64) p2)))] [(7, (.box 34 [(.v (.int .i64) p3), (.v (.int .i64) p4), (.v (.sl (.sl (.int .i64))) p5), (.v (.sl .bool) p6)])), (15, (.row 4 .bool p7 false)), (23, (.row 3 (.int .i64) p8 false)), (31, (.row 3 (.int .i64) p9 false)), (39, (.row 22 (.sl (.int .i64)) p10 false)), (47, (.row 3 (.int .i64) p11 false))])
noncomputable def ancepsref06_index.f (p0 : (List (List Int))) (p1 : (List Int)) : Option (Int × Unit) := (Go.Proofs.R.Einf Go.Proofs.C07.ctx).call 96 [(.one (.v (.sl (.sl (.int .i64))) p0)), (.one (.v (.sl (.int .i64)) p1))]
noncomputable def ancepsref06_index.l2 (p0 : (List (List Int))) (p1 : (List Int)) (p2 : Int) : Option (Int × Unit) := Go.Proofs.R.loopAt Go.Proofs.C07.ctx (Go.Proofs.R.Einf Go.Proofs.C07.ctx) 96 2 (.mk [(0, (.one (.v (.sl (.sl (.int .i64))) p0))), (1, (.one (.v (.sl (.int .i64)) p1))), (5, (.one (.v (.int .i64) p2)))] [])

theorem ancepslaw07_NondetErrors.f_eq (p0 : Int) (p1 : Int) (p2 : (List Int)) (p3 : (List (Int × (Int × Int)))) (p4 : (List Int)) (p5 : Int) (p6 : Int) (p7 : (List Int)) (p8 : (List (Int × (Int × Int)))) (p9 : (List Int)) : ancepslaw07_NondetErrors.f p0 p1 p2 p3 p4 p5 p6 p7 p8 p9 =
  bindD (ancepslaw07_awake.f) fun t64 =>
  ifB (!t64.1)
   (bindD (ancepslaw07_awake.f) fun t65 =>
   some (t65.1, ()))
  (bindD (ancepsref07_Few.f p0 p1 p2 p3 p4) fun t66 =>
   ifB (!t66.1)
    (bindD (ancepslaw07_awake.f) fun t67 =>
    some (t67.1, ()))
   (bindD (ancepsref07_Few.f p5 p6 p7 p8 p9) fun t68 =>
    ifB (!t68.1)
     (bindD (ancepslaw07_awake.f) fun t69 =>
     some (t69.1, ()))
    (ifB (decide (p1 > (9 : Int)))
      (bindD (ancepsref07_Valid.f p0 p1 p2 p3 p4) fun t70 =>
      ifB (t70.1 == (0 : Int))
       (bindD (ancepslaw07_awake.f) fun t71 =>
       some (t71.1, ()))
      (ifB (decide (p6 > (9 : Int)))
        (bindD (ancepsref07_Valid.f p5 p6 p7 p8 p9) fun t72 =>
        ifB (t72.1 == (0 : Int))
         (bindD (ancepslaw07_awake.f) fun t73 =>
         some (t73.1, ()))
        (bindD (ancepslaw07_own.f p0 p1 p2 p3 p4) fun t74 =>
         bindD (nondet_Reverse.f t74.1 t74.2.1 t74.2.2.1 t74.2.2.2.1 t74.2.2.2.2.1) fun t75 =>
         bindD (ancepsref07_Reverse.f p0 p1 p2 p3 p4) fun t76 =>
         bindD (ancepslaw07_right.f t75.1 t75.2.1 t75.2.2.1 t75.2.2.2.1 t75.2.2.2.2.1 t75.2.2.2.2.2.1 t76.1 t76.2.1 t76.2.2.1 t76.2.2.2.1 t76.2.2.2.2.1 t76.2.2.2.2.2.1) fun t77 =>
         ifB (!t77.1)
          (some (false, ()))
         (bindD (ancepslaw07_own.f p0 p1 p2 p3 p4) fun t78 =>
          bindD (ancepslaw07_own.f p5 p6 p7 p8 p9) fun t79 =>
          bindD (nondet_Union.f t78.1 t78.2.1 t78.2.2.1 t78.2.2.2.1 t78.2.2.2.2.1 t79.1 t79.2.1 t79.2.2.1 t79.2.2.2.1 t79.2.2.2.2.1) fun t80 =>
          bindD (ancepsref07_Union.f p0 p1 p2 p3 p4 p5 p6 p7 p8 p9) fun t81 =>
          bindD (ancepslaw07_right.f t80.1 t80.2.1 t80.2.2.1 t80.2.2.2.1 t80.2.2.2.2.1 t80.2.2.2.2.2.1 t81.1 t81.2.1 t81.2.2.1 t81.2.2.2.1 t81.2.2.2.2.1 t81.2.2.2.2.2.1) fun t82 =>
          ifB (!t82.1)
           (some (false, ()))
          (bindD (ancepslaw07_own.f p0 p1 p2 p3 p4) fun t83 =>
           bindD (ancepslaw07_own.f p5 p6 p7 p8 p9) fun t84 =>
           bindD (nondet_Concat.f t83.1 t83.2.1 t83.2.2.1 t83.2.2.2.1 t83.2.2.2.2.1 t84.1 t84.2.1 t84.2.2.1 t84.2.2.2.1 t84.2.2.2.2.1) fun t85 =>
           bindD (ancepsref07_Concat.f p0 p1 p2 p3 p4 p5 p6 p7 p8 p9) fun t86 =>
           bindD (ancepslaw07_right.f t85.1 t85.2.1 t85.2.2.1 t85.2.2.2.1 t85.2.2.2.2.1 t85.2.2.2.2.2.1 t86.1 t86.2.1 t86.2.2.1 t86.2.2.2.1 t86.2.2.2.2.1 t86.2.2.2.2.2.1) fun t87 =>
           ifB (!t87.1)
            (some (false, ()))
           (bindD (ancepslaw07_own.f p0 p1 p2 p3 p4) fun t88 =>
            bindD (nondet_Star.f t88.1 t88.2.1 t88.2.2.1 t88.2.2.2.1 t88.2.2.2.2.1) fun t89 =>
            bindD (ancepsref07_Star.f p0 p1 p2 p3 p4) fun t90 =>
            bindD (ancepslaw07_right.f t89.1 t89.2.1 t89.2.2.1 t89.2.2.2.1 t89.2.2.2.2.1 t89.2.2.2.2.2.1 t90.1 t90.2.1 t90.2.2.1 t90.2.2.2.1 t90.2.2.2.2.1 t90.2.2.2.2.2.1) fun t91 =>
            some (t91.1, ()))))))
       (bindD (ancepslaw07_own.f p0 p1 p2 p3 p4) fun t92 =>
        bindD (nondet_Reverse.f t92.1 t92.2.1 t92.2.2.1 t92.2.2.2.1 t92.2.2.2.2.1) fun t93 =>
        bindD (ancepsref07_Reverse.f p0 p1 p2 p3 p4) fun t94 =>
        bindD (ancepslaw07_right.f t93.1 t93.2.1 t93.2.2.1 t93.2.2.2.1 t93.2.2.2.2.1 t93.2.2.2.2.2.1 t94.1 t94.2.1 t94.2.2.1 t94.2.2.2.1 t94.2.2.2.2.1 t94.2.2.2.2.2.1) fun t95 =>
        ifB (!t95.1)
         (some (false, ()))
        (bindD (ancepslaw07_own.f p0 p1 p2 p3 p4) fun t96 =>
         bindD (ancepslaw07_own.f p5 p6 p7 p8 p9) fun t97 =>
         bindD (nondet_Union.f t96.1 t96.2.1 t96.2.2.1 t96.2.2.2.1 t96.2.2.2.2.1 t97.1 t97.2.1 t97.2.2.1 t97.2.2.2.1 t97.2.2.2.2.1) fun t98 =>
         bindD (ancepsref07_Union.f p0 p1 p2 p3 p4 p5 p6 p7 p8 p9) fun t99 =>
         bindD (ancepslaw07_right.f t98.1 t98.2.1 t98.2.2.1 t98.2.2.2.1 t98.2.2.2.2.1 t98.2.2.2.2.2.1 t99.1 t99.2.1 t99.2.2.1 t99.2.2.2.1 t99.2.2.2.2.1 t99.2.2.2.2.2.1) fun t100 =>
         ifB (!t100.1)
          (some (false, ()))
         (bindD (ancepslaw07_own.f p0 p1 p2 p3 p4) fun t101 =>
          bindD (ancepslaw07_own.f p5 p6 p7 p8 p9) fun t102 =>
          bindD (nondet_Concat.f t101.1 t101.2.1 t101.2.2.1 t101.2.2.2.1 t101.2.2.2.2.1 t102.1 t102.2.1 t102.2.2.1 t102.2.2.2.1 t102.2.2.2.2.1) fun t103 =>
          bindD (ancepsref07_Concat.f p0 p1 p2 p3 p4 p5 p6 p7 p8 p9) fun t104 =>
          bindD (ancepslaw07_right.f t103.1 t103.2.1 t103.2.2.1 t103.2.2.2.1 t103.2.2.2.2.1 t103.2.2.2.2.2.1 t104.1 t104.2.1 t104.2.2.1 t104.2.2.2.1 t104.2.2.2.2.1 t104.2.2.2.2.2.1) fun t105 =>
          ifB (!t105.1)
           (some (false, ()))
          (bindD (ancepslaw07_own.f p0 p1 p2 p3 p4) fun t106 =>
           bindD (nondet_Star.f t106.1 t106.2.1 t106.2.2.1 t106.2.2.2.1 t106.2.2.2.2.1) fun t107 =>
           bindD (ancepsref07_Star.f p0 p1 p2 p3 p4) fun t108 =>
           bindD (ancepslaw07_right.f t107.1 t107.2.1 t107.2.2.1 t107.2.2.2.1 t107.2.2.2.2.1 t107.2.2.2.2.2.1 t108.1 t108.2.1 t108.2.2.1 t108.2.2.2.1 t108.2.2.2.2.1 t108.2.2.2.2.2.1) fun t109 =>
           some (t109.1, ())))))))
     (ifB (decide (p6 > (9 : Int)))
       (bindD (ancepsref07_Valid.f p5 p6 p7 p8 p9) fun t110 =>
       ifB (t110.1 == (0 : Int))
        (bindD (ancepslaw07_awake.f) fun t111 =>
        some (t111.1, ()))
       (bindD (ancepslaw07_own.f p0 p1 p2 p3 p4) fun t112 =>
        bindD (nondet_Reverse.f t112.1 t112.2.1 t112.2.2.1 t112.2.2.2.1 t112.2.2.2.2.1) fun t113 =>
        bindD (ancepsref07_Reverse.f p0 p1 p2 p3 p4) fun t114 =>
        bindD (ancepslaw07_right.f t113.1 t113.2.1 t113.2.2.1 t113.2.2.2.1 t113.2.2.2.2.1 t113.2.2.2.2.2.1 t114.1 t114.2.1 t114.2.2.1 t114.2.2.2.1 t114.2.2.2.2.1 t114.2.2.2.2.2.1) fun t115 =>
        ifB (!t115.1)
         (some (false, ()))
        (bindD (ancepslaw07_own.f p0 p1 p2 p3 p4) fun t116 =>
         bindD (ancepslaw07_own.f p5 p6 p7 p8 p9) fun t117 =>
         bindD (nondet_Union.f t116.1 t116.2.1 t116.2.2.1 t116.2.2.2.1 t116.2.2.2.2.1 t117.1 t117.2.1 t117.2.2.1 t117.2.2.2.1 t117.2.2.2.2.1) fun t118 =>
         bindD (ancepsref07_Union.f p0 p1 p2 p3 p4 p5 p6 p7 p8 p9) fun t119 =>
         bindD (ancepslaw07_right.f t118.1 t118.2.1 t118.2.2.1 t118.2.2.2.1 t118.2.2.2.2.1 t118.2.2.2.2.2.1 t119.1 t119.2.1 t119.2.2.1 t119.2.2.2.1 t119.2.2.2.2.1 t119.2.2.2.2.2.1) fun t120 =>
         ifB (!t120.1)
          (some (false, ()))
         (bindD (ancepslaw07_own.f p0 p1 p2 p3 p4) fun t121 =>
          bindD (ancepslaw07_own.f p5 p6 p7 p8 p9) fun t122 =>
          bindD (nondet_Concat.f t121.1 t121.2.1 t121.2.2.1 t121.2.2.2.1 t121.2.2.2.2.1 t122.1 t122.2.1 t122.2.2.1 t122.2.2.2.1 t122.2.2.2.2.1) fun t123 =>
          bindD (ancepsref07_Concat.f p0 p1 p2 p3 p4 p5 p6 p7 p8 p9) fun t124 =>
          bindD (ancepslaw07_right.f t123.1 t123.2.1 t123.2.2.1 t123.2.2.2.1 t123.2.2.2.2.1 t123.2.2.2.2.2.1 t124.1 t124.2.1 t124.2.2.1 t124.2.2.2.1 t124.2.2.2.2.1 t124.2.2.2.2.2.1) fun t125 =>
          ifB (!t125.1)
           (some (false, ()))
          (bindD (ancepslaw07_own.f p0 p1 p2 p3 p4) fun t126 =>
           bindD (nondet_Star.f t126.1 t126.2.1 t126.2.2.1 t126.2.2.2.1 t126.2.2.2.2.1) fun t127 =>
           bindD (ancepsref07_Star.f p0 p1 p2 p3 p4) fun t128 =>
           bindD (ancepslaw07_right.f t127.1 t127.2.1 t127.2.2.1 t127.2.2.2.1 t127.2.2.2.2.1 t127.2.2.2.2.2.1 t128.1 t128.2.1 t128.2.2.1 t128.2.2.2.1 t128.2.2.2.2.1 t128.2.2.2.2.2.1) fun t129 =>
           some (t129.1, ()))))))
      (bindD (ancepslaw07_own.f p0 p1 p2 p3 p4) fun t130 =>
       bindD (nondet_Reverse.f t130.1 t130.2.1 t130.2.2.1 t130.2.2.2.1 t130.2.2.2.2.1) fun t131 =>
       bindD (ancepsref07_Reverse.f p0 p1 p2 p3 p4) fun t132 =>
       bindD (ancepslaw07_right.f t131.1 t131.2.1 t131.2.2.1 t131.2.2.2.1 t131.2.2.2.2.1 t131.2.2.2.2.2.1 t132.1 t132.2.1 t132.2.2.1 t132.2.2.2.1 t132.2.2.2.2.1 t132.2.2.2.2.2.1) fun t133 =>
       ifB (!t133.1)
        (some (false, ()))
       (bindD (ancepslaw07_own.f p0 p1 p2 p3 p4) fun t134 =>
        bindD (ancepslaw07_own.f p5 p6 p7 p8 p9) fun t135 =>
        bindD (nondet_Union.f t134.1 t134.2.1 t134.2.2.1 t134.2.2.2.1 t134.2.2.2.2.1 t135.1 t135.2.1 t135.2.2.1 t135.2.2.2.1 t135.2.2.2.2.1) fun t136 =>
        bindD (ancepsref07_Union.f p0 p1 p2 p3 p4 p5 p6 p7 p8 p9) fun t137 =>
        bindD (ancepslaw07_right.f t136.1 t136.2.1 t136.2.2.1 t136.2.2.2.1 t136.2.2.2.2.1 t136.2.2.2.2.2.1 t137.1 t137.2.1 t137.2.2.1 t137.2.2.2.1 t137.2.2.2.2.1 t137.2.2.2.2.2.1) fun t138 =>
        ifB (!t138.1)
         (some (false, ()))
        (bindD (ancepslaw07_own.f p0 p1 p2 p3 p4) fun t139 =>
         bindD (ancepslaw07_own.f p5 p6 p7 p8 p9) fun t140 =>
         bindD (nondet_Concat.f t139.1 t139.2.1 t139.2.2.1 t139.2.2.2.1 t139.2.2.2.2.1 t140.1 t140.2.1 t140.2.2.1 t140.2.2.2.1 t140.2.2.2.2.1) fun t141 =>
         bindD (ancepsref07_Concat.f p0 p1 p2 p3 p4 p5 p6 p7 p8 p9) fun t142 =>
         bindD (ancepslaw07_right.f t141.1 t141.2.1 t141.2.2.1 t141.2.2.2.1 t141.2.2.2.2.1 t141.2.2.2.2.2.1 t142.1 t142.2.1 t142.2.2.1 t142.2.2.2.1 t142.2.2.2.2.1 t142.2.2.2.2.2.1) fun t143 =>
         ifB (!t143.1)
          (some (false, ()))
         (bindD (ancepslaw07_own.f p0 p1 p2 p3 p4) fun t144 =>
          bindD (nondet_Star.f t144.1 t144.2.1 t144.2.2.1 t144.2.2.2.1 t144.2.2.2.2.1) fun t145 =>
          bindD (ancepsref07_Star.f p0 p1 p2 p3 p4) fun t146 =>
          bindD (ancepslaw07_right.f t145.1 t145.2.1 t145.2.2.1 t145.2.2.2.1 t145.2.2.2.2.1 t145.2.2.2.2.2.1 t146.1 t146.2.1 t146.2.2.1 t146.2.2.2.1 t146.2.2.2.2.1 t146.2.2.2.2.2.1) fun t147 =>
          some (t147.1, ()))))))))) := (Einf_call Go.Proofs.C07.ctx 10 _).trans (by kernel_rfl)
theorem ancepsref07_Few.f_eq (p0 : Int) (p1 : Int) (p2 : (List Int)) (p3 : (List (Int × (Int × Int)))) (p4 : (List Int)) : ancepsref07_Few.f p0 p1 p2 p3 p4 =
  ifB (decide (p1 ≤ (450 : Int)))
   (ifB (decide ((((List.length p3) : Nat) : Int) ≤ (300 : Int)))
    (ifB (decide ((((List.length p2) : Nat) : Int) ≤ (60 : Int)))
     (some ((decide ((((List.length p4) : Nat) : Int) ≤ (60 : Int))), ()))
    (some (false, ())))
   (some (false, ())))
  (some (false, ())) := (Einf_call Go.Proofs.C07.ctx 12 _).trans (by kernel_rfl)
theorem ancepsref07_Valid.f_eq (p0 : Int) (p1 : Int) (p2 : (List Int)) (p3 : (List (Int × (Int × Int)))) (p4 : (List Int)) : ancepsref07_Valid.f p0 p1 p2 p3 p4 =
  ifB (decide (p0 < (1 : Int)))
   (some ((1 : Int), ()))
  (ifB (decide (p0 > (8 : Int)))
    (some ((1 : Int), ()))
   (ifB (decide (p1 < (0 : Int)))
     (some ((1 : Int), ()))
    (ifB (decide (p1 > (400 : Int)))
      (some ((1 : Int), ()))
     (ifB (decide ((((List.length p3) : Nat) : Int) > (4000 : Int)))
       (some ((1 : Int), ()))
      (bindD (ancepsref07_ascending.f p2 p1) fun t179 =>
       ifB (!t179.1)
        (some ((1 : Int), ()))
       (bindD (ancepsref07_ascending.f p4 p1) fun t180 =>
        ifB (!t180.1)
         (some ((1 : Int), ()))
        (ancepsref07_Valid.l6 (0 : Int) p0 p1 p2 p3 p4))))))) := (Einf_call Go.Proofs.C07.ctx 13 _).trans (by kernel_rfl)
theorem ancepslaw07_own.f_eq (p0 : Int) (p1 : Int) (p2 : (List Int)) (p3 : (List (Int × (Int × Int)))) (p4 : (List Int)) : ancepslaw07_own.f p0 p1 p2 p3 p4 =
  bindD (slices_Clone_int_int.f p2) fun t181 =>
  bindD (slices_Clone_int_int.f p4) fun t182 =>
  bindD (api_Edge.f p3) fun t183 =>
  some (p0, (p1, (t181.1, (t183.1, (t182.1, ()))))) := (Einf_call Go.Proofs.C07.ctx 15 _).trans (by kernel_rfl)
theorem ancepsref07_Determine.f_eq (p0 : Int) (p1 : Int) (p2 : (List Int)) (p3 : (List (Int × (Int × Int)))) (p4 : (List Int)) : ancepsref07_Determine.f p0 p1 p2 p3 p4 =
  bindD (ancepsref07_Valid.f p0 p1 p2 p3 p4) fun t189 =>
  ifB (t189.1 != (0 : Int))
   (some ((0 : Int), ((0 : Int), (([] : (List (List Int))), (([] : (List Bool)), (t189.1, ()))))))
  (ifB (decide ((((List.length p2) : Nat) : Int) > (0 : Int)))
    (bindD (ancepsref07_closed.f p0 p1 p2 p3 p4 p2) fun t190 =>
    bindD ((Go.Proofs.R.grow (List.length (t190.1 :: ([] : (List (List Int))))))) fun t191 =>
    ancepsref07_Determine.l10 (0 : Int) p0 p1 p2 p3 p4 (0 : Int) (0 : Int) p0 (0 : Int) (t190.1 :: ([] : (List (List Int)))) ([] : (List (List Int))) ([] : (List Bool)) ([] : (List (List Int))) ([] : (List Bool)))
   (ancepsref07_Determine.l10 (0 : Int) p0 p1 p2 p3 p4 (0 : Int) (0 : Int) p0 (-(1 : Int)) ([] : (List (List Int))) ([] : (List (List Int))) ([] : (List Bool)) ([] : (List (List Int))) ([] : (List Bool)))) := (Einf_call Go.Proofs.C07.ctx 16 _).trans (by kernel_rfl)
theorem ancepsref06_SameDFA.f_eq (p0 : Int) (p1 : Int) (p2 : (List (List Int))) (p3 : (List Bool)) (p4 : Int) (p5 : Int) (p6 : (List (List Int))) (p7 : (List Bool)) : ancepsref06_SameDFA.f p0 p1 p2 p3 p4 p5 p6 p7 =
  ifB (p0 != p4)
   (some (false, ()))
  (ifB (p1 != p5)
    (some (false, ()))
   (ifB ((((List.length p2) : Nat) : Int) != (((List.length p6) : Nat) : Int))
     (some (false, ()))
    (ifB ((((List.length p3) : Nat) : Int) != (((List.length p7) : Nat) : Int))
      (some (false, ()))
     (ancepsref06_SameDFA.l4 (0 : Int) p0 p1 p2 p3 p4 p5 p6 p7)))) := (Einf_call Go.Proofs.C07.ctx 17 _).trans (by kernel_rfl)
theorem slices_Clone_int_int.f_eq (p0 : (List Int)) : slices_Clone_int_int.f p0 =
  bindD ((Go.Proofs.R.grow (List.length p0))) fun t198 =>
  some (p0, ()) := (Einf_call Go.Proofs.C07.ctx 22 _).trans (by kernel_rfl)
theorem nondet_Valid.f_eq (p0 : Int) (p1 : Int) (p2 : (List Int)) (p3 : (List (Int × (Int × Int)))) (p4 : (List Int)) : nondet_Valid.f p0 p1 p2 p3 p4 =
  ifB (decide (p0 < (1 : Int)))
   (some ((1 : Int), ()))
  (ifB (decide (p0 > (8 : Int)))
    (some ((1 : Int), ()))
   (ifB (decide (p1 < (0 : Int)))
     (some ((1 : Int), ()))
    (ifB (decide (p1 > (400 : Int)))
      (some ((1 : Int), ()))
     (ifB (decide ((((List.length p3) : Nat) : Int) > (4000 : Int)))
       (some ((1 : Int), ()))
      (bindD (nondet_ascends.f p2 p1) fun t206 =>
       ifB (!t206.1)
        (some ((1 : Int), ()))
       (bindD (nondet_ascends.f p4 p1) fun t207 =>
        ifB (!t207.1)
         (some ((1 : Int), ()))
        (nondet_Valid.l6 p3 (((List.length p3) : Nat) : Int) (0 : Int) p0 p1 p2 p3 p4))))))) := (Einf_call Go.Proofs.C07.ctx 25 _).trans (by kernel_rfl)
theorem ancepsref06_Few.f_eq (p0 : Int) (p1 : Int) (p2 : (List (List Int))) (p3 : (List Bool)) : ancepsref06_Few.f p0 p1 p2 p3 =
  ifB (decide ((((List.length p2) : Nat) : Int) > (410 : Int)))
   (some (false, ()))
  (ifB (decide ((((List.length p3) : Nat) : Int) > (420 : Int)))
    (some (false, ()))
   (ancepsref06_Few.l5 (0 : Int) (0 : Int) p0 p1 p2 p3)) := (Einf_call Go.Proofs.C07.ctx 27 _).trans (by kernel_rfl)
theorem ancepsref06_Valid.f_eq (p0 : Int) (p1 : Int) (p2 : (List (List Int))) (p3 : (List Bool)) : ancepsref06_Valid.f p0 p1 p2 p3 =
  ifB (decide (p0 < (1 : Int)))
   (some ((1 : Int), ()))
  (ifB (decide (p0 > (8 : Int)))
    (some ((1 : Int), ()))
   (ifB (decide ((((List.length p2) : Nat) : Int) > (400 : Int)))
     (some ((1 : Int), ()))
    (ifB ((((List.length p3) : Nat) : Int) != (((List.length p2) : Nat) : Int))
      (some ((1 : Int), ()))
     (ifB ((((List.length p2) : Nat) : Int) == (0 : Int))
       (ifB (p1 != (-(1 : Int)))
        (some ((1 : Int), ()))
       (ifB (decide ((((List.length p2) : Nat) : Int) > (0 : Int)))
         (ifB (decide (p1 < (0 : Int)))
          (some ((1 : Int), ()))
         (ifB (decide (p1 ≥ (((List.length p2) : Nat) : Int)))
           (some ((1 : Int), ()))
          (ancepsref06_Valid.l7 (((List.length p2) : Nat) : Int) (0 : Int) p0 p1 p2 p3)))
        (ancepsref06_Valid.l7 (((List.length p2) : Nat) : Int) (0 : Int) p0 p1 p2 p3)))
      (ifB (decide ((((List.length p2) : Nat) : Int) > (0 : Int)))
        (ifB (decide (p1 < (0 : Int)))
         (some ((1 : Int), ()))
        (ifB (decide (p1 ≥ (((List.length p2) : Nat) : Int)))
          (some ((1 : Int), ()))
         (ancepsref06_Valid.l7 (((List.length p2) : Nat) : Int) (0 : Int) p0 p1 p2 p3)))
       (ancepsref06_Valid.l7 (((List.length p2) : Nat) : Int) (0 : Int) p0 p1 p2 p3)))))) := (Einf_call Go.Proofs.C07.ctx 28 _).trans (by kernel_rfl)
theorem ancepsref06_Minimal.f_eq (p0 : Int) (p1 : Int) (p2 : (List (List Int))) (p3 : (List Bool)) : ancepsref06_Minimal.f p0 p1 p2 p3 =
  bindD (ancepsref06_Valid.f p0 p1 p2 p3) fun t209 =>
  ifB (t209.1 != (0 : Int))
   (some ((0 : Int), ((0 : Int), (([] : (List (List Int))), (([] : (List Bool)), (t209.1, ()))))))
  (bindD (ancepsref06_minimal.f p0 p1 p2 p3) fun t210 =>
   some (t210.1, (t210.2.1, (t210.2.2.1, (t210.2.2.2.1, ((0 : Int), ())))))) := (Einf_call Go.Proofs.C07.ctx 30 _).trans (by kernel_rfl)
theorem nondet_Reverse.f_eq (p0 : Int) (p1 : Int) (p2 : (List Int)) (p3 : (List (Int × (Int × Int)))) (p4 : (List Int)) : nondet_Reverse.f p0 p1 p2 p3 p4 =
  bindD (nondet_Valid.f p0 p1 p2 p3 p4) fun t211 =>
  ifB (t211.1 != (0 : Int))
   (some ((0 : Int), ((0 : Int), (([] : (List Int)), (([] : (List (Int × (Int × Int)))), (([] : (List Int)), (t211.1, ())))))))
  (bindD (slices_Clone_int_int.f p4) fun t212 =>
   bindD (slices_Clone_int_int.f p2) fun t213 =>
   nondet_Reverse.l6 p3 (((List.length p3) : Nat) : Int) (0 : Int) (0 : Int) (0 : Int) p0 p1 ([] : (List Int)) ([] : (List (Int × (Int × Int)))) ([] : (List Int)) t212.1 ([] : (List (Int × (Int × Int)))) t213.1) := (Einf_call Go.Proofs.C07.ctx 32 _).trans (by kernel_rfl)
theorem ancepsref07_Reverse.f_eq (p0 : Int) (p1 : Int) (p2 : (List Int)) (p3 : (List (Int × (Int × Int)))) (p4 : (List Int)) : ancepsref07_Reverse.f p0 p1 p2 p3 p4 =
  bindD (ancepsref07_Valid.f p0 p1 p2 p3 p4) fun t214 =>
  ifB (t214.1 != (0 : Int))
   (some ((0 : Int), ((0 : Int), (([] : (List Int)), (([] : (List (Int × (Int × Int)))), (([] : (List Int)), (t214.1, ())))))))
  (bindD ((Go.Proofs.R.grow ((List.length ([] : (List Int))) + (List.length p4)))) fun t215 =>
   bindD ((Go.Proofs.R.grow ((List.length ([] : (List Int))) + (List.length p2)))) fun t216 =>
   ancepsref07_Reverse.l6 (0 : Int) p0 p1 p2 p3 p4 (0 : Int) (0 : Int) p0 p1 ([] : (List Int)) ([] : (List (Int × (Int × Int)))) ([] : (List Int)) (([] : (List Int)) ++ p4) ([] : (List (Int × (Int × Int)))) (([] : (List Int)) ++ p2)) := (Einf_call Go.Proofs.C07.ctx 38 _).trans (by kernel_rfl)
theorem ancepslaw07_right.f_eq (p0 : Int) (p1 : Int) (p2 : (List Int)) (p3 : (List (Int × (Int × Int)))) (p4 : (List Int)) (p5 : Int) (p6 : Int) (p7 : Int) (p8 : (List Int)) (p9 : (List (Int × (Int × Int)))) (p10 : (List Int)) (p11 : Int) : ancepslaw07_right.f p0 p1 p2 p3 p4 p5 p6 p7 p8 p9 p10 p11 =
  ifB (p5 != p11)
   (ifB (p5 == p11)
    (ifB (p1 == (0 : Int))
     (ifB ((((List.length p3) : Nat) : Int) == (0 : Int))
      (ifB ((((List.length p2) : Nat) : Int) == (0 : Int))
       (some (((((List.length p4) : Nat) : Int) == (0 : Int)), ()))
      (some (false, ())))
     (some (false, ())))
    (some (false, ())))
   (some (false, ())))
  (ifB (p5 != (0 : Int))
    (ifB (p5 == p11)
     (ifB (p1 == (0 : Int))
      (ifB ((((List.length p3) : Nat) : Int) == (0 : Int))
       (ifB ((((List.length p2) : Nat) : Int) == (0 : Int))
        (some (((((List.length p4) : Nat) : Int) == (0 : Int)), ()))
       (some (false, ())))
      (some (false, ())))
     (some (false, ())))
    (some (false, ())))
   (bindD (ancepsref07_Valid.f p0 p1 p2 p3 p4) fun t217 =>
    ifB (t217.1 != (0 : Int))
     (some (false, ()))
    (ifB (p0 != p6)
      (some (false, ()))
     (bindD (ancepsref07_Determine.f p0 p1 p2 p3 p4) fun t218 =>
      bindD (ancepsref07_Determine.f p6 p7 p8 p9 p10) fun t219 =>
      ifB (t218.2.2.2.2.1 == (3 : Int))
       (some (true, ()))
      (ifB (t219.2.2.2.2.1 == (3 : Int))
        (some (true, ()))
       (ifB (t218.2.2.2.2.1 == (0 : Int))
         (ifB (t219.2.2.2.2.1 == (0 : Int))
          (bindD (ancepsref06_SameDFA.f t218.1 t218.2.1 t218.2.2.1 t218.2.2.2.1 t219.1 t219.2.1 t219.2.2.1 t219.2.2.2.1) fun t220 =>
          some (t220.1, ()))
         (some (false, ())))
        (some (false, ())))))))) := (Einf_call Go.Proofs.C07.ctx 39 _).trans (by kernel_rfl)
theorem nondet_Union.f_eq (p0 : Int) (p1 : Int) (p2 : (List Int)) (p3 : (List (Int × (Int × Int)))) (p4 : (List Int)) (p5 : Int) (p6 : Int) (p7 : (List Int)) (p8 : (List (Int × (Int × Int)))) (p9 : (List Int)) : nondet_Union.f p0 p1 p2 p3 p4 p5 p6 p7 p8 p9 =
  bindD (nondet_beside.f p0 p1 p2 p3 p4 p5 p6 p7 p8 p9) fun t221 =>
  ifB (t221.2.2.2.2.2.1 != (0 : Int))
   (some ((0 : Int), ((0 : Int), (([] : (List Int)), (([] : (List (Int × (Int × Int)))), (([] : (List Int)), (t221.2.2.2.2.2.1, ())))))))
  (bindD (slices_Clone_int_int.f p2) fun t222 =>
   bindD (nondet_moved.f p7 p1) fun t223 =>
   bindD ((Go.Proofs.R.grow ((List.length t222.1) + (List.length t223.1)))) fun t224 =>
   bindD (slices_Clone_int_int.f p4) fun t225 =>
   bindD (nondet_moved.f p9 p1) fun t226 =>
   bindD ((Go.Proofs.R.grow ((List.length t225.1) + (List.length t226.1)))) fun t227 =>
   ifB (decide (t221.2.1 > (400 : Int)))
    (some ((0 : Int), ((0 : Int), (([] : (List Int)), (([] : (List (Int × (Int × Int)))), (([] : (List Int)), ((3 : Int), ())))))))
   (ifB (decide ((((List.length t221.2.2.2.1) : Nat) : Int) > (4000 : Int)))
     (some ((0 : Int), ((0 : Int), (([] : (List Int)), (([] : (List (Int × (Int × Int)))), (([] : (List Int)), ((3 : Int), ())))))))
    (bindD ((Go.Proofs.R.grow (List.length t221.2.2.2.1))) fun t228 =>
     bindD (sortB false (fun t229 t230 => bindD (nondet_order.f t229.1 t229.2.1 t229.2.2 t230.1 t230.2.1 t230.2.2) fun t231 =>
      some t231.1) t221.2.2.2.1) fun t232 =>
     some (t221.1, (t221.2.1, ((t222.1 ++ t223.1), (t232, ((t225.1 ++ t226.1), ((0 : Int), ()))))))))) := (Einf_call Go.Proofs.C07.ctx 34 _).trans (by kernel_rfl)
theorem ancepsref07_Union.f_eq (p0 : Int) (p1 : Int) (p2 : (List Int)) (p3 : (List (Int × (Int × Int)))) (p4 : (List Int)) (p5 : Int) (p6 : Int) (p7 : (List Int)) (p8 : (List (Int × (Int × Int)))) (p9 : (List Int)) : ancepsref07_Union.f p0 p1 p2 p3 p4 p5 p6 p7 p8 p9 =
  bindD (ancepsref07_two.f p0 p1 p2 p3 p4 p5 p6 p7 p8 p9) fun t233 =>
  ifB (t233.1 != (0 : Int))
   (some ((0 : Int), ((0 : Int), (([] : (List Int)), (([] : (List (Int × (Int × Int)))), (([] : (List Int)), (t233.1, ())))))))
  (bindD (ancepsref07_both.f p0 p1 p2 p3 p4 p5 p6 p7 p8 p9) fun t234 =>
   bindD (ancepsref07_moved.f p7 p1) fun t235 =>
   bindD ((Go.Proofs.R.grow ((List.length t234.2.2.1) + (List.length t235.1)))) fun t236 =>
   bindD ((Go.Proofs.R.grow ((List.length ([] : (List Int))) + (List.length p4)))) fun t237 =>
   bindD ((Go.Proofs.R.grow ((List.length (([] : (List Int)) ++ p4)) + (List.length t234.2.2.2.2.1)))) fun t238 =>
   bindD (ancepsref07_large.f t234.1 t234.2.1 (t234.2.2.1 ++ t235.1) t234.2.2.2.1 ((([] : (List Int)) ++ p4) ++ t234.2.2.2.2.1)) fun t239 =>
   ifB t239.1
    (some ((0 : Int), ((0 : Int), (([] : (List Int)), (([] : (List (Int × (Int × Int)))), (([] : (List Int)), ((3 : Int), ())))))))
   (some (t234.1, (t234.2.1, ((t234.2.2.1 ++ t235.1), (t234.2.2.2.1, (((([] : (List Int)) ++ p4) ++ t234.2.2.2.2.1), ((0 : Int), ())))))))) := (Einf_call Go.Proofs.C07.ctx 40 _).trans (by kernel_rfl)
theorem nondet_Concat.f_eq (p0 : Int) (p1 : Int) (p2 : (List Int)) (p3 : (List (Int × (Int × Int)))) (p4 : (List Int)) (p5 : Int) (p6 : Int) (p7 : (List Int)) (p8 : (List (Int × (Int × Int)))) (p9 : (List Int)) : nondet_Concat.f p0 p1 p2 p3 p4 p5 p6 p7 p8 p9 =
  bindD (nondet_beside.f p0 p1 p2 p3 p4 p5 p6 p7 p8 p9) fun t240 =>
  ifB (t240.2.2.2.2.2.1 != (0 : Int))
   (some ((0 : Int), ((0 : Int), (([] : (List Int)), (([] : (List (Int × (Int × Int)))), (([] : (List Int)), (t240.2.2.2.2.2.1, ())))))))
  (bindD (slices_Clone_int_int.f p2) fun t241 =>
   bindD (nondet_moved.f p9 p1) fun t242 =>
   ifB (decide ((Go.IntKind.wrap Go.IntKind.i64 ((((List.length t240.2.2.2.1) : Nat) : Int) + (Go.IntKind.wrap Go.IntKind.i64 ((((List.length p4) : Nat) : Int) * (((List.length p7) : Nat) : Int))))) > (4000 : Int)))
    (some ((0 : Int), ((0 : Int), (([] : (List Int)), (([] : (List (Int × (Int × Int)))), (([] : (List Int)), ((3 : Int), ())))))))
   (nondet_Concat.l8 p4 (((List.length p4) : Nat) : Int) (0 : Int) p0 p1 p2 p3 p4 p5 p6 p7 p8 p9 (0 : Int) (0 : Int) t240.1 t240.2.1 ([] : (List Int)) ([] : (List (Int × (Int × Int)))) ([] : (List Int)) t241.1 t240.2.2.2.1 t242.1)) := (Einf_call Go.Proofs.C07.ctx 36 _).trans (by kernel_rfl)
theorem ancepsref07_Concat.f_eq (p0 : Int) (p1 : Int) (p2 : (List Int)) (p3 : (List (Int × (Int × Int)))) (p4 : (List Int)) (p5 : Int) (p6 : Int) (p7 : (List Int)) (p8 : (List (Int × (Int × Int)))) (p9 : (List Int)) : ancepsref07_Concat.f p0 p1 p2 p3 p4 p5 p6 p7 p8 p9 =
  bindD (ancepsref07_two.f p0 p1 p2 p3 p4 p5 p6 p7 p8 p9) fun t243 =>
  ifB (t243.1 != (0 : Int))
   (some ((0 : Int), ((0 : Int), (([] : (List Int)), (([] : (List (Int × (Int × Int)))), (([] : (List Int)), (t243.1, ())))))))
  (bindD (ancepsref07_both.f p0 p1 p2 p3 p4 p5 p6 p7 p8 p9) fun t244 =>
   ifB (decide (t244.2.1 > (400 : Int)))
    (some ((0 : Int), ((0 : Int), (([] : (List Int)), (([] : (List (Int × (Int × Int)))), (([] : (List Int)), ((3 : Int), ())))))))
   (ifB (decide ((Go.IntKind.wrap Go.IntKind.i64 ((((List.length t244.2.2.2.1) : Nat) : Int) + (Go.IntKind.wrap Go.IntKind.i64 ((((List.length p4) : Nat) : Int) * (((List.length p7) : Nat) : Int))))) > (4000 : Int)))
     (some ((0 : Int), ((0 : Int), (([] : (List Int)), (([] : (List (Int × (Int × Int)))), (([] : (List Int)), ((3 : Int), ())))))))
    (ancepsref07_Concat.l8 (0 : Int) p0 p1 p2 p3 p4 p5 p6 p7 p8 p9 (0 : Int) (0 : Int) t244.1 t244.2.1 ([] : (List Int)) ([] : (List (Int × (Int × Int)))) ([] : (List Int)) t244.2.2.1 t244.2.2.2.1 t244.2.2.2.2.1))) := (Einf_call Go.Proofs.C07.ctx 41 _).trans (by kernel_rfl)
theorem nondet_Star.f_eq (p0 : Int) (p1 : Int) (p2 : (List Int)) (p3 : (List (Int × (Int × Int)))) (p4 : (List Int)) : nondet_Star.f p0 p1 p2 p3 p4 =
  bindD (nondet_Valid.f p0 p1 p2 p3 p4) fun t245 =>
  ifB (t245.1 != (0 : Int))
   (some ((0 : Int), ((0 : Int), (([] : (List Int)), (([] : (List (Int × (Int × Int)))), (([] : (List Int)), (t245.1, ())))))))
  (bindD (api_Edge.f p3) fun t246 =>
   nondet_Star.l7 p1 p2 (((List.length p2) : Nat) : Int) (0 : Int) p0 p1 p2 p3 p4 (0 : Int) (0 : Int) p0 (Go.IntKind.wrap Go.IntKind.i64 (p1 + (1 : Int))) ([] : (List Int)) ([] : (List (Int × (Int × Int)))) ([] : (List Int)) (p1 :: ([] : (List Int))) t246.1 (p1 :: ([] : (List Int)))) := (Einf_call Go.Proofs.C07.ctx 35 _).trans (by kernel_rfl)
theorem ancepsref07_Star.f_eq (p0 : Int) (p1 : Int) (p2 : (List Int)) (p3 : (List (Int × (Int × Int)))) (p4 : (List Int)) : ancepsref07_Star.f p0 p1 p2 p3 p4 =
  bindD (ancepsref07_Valid.f p0 p1 p2 p3 p4) fun t247 =>
  ifB (t247.1 != (0 : Int))
   (some ((0 : Int), ((0 : Int), (([] : (List Int)), (([] : (List (Int × (Int × Int)))), (([] : (List Int)), (t247.1, ())))))))
  (bindD ((Go.Proofs.R.grow (List.length p3))) fun t248 =>
   ancepsref07_Star.l8 p1 (0 : Int) p0 p1 p2 p3 p4 (0 : Int) (0 : Int) p0 (Go.IntKind.wrap Go.IntKind.i64 (p1 + (1 : Int))) ([] : (List Int)) ([] : (List (Int × (Int × Int)))) ([] : (List Int)) (p1 :: ([] : (List Int))) p3 (p1 :: ([] : (List Int)))) := (Einf_call Go.Proofs.C07.ctx 42 _).trans (by kernel_rfl)
theorem ancepsref07_ascending.f_eq (p0 : (List Int)) (p1 : Int) : ancepsref07_ascending.f p0 p1 =
  ancepsref07_ascending.l2 p0 p1 (0 : Int) := (Einf_call Go.Proofs.C07.ctx 44 _).trans (by kernel_rfl)
theorem ancepsref07_Valid.l6_eq (p0 : Int) (p1 : Int) (p2 : Int) (p3 : (List Int)) (p4 : (List (Int × (Int × Int)))) (p5 : (List Int)) : ancepsref07_Valid.l6 p0 p1 p2 p3 p4 p5 =
  ifB (decide (p0 < (((List.length p4) : Nat) : Int)))
   (bindD ((ixAt p4 p0)) fun t275 =>
   ifB (decide (t275.1 < (0 : Int)))
    (some ((1 : Int), ()))
   (ifB (decide (t275.1 ≥ p2))
     (some ((1 : Int), ()))
    (ifB (decide (t275.2.2 < (0 : Int)))
      (some ((1 : Int), ()))
     (ifB (decide (t275.2.2 ≥ p2))
       (some ((1 : Int), ()))
      (ifB (decide (t275.2.1 < (-(1 : Int))))
        (some ((1 : Int), ()))
       (ifB (decide (t275.2.1 ≥ p1))
         (some ((1 : Int), ()))
        (ifB (decide (p0 > (0 : Int)))
          (bindD ((ixAt p4 (Go.IntKind.wrap Go.IntKind.i64 (p0 - (1 : Int))))) fun t276 =>
          bindD (ancepsref07_ahead.f t276.1 t276.2.1 t276.2.2 t275.1 t275.2.1 t275.2.2) fun t277 =>
          ifB (!t277.1)
           (some ((1 : Int), ()))
          (ancepsref07_Valid.l6 (Go.IntKind.wrap Go.IntKind.i64 (p0 + (1 : Int))) p1 p2 p3 p4 p5))
         (ancepsref07_Valid.l6 (Go.IntKind.wrap Go.IntKind.i64 (p0 + (1 : Int))) p1 p2 p3 p4 p5))))))))
  (some ((0 : Int), ())) := (loopAt_step Go.Proofs.C07.ctx 13 6 _).trans (by kernel_rfl)
theorem api_Edge.f_eq (p0 : (List (Int × (Int × Int)))) : api_Edge.f p0 =
  bindD ((Go.Proofs.R.grow (List.length p0))) fun t278 =>
  some (p0, ()) := (Einf_call Go.Proofs.C07.ctx 53 _).trans (by kernel_rfl)
theorem ancepsref07_closed.f_eq (p0 : Int) (p1 : Int) (p2 : (List Int)) (p3 : (List (Int × (Int × Int)))) (p4 : (List Int)) (p5 : (List Int)) : ancepsref07_closed.f p0 p1 p2 p3 p4 p5 =
  bindD ((Go.Proofs.R.mkLen p1 p1)) fun t286 =>
  ancepsref07_closed.l3 p5 (0 : Int) p0 p1 p2 p3 p4 (List.replicate t286 false) := (Einf_call Go.Proofs.C07.ctx 54 _).trans (by kernel_rfl)
theorem ancepsref07_Determine.l10_eq (p0 : Int) (p1 : Int) (p2 : Int) (p3 : (List Int)) (p4 : (List (Int × (Int × Int)))) (p5 : (List Int)) (p6 : Int) (p7 : Int) (p8 : Int) (p9 : Int) (p10 : (List (List Int))) (p11 : (List (List Int))) (p12 : (List Bool)) (p13 : (List (List Int))) (p14 : (List Bool)) : ancepsref07_Determine.l10 p0 p1 p2 p3 p4 p5 p6 p7 p8 p9 p10 p11 p12 p13 p14 =
  ifB (decide (p0 < (((List.length p10) : Nat) : Int)))
   (ancepsref07_Determine.l14 p0 (0 : Int) p1 p2 p3 p4 p5 p6 p7 p8 p9 p10 ([] : (List Int)) p11 p12 p13 p14)
  (bindD (ancepsref06_Minimal.f p8 p9 p13 p14) fun t287 =>
   some (t287.1, (t287.2.1, (t287.2.2.1, (t287.2.2.2.1, (t287.2.2.2.2.1, ())))))) := (loopAt_step Go.Proofs.C07.ctx 16 10 _).trans (by kernel_rfl)
theorem ancepsref06_SameDFA.l4_eq (p0 : Int) (p1 : Int) (p2 : Int) (p3 : (List (List Int))) (p4 : (List Bool)) (p5 : Int) (p6 : Int) (p7 : (List (List Int))) (p8 : (List Bool)) : ancepsref06_SameDFA.l4 p0 p1 p2 p3 p4 p5 p6 p7 p8 =
  ifB (decide (p0 < (((List.length p3) : Nat) : Int)))
   (bindD ((ixAt p3 p0)) fun t288 =>
   bindD ((ixAt p7 p0)) fun t289 =>
   bindD (ancepsref06_Equal.f t288 t289) fun t290 =>
   ifB (!t290.1)
    (some (false, ()))
   (ancepsref06_SameDFA.l4 (Go.IntKind.wrap Go.IntKind.i64 (p0 + (1 : Int))) p1 p2 p3 p4 p5 p6 p7 p8))
  (ancepsref06_SameDFA.l9 (0 : Int) p1 p2 p3 p4 p5 p6 p7 p8) := (loopAt_step Go.Proofs.C07.ctx 17 4 _).trans (by kernel_rfl)
theorem nondet_ascends.f_eq (p0 : (List Int)) (p1 : Int) : nondet_ascends.f p0 p1 =
  nondet_ascends.l2 p0 p1 p0 (((List.length p0) : Nat) : Int) (0 : Int) := (Einf_call Go.Proofs.C07.ctx 64 _).trans (by kernel_rfl)
theorem nondet_Valid.l6_eq (p0 : (List (Int × (Int × Int)))) (p1 : Int) (p2 : Int) (p3 : Int) (p4 : Int) (p5 : (List Int)) (p6 : (List (Int × (Int × Int)))) (p7 : (List Int)) : nondet_Valid.l6 p0 p1 p2 p3 p4 p5 p6 p7 =
  ifB (decide (p2 < p1))
   (bindD ((ixAt p0 p2)) fun t306 =>
   ifB (decide ((if (t306.2.2 < t306.1) then t306.2.2 else t306.1) < (0 : Int)))
    (some ((1 : Int), ()))
   (ifB (decide ((if (t306.1 < t306.2.2) then t306.2.2 else t306.1) ≥ p4))
     (some ((1 : Int), ()))
    (ifB (decide (t306.2.1 < (-(1 : Int))))
      (some ((1 : Int), ()))
     (ifB (decide (t306.2.1 ≥ p3))
       (some ((1 : Int), ()))
      (ifB (decide (p2 > (0 : Int)))
        (bindD ((ixAt p6 (Go.IntKind.wrap Go.IntKind.i64 (p2 - (1 : Int))))) fun t307 =>
        bindD (nondet_order.f t307.1 t307.2.1 t307.2.2 t306.1 t306.2.1 t306.2.2) fun t308 =>
        ifB (decide (t308.1 ≥ (0 : Int)))
         (some ((1 : Int), ()))
        (nondet_Valid.l6 p0 p1 (Go.IntKind.wrap Go.IntKind.i64 (p2 + (1 : Int))) p3 p4 p5 p6 p7))
       (nondet_Valid.l6 p0 p1 (Go.IntKind.wrap Go.IntKind.i64 (p2 + (1 : Int))) p3 p4 p5 p6 p7))))))
  (some ((0 : Int), ())) := (loopAt_step Go.Proofs.C07.ctx 25 6 _).trans (by kernel_rfl)
theorem ancepsref06_Few.l5_eq (p0 : Int) (p1 : Int) (p2 : Int) (p3 : Int) (p4 : (List (List Int))) (p5 : (List Bool)) : ancepsref06_Few.l5 p0 p1 p2 p3 p4 p5 =
  ifB (decide (p1 < (((List.length p4) : Nat) : Int)))
   (bindD ((ixAt p4 p1)) fun t311 =>
   ancepsref06_Few.l5 (Go.IntKind.wrap Go.IntKind.i64 (p0 + (((List.length t311) : Nat) : Int))) (Go.IntKind.wrap Go.IntKind.i64 (p1 + (1 : Int))) p2 p3 p4 p5)
  (some ((decide (p0 ≤ (1700 : Int))), ())) := (loopAt_step Go.Proofs.C07.ctx 27 5 _).trans (by kernel_rfl)
theorem ancepsref06_Valid.l7_eq (p0 : Int) (p1 : Int) (p2 : Int) (p3 : Int) (p4 : (List (List Int))) (p5 : (List Bool)) : ancepsref06_Valid.l7 p0 p1 p2 p3 p4 p5 =
  ifB (decide (p1 < p0))
   (bindD ((ixAt p4 p1)) fun t312 =>
   ifB ((((List.length t312) : Nat) : Int) != p2)
    (some ((1 : Int), ()))
   (ancepsref06_Valid.l12 p0 p1 (0 : Int) p2 p3 p4 p5))
  (some ((0 : Int), ())) := (loopAt_step Go.Proofs.C07.ctx 28 7 _).trans (by kernel_rfl)
theorem ancepsref06_minimal.f_eq (p0 : Int) (p1 : Int) (p2 : (List (List Int))) (p3 : (List Bool)) : ancepsref06_minimal.f p0 p1 p2 p3 =
  bindD (ancepsref06_classes.f p0 p1 p2 p3) fun t314 =>
  ifB (decide (p1 < (0 : Int)))
   (some (p0, ((-(1 : Int)), (([] : (List (List Int))), (([] : (List Bool)), ())))))
  (bindD ((ixAt t314.1 p1)) fun t315 =>
   bindD ((ixAt t314.1 p1)) fun t316 =>
   ifB (t316 == (0 : Int))
    (some (p0, ((-(1 : Int)), (([] : (List (List Int))), (([] : (List Bool)), ())))))
   (bindD ((ixAt t314.1 p1)) fun t317 =>
    bindD ((ixAt t314.1 p1)) fun t318 =>
    ancepsref06_minimal.l9 (0 : Int) p0 p1 p2 p3 (0 : Int) (0 : Int) p0 (0 : Int) t314.1 (p1 :: ([] : (List Int))) (Go.Proofs.R.mput (Go.Proofs.R.Ty.int Go.IntKind.i64) t318 (0 : Int) ([] : (List (Int × Int)))) ([] : (List (List Int))) ([] : (List Bool)) ([] : (List (List Int))) ([] : (List Bool)))) := (Einf_call Go.Proofs.C07.ctx 67 _).trans (by kernel_rfl)
theorem nondet_Reverse.l6_eq (p0 : (List (Int × (Int × Int)))) (p1 : Int) (p2 : Int) (p3 : Int) (p4 : Int) (p5 : Int) (p6 : Int) (p7 : (List Int)) (p8 : (List (Int × (Int × Int)))) (p9 : (List Int)) (p10 : (List Int)) (p11 : (List (Int × (Int × Int)))) (p12 : (List Int)) : nondet_Reverse.l6 p0 p1 p2 p3 p4 p5 p6 p7 p8 p9 p10 p11 p12 =
  ifB (decide (p2 < p1))
   (bindD ((ixAt p0 p2)) fun t319 =>
   bindD ((Go.Proofs.R.grow ((List.length p11) + (List.length ((t319.2.2, (t319.2.1, t319.1)) :: ([] : (List (Int × (Int × Int))))))))) fun t320 =>
   nondet_Reverse.l6 p0 p1 (Go.IntKind.wrap Go.IntKind.i64 (p2 + (1 : Int))) p3 p4 p5 p6 p7 p8 p9 p10 (p11 ++ ((t319.2.2, (t319.2.1, t319.1)) :: ([] : (List (Int × (Int × Int)))))) p12)
  (bindD ((Go.Proofs.R.grow (List.length p11))) fun t321 =>
   bindD (sortB false (fun t322 t323 => bindD (nondet_order.f t322.1 t322.2.1 t322.2.2 t323.1 t323.2.1 t323.2.2) fun t324 =>
    some t324.1) p11) fun t325 =>
   some (p5, (p6, (p10, (t325, (p12, ((0 : Int), ()))))))) := (loopAt_step Go.Proofs.C07.ctx 32 6 _).trans (by kernel_rfl)
theorem ancepsref07_Reverse.l6_eq (p0 : Int) (p1 : Int) (p2 : Int) (p3 : (List Int)) (p4 : (List (Int × (Int × Int)))) (p5 : (List Int)) (p6 : Int) (p7 : Int) (p8 : Int) (p9 : Int) (p10 : (List Int)) (p11 : (List (Int × (Int × Int)))) (p12 : (List Int)) (p13 : (List Int)) (p14 : (List (Int × (Int × Int)))) (p15 : (List Int)) : ancepsref07_Reverse.l6 p0 p1 p2 p3 p4 p5 p6 p7 p8 p9 p10 p11 p12 p13 p14 p15 =
  ifB (decide (p0 < (((List.length p4) : Nat) : Int)))
   (bindD ((ixAt p4 p0)) fun t326 =>
   bindD ((Go.Proofs.R.grow ((List.length p14) + (List.length ((t326.2.2, (t326.2.1, t326.1)) :: ([] : (List (Int × (Int × Int))))))))) fun t327 =>
   ancepsref07_Reverse.l6 (Go.IntKind.wrap Go.IntKind.i64 (p0 + (1 : Int))) p1 p2 p3 p4 p5 p6 p7 p8 p9 p10 p11 p12 p13 (p14 ++ ((t326.2.2, (t326.2.1, t326.1)) :: ([] : (List (Int × (Int × Int)))))) p15)
  (bindD (ancepsref07_sorted.f p14) fun t328 =>
   some (p8, (p9, (p13, (t328.1, (p15, ((0 : Int), ()))))))) := (loopAt_step Go.Proofs.C07.ctx 38 6 _).trans (by kernel_rfl)
theorem nondet_beside.f_eq (p0 : Int) (p1 : Int) (p2 : (List Int)) (p3 : (List (Int × (Int × Int)))) (p4 : (List Int)) (p5 : Int) (p6 : Int) (p7 : (List Int)) (p8 : (List (Int × (Int × Int)))) (p9 : (List Int)) : nondet_beside.f p0 p1 p2 p3 p4 p5 p6 p7 p8 p9 =
  bindD (nondet_Valid.f p0 p1 p2 p3 p4) fun t329 =>
  ifB (t329.1 != (0 : Int))
   (some ((0 : Int), ((0 : Int), (([] : (List Int)), (([] : (List (Int × (Int × Int)))), (([] : (List Int)), ((1 : Int), ())))))))
  (bindD (nondet_Valid.f p5 p6 p7 p8 p9) fun t330 =>
   ifB (t330.1 != (0 : Int))
    (some ((0 : Int), ((0 : Int), (([] : (List Int)), (([] : (List (Int × (Int × Int)))), (([] : (List Int)), ((1 : Int), ())))))))
   (ifB (p0 != p5)
     (some ((0 : Int), ((0 : Int), (([] : (List Int)), (([] : (List (Int × (Int × Int)))), (([] : (List Int)), ((1 : Int), ())))))))
    (bindD (api_Edge.f p3) fun t331 =>
     nondet_beside.l5 p8 (((List.length p8) : Nat) : Int) (0 : Int) p0 p1 p2 p3 p4 (0 : Int) (0 : Int) p0 (Go.IntKind.wrap Go.IntKind.i64 (p1 + p6)) ([] : (List Int)) ([] : (List (Int × (Int × Int)))) ([] : (List Int)) ([] : (List Int)) t331.1 ([] : (List Int))))) := (Einf_call Go.Proofs.C07.ctx 71 _).trans (by kernel_rfl)
theorem nondet_moved.f_eq (p0 : (List Int)) (p1 : Int) : nondet_moved.f p0 p1 =
  nondet_moved.l3 p1 p0 (((List.length p0) : Nat) : Int) (0 : Int) ([] : (List Int)) := (Einf_call Go.Proofs.C07.ctx 72 _).trans (by kernel_rfl)
theorem nondet_order.f_eq (p0 : Int) (p1 : Int) (p2 : Int) (p3 : Int) (p4 : Int) (p5 : Int) : nondet_order.f p0 p1 p2 p3 p4 p5 =
  bindD (cmp_Compare_int.f p0 p3) fun t332 =>
  bindD (cmp_Compare_int.f p1 p4) fun t333 =>
  bindD (cmp_Compare_int.f p2 p5) fun t334 =>
  bindD (cmp_Or_int.f (t332.1 :: (t333.1 :: (t334.1 :: ([] : (List Int)))))) fun t335 =>
  some (t335.1, ()) := (Einf_call Go.Proofs.C07.ctx 65 _).trans (by kernel_rfl)
theorem ancepsref07_two.f_eq (p0 : Int) (p1 : Int) (p2 : (List Int)) (p3 : (List (Int × (Int × Int)))) (p4 : (List Int)) (p5 : Int) (p6 : Int) (p7 : (List Int)) (p8 : (List (Int × (Int × Int)))) (p9 : (List Int)) : ancepsref07_two.f p0 p1 p2 p3 p4 p5 p6 p7 p8 p9 =
  bindD (ancepsref07_Valid.f p0 p1 p2 p3 p4) fun t336 =>
  ifB (t336.1 != (0 : Int))
   (some ((1 : Int), ()))
  (bindD (ancepsref07_Valid.f p5 p6 p7 p8 p9) fun t337 =>
   ifB (t337.1 != (0 : Int))
    (some ((1 : Int), ()))
   (ifB (p0 != p5)
     (some ((1 : Int), ()))
    (some ((0 : Int), ())))) := (Einf_call Go.Proofs.C07.ctx 74 _).trans (by kernel_rfl)
theorem ancepsref07_both.f_eq (p0 : Int) (p1 : Int) (p2 : (List Int)) (p3 : (List (Int × (Int × Int)))) (p4 : (List Int)) (p5 : Int) (p6 : Int) (p7 : (List Int)) (p8 : (List (Int × (Int × Int)))) (p9 : (List Int)) : ancepsref07_both.f p0 p1 p2 p3 p4 p5 p6 p7 p8 p9 =
  bindD ((Go.Proofs.R.grow ((List.length ([] : (List Int))) + (List.length p2)))) fun t338 =>
  bindD (ancepsref07_moved.f p9 p1) fun t339 =>
  bindD ((Go.Proofs.R.grow (List.length p3))) fun t340 =>
  ancepsref07_both.l4 (0 : Int) p0 p1 p2 p3 p4 p5 p6 p7 p8 p9 (0 : Int) (0 : Int) p0 (Go.IntKind.wrap Go.IntKind.i64 (p1 + p6)) ([] : (List Int)) ([] : (List (Int × (Int × Int)))) ([] : (List Int)) (([] : (List Int)) ++ p2) p3 t339.1 := (Einf_call Go.Proofs.C07.ctx 75 _).trans (by kernel_rfl)
theorem ancepsref07_moved.f_eq (p0 : (List Int)) (p1 : Int) : ancepsref07_moved.f p0 p1 =
  ancepsref07_moved.l3 p0 p1 (0 : Int) ([] : (List Int)) := (Einf_call Go.Proofs.C07.ctx 76 _).trans (by kernel_rfl)
theorem ancepsref07_large.f_eq (p0 : Int) (p1 : Int) (p2 : (List Int)) (p3 : (List (Int × (Int × Int)))) (p4 : (List Int)) : ancepsref07_large.f p0 p1 p2 p3 p4 =
  ifB (decide (p1 > (400 : Int)))
   (some (true, ()))
  (some ((decide ((((List.length p3) : Nat) : Int) > (4000 : Int))), ())) := (Einf_call Go.Proofs.C07.ctx 77 _).trans (by kernel_rfl)
theorem nondet_Concat.l8_eq (p0 : (List Int)) (p1 : Int) (p2 : Int) (p3 : Int) (p4 : Int) (p5 : (List Int)) (p6 : (List (Int × (Int × Int)))) (p7 : (List Int)) (p8 : Int) (p9 : Int) (p10 : (List Int)) (p11 : (List (Int × (Int × Int)))) (p12 : (List Int)) (p13 : Int) (p14 : Int) (p15 : Int) (p16 : Int) (p17 : (List Int)) (p18 : (List (Int × (Int × Int)))) (p19 : (List Int)) (p20 : (List Int)) (p21 : (List (Int × (Int × Int)))) (p22 : (List Int)) : nondet_Concat.l8 p0 p1 p2 p3 p4 p5 p6 p7 p8 p9 p10 p11 p12 p13 p14 p15 p16 p17 p18 p19 p20 p21 p22 =
  ifB (decide (p2 < p1))
   (bindD ((ixAt p0 p2)) fun t341 =>
   nondet_Concat.l11 t341 p0 p1 p2 p10 (((List.length p10) : Nat) : Int) (0 : Int) p3 p4 p5 p6 p7 p8 p9 p10 p11 p12 p13 p14 p15 p16 p17 p18 p19 p20 p21 p22)
  (ifB (decide (p16 > (400 : Int)))
    (some ((0 : Int), ((0 : Int), (([] : (List Int)), (([] : (List (Int × (Int × Int)))), (([] : (List Int)), ((3 : Int), ())))))))
   (ifB (decide ((((List.length p21) : Nat) : Int) > (4000 : Int)))
     (some ((0 : Int), ((0 : Int), (([] : (List Int)), (([] : (List (Int × (Int × Int)))), (([] : (List Int)), ((3 : Int), ())))))))
    (bindD ((Go.Proofs.R.grow (List.length p21))) fun t342 =>
     bindD (sortB false (fun t343 t344 => bindD (nondet_order.f t343.1 t343.2.1 t343.2.2 t344.1 t344.2.1 t344.2.2) fun t345 =>
      some t345.1) p21) fun t346 =>
     some (p15, (p16, (p20, (t346, (p22, ((0 : Int), ()))))))))) := (loopAt_step Go.Proofs.C07.ctx 36 8 _).trans (by kernel_rfl)
theorem ancepsref07_Concat.l8_eq (p0 : Int) (p1 : Int) (p2 : Int) (p3 : (List Int)) (p4 : (List (Int × (Int × Int)))) (p5 : (List Int)) (p6 : Int) (p7 : Int) (p8 : (List Int)) (p9 : (List (Int × (Int × Int)))) (p10 : (List Int)) (p11 : Int) (p12 : Int) (p13 : Int) (p14 : Int) (p15 : (List Int)) (p16 : (List (Int × (Int × Int)))) (p17 : (List Int)) (p18 : (List Int)) (p19 : (List (Int × (Int × Int)))) (p20 : (List Int)) : ancepsref07_Concat.l8 p0 p1 p2 p3 p4 p5 p6 p7 p8 p9 p10 p11 p12 p13 p14 p15 p16 p17 p18 p19 p20 =
  ifB (decide (p0 < (((List.length p5) : Nat) : Int)))
   (ancepsref07_Concat.l11 p0 (0 : Int) p1 p2 p3 p4 p5 p6 p7 p8 p9 p10 p11 p12 p13 p14 p15 p16 p17 p18 p19 p20)
  (bindD (ancepsref07_sorted.f p19) fun t347 =>
   some (p13, (p14, (p18, (t347.1, (p20, ((0 : Int), ()))))))) := (loopAt_step Go.Proofs.C07.ctx 41 8 _).trans (by kernel_rfl)
theorem nondet_Star.l7_eq (p0 : Int) (p1 : (List Int)) (p2 : Int) (p3 : Int) (p4 : Int) (p5 : Int) (p6 : (List Int)) (p7 : (List (Int × (Int × Int)))) (p8 : (List Int)) (p9 : Int) (p10 : Int) (p11 : Int) (p12 : Int) (p13 : (List Int)) (p14 : (List (Int × (Int × Int)))) (p15 : (List Int)) (p16 : (List Int)) (p17 : (List (Int × (Int × Int)))) (p18 : (List Int)) : nondet_Star.l7 p0 p1 p2 p3 p4 p5 p6 p7 p8 p9 p10 p11 p12 p13 p14 p15 p16 p17 p18 =
  ifB (decide (p3 < p2))
   (bindD ((ixAt p1 p3)) fun t348 =>
   bindD ((Go.Proofs.R.grow ((List.length p17) + (List.length ((p0, ((-(1 : Int)), t348)) :: ([] : (List (Int × (Int × Int))))))))) fun t349 =>
   nondet_Star.l7 p0 p1 p2 (Go.IntKind.wrap Go.IntKind.i64 (p3 + (1 : Int))) p4 p5 p6 p7 p8 p9 p10 p11 p12 p13 p14 p15 p16 (p17 ++ ((p0, ((-(1 : Int)), t348)) :: ([] : (List (Int × (Int × Int)))))) p18)
  (nondet_Star.l12 p0 p8 (((List.length p8) : Nat) : Int) (0 : Int) p9 p10 p11 p12 p13 p14 p15 p16 p17 p18) := (loopAt_step Go.Proofs.C07.ctx 35 7 _).trans (by kernel_rfl)
theorem ancepsref07_Star.l8_eq (p0 : Int) (p1 : Int) (p2 : Int) (p3 : Int) (p4 : (List Int)) (p5 : (List (Int × (Int × Int)))) (p6 : (List Int)) (p7 : Int) (p8 : Int) (p9 : Int) (p10 : Int) (p11 : (List Int)) (p12 : (List (Int × (Int × Int)))) (p13 : (List Int)) (p14 : (List Int)) (p15 : (List (Int × (Int × Int)))) (p16 : (List Int)) : ancepsref07_Star.l8 p0 p1 p2 p3 p4 p5 p6 p7 p8 p9 p10 p11 p12 p13 p14 p15 p16 =
  ifB (decide (p1 < (((List.length p4) : Nat) : Int)))
   (bindD ((ixAt p4 p1)) fun t350 =>
   bindD ((Go.Proofs.R.grow ((List.length p15) + (List.length ((p0, ((-(1 : Int)), t350)) :: ([] : (List (Int × (Int × Int))))))))) fun t351 =>
   ancepsref07_Star.l8 p0 (Go.IntKind.wrap Go.IntKind.i64 (p1 + (1 : Int))) p2 p3 p4 p5 p6 p7 p8 p9 p10 p11 p12 p13 p14 (p15 ++ ((p0, ((-(1 : Int)), t350)) :: ([] : (List (Int × (Int × Int)))))) p16)
  (ancepsref07_Star.l12 p0 (0 : Int) p2 p3 p4 p5 p6 p7 p8 p9 p10 p11 p12 p13 p14 p15 p16) := (loopAt_step Go.Proofs.C07.ctx 42 8 _).trans (by kernel_rfl)
theorem ancepsref07_ascending.l2_eq (p0 : (List Int)) (p1 : Int) (p2 : Int) : ancepsref07_ascending.l2 p0 p1 p2 =
  ifB (decide (p2 < (((List.length p0) : Nat) : Int)))
   (bindD ((ixAt p0 p2)) fun t375 =>
   ifB (decide (t375 < (0 : Int)))
    (some (false, ()))
   (bindD ((ixAt p0 p2)) fun t376 =>
    ifB (decide (t376 ≥ p1))
     (some (false, ()))
    (ifB (decide (p2 > (0 : Int)))
      (bindD ((ixAt p0 p2)) fun t377 =>
      bindD ((ixAt p0 (Go.IntKind.wrap Go.IntKind.i64 (p2 - (1 : Int))))) fun t378 =>
      ifB (decide (t377 ≤ t378))
       (some (false, ()))
      (ancepsref07_ascending.l2 p0 p1 (Go.IntKind.wrap Go.IntKind.i64 (p2 + (1 : Int)))))
     (ancepsref07_ascending.l2 p0 p1 (Go.IntKind.wrap Go.IntKind.i64 (p2 + (1 : Int)))))))
  (some (true, ())) := (loopAt_step Go.Proofs.C07.ctx 44 2 _).trans (by kernel_rfl)
theorem ancepsref07_ahead.f_eq (p0 : Int) (p1 : Int) (p2 : Int) (p3 : Int) (p4 : Int) (p5 : Int) : ancepsref07_ahead.f p0 p1 p2 p3 p4 p5 =
  ifB (p0 != p3)
   (some ((decide (p0 < p3)), ()))
  (ifB (p1 != p4)
    (some ((decide (p1 < p4)), ()))
   (some ((decide (p2 < p5)), ()))) := (Einf_call Go.Proofs.C07.ctx 45 _).trans (by kernel_rfl)
theorem ancepsref07_closed.l3_eq (p0 : (List Int)) (p1 : Int) (p2 : Int) (p3 : Int) (p4 : (List Int)) (p5 : (List (Int × (Int × Int)))) (p6 : (List Int)) (p7 : (List Bool)) : ancepsref07_closed.l3 p0 p1 p2 p3 p4 p5 p6 p7 =
  ifB (decide (p1 < (((List.length p0) : Nat) : Int)))
   (bindD ((ixAt p0 p1)) fun t416 =>
   bindD ((ixAt p7 t416)) fun t417 =>
   bindD ((ixAt p7 t416)) fun t418 =>
   ancepsref07_closed.l3 p0 (Go.IntKind.wrap Go.IntKind.i64 (p1 + (1 : Int))) p2 p3 p4 p5 p6 (setRow p7 t416 true))
  (ancepsref07_closed.l7 true p2 p3 p4 p5 p6 p7) := (loopAt_step Go.Proofs.C07.ctx 54 3 _).trans (by kernel_rfl)
theorem ancepsref07_Determine.l14_eq (p0 : Int) (p1 : Int) (p2 : Int) (p3 : Int) (p4 : (List Int)) (p5 : (List (Int × (Int × Int)))) (p6 : (List Int)) (p7 : Int) (p8 : Int) (p9 : Int) (p10 : Int) (p11 : (List (List Int))) (p12 : (List Int)) (p13 : (List (List Int))) (p14 : (List Bool)) (p15 : (List (List Int))) (p16 : (List Bool)) : ancepsref07_Determine.l14 p0 p1 p2 p3 p4 p5 p6 p7 p8 p9 p10 p11 p12 p13 p14 p15 p16 =
  ifB (decide (p1 < p2))
   (bindD ((ixAt p11 p0)) fun t419 =>
   bindD ((ixAt p11 p0)) fun t420 =>
   bindD (ancepsref07_next.f p2 p3 p4 p5 p6 t420 p1) fun t421 =>
   ifB (decide ((((List.length t421.1) : Nat) : Int) > (0 : Int)))
    (bindD (ancepsref07_find.f p11 t421.1) fun t422 =>
    ifB (decide ((((List.length t421.1) : Nat) : Int) > (0 : Int)))
     (ifB (decide (t422.1 < (0 : Int)))
      (bindD ((Go.Proofs.R.grow ((List.length p11) + (List.length (t421.1 :: ([] : (List (List Int)))))))) fun t423 =>
      ifB (decide ((((List.length (p11 ++ (t421.1 :: ([] : (List (List Int)))))) : Nat) : Int) > (400 : Int)))
       (some ((0 : Int), ((0 : Int), (([] : (List (List Int))), (([] : (List Bool)), ((3 : Int), ()))))))
      (bindD ((Go.Proofs.R.grow ((List.length p12) + (List.length ((((List.length p11) : Nat) : Int) :: ([] : (List Int))))))) fun t424 =>
       ancepsref07_Determine.l14 p0 (Go.IntKind.wrap Go.IntKind.i64 (p1 + (1 : Int))) p2 p3 p4 p5 p6 p7 p8 p9 p10 (p11 ++ (t421.1 :: ([] : (List (List Int))))) (p12 ++ ((((List.length p11) : Nat) : Int) :: ([] : (List Int)))) p13 p14 p15 p16))
     (bindD ((Go.Proofs.R.grow ((List.length p12) + (List.length (t422.1 :: ([] : (List Int))))))) fun t425 =>
      ancepsref07_Determine.l14 p0 (Go.IntKind.wrap Go.IntKind.i64 (p1 + (1 : Int))) p2 p3 p4 p5 p6 p7 p8 p9 p10 p11 (p12 ++ (t422.1 :: ([] : (List Int)))) p13 p14 p15 p16))
    (bindD ((Go.Proofs.R.grow ((List.length p12) + (List.length (t422.1 :: ([] : (List Int))))))) fun t426 =>
     ancepsref07_Determine.l14 p0 (Go.IntKind.wrap Go.IntKind.i64 (p1 + (1 : Int))) p2 p3 p4 p5 p6 p7 p8 p9 p10 p11 (p12 ++ (t422.1 :: ([] : (List Int)))) p13 p14 p15 p16))
   (ifB (decide ((((List.length t421.1) : Nat) : Int) > (0 : Int)))
     (bindD ((Go.Proofs.R.grow ((List.length p11) + (List.length (t421.1 :: ([] : (List (List Int)))))))) fun t427 =>
     ifB (decide ((((List.length (p11 ++ (t421.1 :: ([] : (List (List Int)))))) : Nat) : Int) > (400 : Int)))
      (some ((0 : Int), ((0 : Int), (([] : (List (List Int))), (([] : (List Bool)), ((3 : Int), ()))))))
     (bindD ((Go.Proofs.R.grow ((List.length p12) + (List.length ((((List.length p11) : Nat) : Int) :: ([] : (List Int))))))) fun t428 =>
      ancepsref07_Determine.l14 p0 (Go.IntKind.wrap Go.IntKind.i64 (p1 + (1 : Int))) p2 p3 p4 p5 p6 p7 p8 p9 p10 (p11 ++ (t421.1 :: ([] : (List (List Int))))) (p12 ++ ((((List.length p11) : Nat) : Int) :: ([] : (List Int)))) p13 p14 p15 p16))
    (bindD ((Go.Proofs.R.grow ((List.length p12) + (List.length ((-(1 : Int)) :: ([] : (List Int))))))) fun t429 =>
     ancepsref07_Determine.l14 p0 (Go.IntKind.wrap Go.IntKind.i64 (p1 + (1 : Int))) p2 p3 p4 p5 p6 p7 p8 p9 p10 p11 (p12 ++ ((-(1 : Int)) :: ([] : (List Int)))) p13 p14 p15 p16)))
  (bindD ((Go.Proofs.R.grow ((List.length p15) + (List.length (p12 :: ([] : (List (List Int)))))))) fun t430 =>
   bindD ((ixAt p11 p0)) fun t431 =>
   bindD ((ixAt p11 p0)) fun t432 =>
   bindD (ancepsref07_meets.f t432 p6) fun t433 =>
   bindD ((Go.Proofs.R.grow ((List.length p16) + (List.length (t433.1 :: ([] : (List Bool))))))) fun t434 =>
   ancepsref07_Determine.l10 (Go.IntKind.wrap Go.IntKind.i64 (p0 + (1 : Int))) p2 p3 p4 p5 p6 p7 p8 p9 p10 p11 p13 p14 (p15 ++ (p12 :: ([] : (List (List Int))))) (p16 ++ (t433.1 :: ([] : (List Bool))))) := (loopAt_step Go.Proofs.C07.ctx 16 14 _).trans (by kernel_rfl)
theorem ancepsref06_Equal.f_eq (p0 : (List Int)) (p1 : (List Int)) : ancepsref06_Equal.f p0 p1 =
  ifB ((((List.length p0) : Nat) : Int) != (((List.length p1) : Nat) : Int))
   (some (false, ()))
  (ancepsref06_Equal.l4 p0 p1 (0 : Int)) := (Einf_call Go.Proofs.C07.ctx 58 _).trans (by kernel_rfl)
theorem ancepsref06_SameDFA.l9_eq (p0 : Int) (p1 : Int) (p2 : Int) (p3 : (List (List Int))) (p4 : (List Bool)) (p5 : Int) (p6 : Int) (p7 : (List (List Int))) (p8 : (List Bool)) : ancepsref06_SameDFA.l9 p0 p1 p2 p3 p4 p5 p6 p7 p8 =
  ifB (decide (p0 < (((List.length p4) : Nat) : Int)))
   (bindD ((ixAt p4 p0)) fun t435 =>
   bindD ((ixAt p8 p0)) fun t436 =>
   ifB (!(t435 == t436))
    (some (false, ()))
   (ancepsref06_SameDFA.l9 (Go.IntKind.wrap Go.IntKind.i64 (p0 + (1 : Int))) p1 p2 p3 p4 p5 p6 p7 p8))
  (some (true, ())) := (loopAt_step Go.Proofs.C07.ctx 17 9 _).trans (by kernel_rfl)
theorem nondet_ascends.l2_eq (p0 : (List Int)) (p1 : Int) (p2 : (List Int)) (p3 : Int) (p4 : Int) : nondet_ascends.l2 p0 p1 p2 p3 p4 =
  ifB (decide (p4 < p3))
   (bindD ((ixAt p2 p4)) fun t444 =>
   ifB (decide (t444 < (0 : Int)))
    (some (false, ()))
   (ifB (decide (t444 ≥ p1))
     (some (false, ()))
    (ifB (decide (p4 > (0 : Int)))
      (bindD ((ixAt p0 (Go.IntKind.wrap Go.IntKind.i64 (p4 - (1 : Int))))) fun t445 =>
      ifB (decide (t445 ≥ t444))
       (some (false, ()))
      (nondet_ascends.l2 p0 p1 p2 p3 (Go.IntKind.wrap Go.IntKind.i64 (p4 + (1 : Int)))))
     (nondet_ascends.l2 p0 p1 p2 p3 (Go.IntKind.wrap Go.IntKind.i64 (p4 + (1 : Int)))))))
  (some (true, ())) := (loopAt_step Go.Proofs.C07.ctx 64 2 _).trans (by kernel_rfl)
theorem ancepsref06_Valid.l12_eq (p0 : Int) (p1 : Int) (p2 : Int) (p3 : Int) (p4 : Int) (p5 : (List (List Int))) (p6 : (List Bool)) : ancepsref06_Valid.l12 p0 p1 p2 p3 p4 p5 p6 =
  ifB (decide (p2 < p3))
   (bindD ((ixAt p5 p1)) fun t446 =>
   bindD ((ixAt t446 p2)) fun t447 =>
   ifB (decide (t447 < (-(1 : Int))))
    (some ((1 : Int), ()))
   (bindD ((ixAt p5 p1)) fun t448 =>
    bindD ((ixAt t448 p2)) fun t449 =>
    ifB (decide (t449 ≥ p0))
     (some ((1 : Int), ()))
    (ancepsref06_Valid.l12 p0 p1 (Go.IntKind.wrap Go.IntKind.i64 (p2 + (1 : Int))) p3 p4 p5 p6)))
  (ancepsref06_Valid.l7 p0 (Go.IntKind.wrap Go.IntKind.i64 (p1 + (1 : Int))) p3 p4 p5 p6) := (loopAt_step Go.Proofs.C07.ctx 28 12 _).trans (by kernel_rfl)
theorem ancepsref06_classes.f_eq (p0 : Int) (p1 : Int) (p2 : (List (List Int))) (p3 : (List Bool)) : ancepsref06_classes.f p0 p1 p2 p3 =
  bindD (ancepsref06_Live.f p0 p1 p2 p3) fun t456 =>
  bindD ((Go.Proofs.R.mkLen (((List.length p2) : Nat) : Int) (((List.length p2) : Nat) : Int))) fun t457 =>
  ancepsref06_classes.l4 (0 : Int) p0 p1 p2 p3 t456.1 (List.replicate t457 (0 : Int)) := (Einf_call Go.Proofs.C07.ctx 89 _).trans (by kernel_rfl)
theorem ancepsref06_minimal.l9_eq (p0 : Int) (p1 : Int) (p2 : Int) (p3 : (List (List Int))) (p4 : (List Bool)) (p5 : Int) (p6 : Int) (p7 : Int) (p8 : Int) (p9 : (List Int)) (p10 : (List Int)) (p11 : (List (Int × Int))) (p12 : (List (List Int))) (p13 : (List Bool)) (p14 : (List (List Int))) (p15 : (List Bool)) : ancepsref06_minimal.l9 p0 p1 p2 p3 p4 p5 p6 p7 p8 p9 p10 p11 p12 p13 p14 p15 =
  ifB (decide (p0 < (((List.length p10) : Nat) : Int)))
   (ancepsref06_minimal.l13 p0 (0 : Int) p1 p2 p3 p4 p5 p6 p7 p8 p9 p10 p11 ([] : (List Int)) p12 p13 p14 p15)
  (some (p7, (p8, (p14, (p15, ()))))) := (loopAt_step Go.Proofs.C07.ctx 67 9 _).trans (by kernel_rfl)
theorem ancepsref07_sorted.f_eq (p0 : (List (Int × (Int × Int)))) : ancepsref07_sorted.f p0 =
  ancepsref07_sorted.l3 p0 (0 : Int) ([] : (List (Int × (Int × Int)))) := (Einf_call Go.Proofs.C07.ctx 69 _).trans (by kernel_rfl)
theorem nondet_beside.l5_eq (p0 : (List (Int × (Int × Int)))) (p1 : Int) (p2 : Int) (p3 : Int) (p4 : Int) (p5 : (List Int)) (p6 : (List (Int × (Int × Int)))) (p7 : (List Int)) (p8 : Int) (p9 : Int) (p10 : Int) (p11 : Int) (p12 : (List Int)) (p13 : (List (Int × (Int × Int)))) (p14 : (List Int)) (p15 : (List Int)) (p16 : (List (Int × (Int × Int)))) (p17 : (List Int)) : nondet_beside.l5 p0 p1 p2 p3 p4 p5 p6 p7 p8 p9 p10 p11 p12 p13 p14 p15 p16 p17 =
  ifB (decide (p2 < p1))
   (bindD ((ixAt p0 p2)) fun t458 =>
   bindD ((Go.Proofs.R.grow ((List.length p16) + (List.length (((Go.IntKind.wrap Go.IntKind.i64 (t458.1 + p4)), (t458.2.1, (Go.IntKind.wrap Go.IntKind.i64 (t458.2.2 + p4)))) :: ([] : (List (Int × (Int × Int))))))))) fun t459 =>
   nondet_beside.l5 p0 p1 (Go.IntKind.wrap Go.IntKind.i64 (p2 + (1 : Int))) p3 p4 p5 p6 p7 p8 p9 p10 p11 p12 p13 p14 p15 (p16 ++ (((Go.IntKind.wrap Go.IntKind.i64 (t458.1 + p4)), (t458.2.1, (Go.IntKind.wrap Go.IntKind.i64 (t458.2.2 + p4)))) :: ([] : (List (Int × (Int × Int)))))) p17)
  (some (p10, (p11, (p15, (p16, (p17, ((0 : Int), ()))))))) := (loopAt_step Go.Proofs.C07.ctx 71 5 _).trans (by kernel_rfl)
theorem nondet_moved.l3_eq (p0 : Int) (p1 : (List Int)) (p2 : Int) (p3 : Int) (p4 : (List Int)) : nondet_moved.l3 p0 p1 p2 p3 p4 =
  ifB (decide (p3 < p2))
   (bindD ((ixAt p1 p3)) fun t460 =>
   bindD ((Go.Proofs.R.grow ((List.length p4) + (List.length ((Go.IntKind.wrap Go.IntKind.i64 (t460 + p0)) :: ([] : (List Int))))))) fun t461 =>
   nondet_moved.l3 p0 p1 p2 (Go.IntKind.wrap Go.IntKind.i64 (p3 + (1 : Int))) (p4 ++ ((Go.IntKind.wrap Go.IntKind.i64 (t460 + p0)) :: ([] : (List Int)))))
  (some (p4, ())) := (loopAt_step Go.Proofs.C07.ctx 72 3 _).trans (by kernel_rfl)
theorem cmp_Compare_int.f_eq (p0 : Int) (p1 : Int) : cmp_Compare_int.f p0 p1 =
  bindD (cmp_isNaN_int.f p0) fun t462 =>
  bindD (cmp_isNaN_int.f p1) fun t463 =>
  ifB t462.1
   (ifB t463.1
    (some ((0 : Int), ()))
   (some ((-(1 : Int)), ())))
  (ifB t463.1
    (some ((1 : Int), ()))
   (ifB (decide (p0 < p1))
     (some ((-(1 : Int)), ()))
    (ifB (decide (p0 > p1))
      (some ((1 : Int), ()))
     (some ((0 : Int), ()))))) := (Einf_call Go.Proofs.C07.ctx 87 _).trans (by kernel_rfl)
theorem cmp_Or_int.f_eq (p0 : (List Int)) : cmp_Or_int.f p0 =
  cmp_Or_int.l3 (0 : Int) p0 (((List.length p0) : Nat) : Int) (0 : Int) := (Einf_call Go.Proofs.C07.ctx 86 _).trans (by kernel_rfl)
theorem ancepsref07_both.l4_eq (p0 : Int) (p1 : Int) (p2 : Int) (p3 : (List Int)) (p4 : (List (Int × (Int × Int)))) (p5 : (List Int)) (p6 : Int) (p7 : Int) (p8 : (List Int)) (p9 : (List (Int × (Int × Int)))) (p10 : (List Int)) (p11 : Int) (p12 : Int) (p13 : Int) (p14 : Int) (p15 : (List Int)) (p16 : (List (Int × (Int × Int)))) (p17 : (List Int)) (p18 : (List Int)) (p19 : (List (Int × (Int × Int)))) (p20 : (List Int)) : ancepsref07_both.l4 p0 p1 p2 p3 p4 p5 p6 p7 p8 p9 p10 p11 p12 p13 p14 p15 p16 p17 p18 p19 p20 =
  ifB (decide (p0 < (((List.length p9) : Nat) : Int)))
   (bindD ((ixAt p9 p0)) fun t464 =>
   bindD ((Go.Proofs.R.grow ((List.length p19) + (List.length (((Go.IntKind.wrap Go.IntKind.i64 (t464.1 + p2)), (t464.2.1, (Go.IntKind.wrap Go.IntKind.i64 (t464.2.2 + p2)))) :: ([] : (List (Int × (Int × Int))))))))) fun t465 =>
   ancepsref07_both.l4 (Go.IntKind.wrap Go.IntKind.i64 (p0 + (1 : Int))) p1 p2 p3 p4 p5 p6 p7 p8 p9 p10 p11 p12 p13 p14 p15 p16 p17 p18 (p19 ++ (((Go.IntKind.wrap Go.IntKind.i64 (t464.1 + p2)), (t464.2.1, (Go.IntKind.wrap Go.IntKind.i64 (t464.2.2 + p2)))) :: ([] : (List (Int × (Int × Int)))))) p20)
  (some (p13, (p14, (p18, (p19, (p20, ())))))) := (loopAt_step Go.Proofs.C07.ctx 75 4 _).trans (by kernel_rfl)
theorem ancepsref07_moved.l3_eq (p0 : (List Int)) (p1 : Int) (p2 : Int) (p3 : (List Int)) : ancepsref07_moved.l3 p0 p1 p2 p3 =
  ifB (decide (p2 < (((List.length p0) : Nat) : Int)))
   (bindD ((ixAt p0 p2)) fun t466 =>
   bindD ((Go.Proofs.R.grow ((List.length p3) + (List.length ((Go.IntKind.wrap Go.IntKind.i64 (t466 + p1)) :: ([] : (List Int))))))) fun t467 =>
   ancepsref07_moved.l3 p0 p1 (Go.IntKind.wrap Go.IntKind.i64 (p2 + (1 : Int))) (p3 ++ ((Go.IntKind.wrap Go.IntKind.i64 (t466 + p1)) :: ([] : (List Int)))))
  (some (p3, ())) := (loopAt_step Go.Proofs.C07.ctx 76 3 _).trans (by kernel_rfl)
theorem nondet_Concat.l11_eq (p0 : Int) (p1 : (List Int)) (p2 : Int) (p3 : Int) (p4 : (List Int)) (p5 : Int) (p6 : Int) (p7 : Int) (p8 : Int) (p9 : (List Int)) (p10 : (List (Int × (Int × Int)))) (p11 : (List Int)) (p12 : Int) (p13 : Int) (p14 : (List Int)) (p15 : (List (Int × (Int × Int)))) (p16 : (List Int)) (p17 : Int) (p18 : Int) (p19 : Int) (p20 : Int) (p21 : (List Int)) (p22 : (List (Int × (Int × Int)))) (p23 : (List Int)) (p24 : (List Int)) (p25 : (List (Int × (Int × Int)))) (p26 : (List Int)) : nondet_Concat.l11 p0 p1 p2 p3 p4 p5 p6 p7 p8 p9 p10 p11 p12 p13 p14 p15 p16 p17 p18 p19 p20 p21 p22 p23 p24 p25 p26 =
  ifB (decide (p6 < p5))
   (bindD ((ixAt p4 p6)) fun t468 =>
   bindD ((Go.Proofs.R.grow ((List.length p25) + (List.length ((p0, ((-(1 : Int)), (Go.IntKind.wrap Go.IntKind.i64 (t468 + p8)))) :: ([] : (List (Int × (Int × Int))))))))) fun t469 =>
   nondet_Concat.l11 p0 p1 p2 p3 p4 p5 (Go.IntKind.wrap Go.IntKind.i64 (p6 + (1 : Int))) p7 p8 p9 p10 p11 p12 p13 p14 p15 p16 p17 p18 p19 p20 p21 p22 p23 p24 (p25 ++ ((p0, ((-(1 : Int)), (Go.IntKind.wrap Go.IntKind.i64 (t468 + p8)))) :: ([] : (List (Int × (Int × Int)))))) p26)
  (nondet_Concat.l8 p1 p2 (Go.IntKind.wrap Go.IntKind.i64 (p3 + (1 : Int))) p7 p8 p9 p10 p11 p12 p13 p14 p15 p16 p17 p18 p19 p20 p21 p22 p23 p24 p25 p26) := (loopAt_step Go.Proofs.C07.ctx 36 11 _).trans (by kernel_rfl)
theorem ancepsref07_Concat.l11_eq (p0 : Int) (p1 : Int) (p2 : Int) (p3 : Int) (p4 : (List Int)) (p5 : (List (Int × (Int × Int)))) (p6 : (List Int)) (p7 : Int) (p8 : Int) (p9 : (List Int)) (p10 : (List (Int × (Int × Int)))) (p11 : (List Int)) (p12 : Int) (p13 : Int) (p14 : Int) (p15 : Int) (p16 : (List Int)) (p17 : (List (Int × (Int × Int)))) (p18 : (List Int)) (p19 : (List Int)) (p20 : (List (Int × (Int × Int)))) (p21 : (List Int)) : ancepsref07_Concat.l11 p0 p1 p2 p3 p4 p5 p6 p7 p8 p9 p10 p11 p12 p13 p14 p15 p16 p17 p18 p19 p20 p21 =
  ifB (decide (p1 < (((List.length p9) : Nat) : Int)))
   (bindD ((ixAt p6 p0)) fun t470 =>
   bindD ((ixAt p9 p1)) fun t471 =>
   bindD ((Go.Proofs.R.grow ((List.length p20) + (List.length ((t470, ((-(1 : Int)), (Go.IntKind.wrap Go.IntKind.i64 (t471 + p3)))) :: ([] : (List (Int × (Int × Int))))))))) fun t472 =>
   ancepsref07_Concat.l11 p0 (Go.IntKind.wrap Go.IntKind.i64 (p1 + (1 : Int))) p2 p3 p4 p5 p6 p7 p8 p9 p10 p11 p12 p13 p14 p15 p16 p17 p18 p19 (p20 ++ ((t470, ((-(1 : Int)), (Go.IntKind.wrap Go.IntKind.i64 (t471 + p3)))) :: ([] : (List (Int × (Int × Int)))))) p21)
  (ancepsref07_Concat.l8 (Go.IntKind.wrap Go.IntKind.i64 (p0 + (1 : Int))) p2 p3 p4 p5 p6 p7 p8 p9 p10 p11 p12 p13 p14 p15 p16 p17 p18 p19 p20 p21) := (loopAt_step Go.Proofs.C07.ctx 41 11 _).trans (by kernel_rfl)
theorem nondet_Star.l12_eq (p0 : Int) (p1 : (List Int)) (p2 : Int) (p3 : Int) (p4 : Int) (p5 : Int) (p6 : Int) (p7 : Int) (p8 : (List Int)) (p9 : (List (Int × (Int × Int)))) (p10 : (List Int)) (p11 : (List Int)) (p12 : (List (Int × (Int × Int)))) (p13 : (List Int)) : nondet_Star.l12 p0 p1 p2 p3 p4 p5 p6 p7 p8 p9 p10 p11 p12 p13 =
  ifB (decide (p3 < p2))
   (bindD ((ixAt p1 p3)) fun t473 =>
   bindD ((Go.Proofs.R.grow ((List.length p12) + (List.length ((t473, ((-(1 : Int)), p0)) :: ([] : (List (Int × (Int × Int))))))))) fun t474 =>
   nondet_Star.l12 p0 p1 p2 (Go.IntKind.wrap Go.IntKind.i64 (p3 + (1 : Int))) p4 p5 p6 p7 p8 p9 p10 p11 (p12 ++ ((t473, ((-(1 : Int)), p0)) :: ([] : (List (Int × (Int × Int)))))) p13)
  (ifB (decide (p7 > (400 : Int)))
    (some ((0 : Int), ((0 : Int), (([] : (List Int)), (([] : (List (Int × (Int × Int)))), (([] : (List Int)), ((3 : Int), ())))))))
   (ifB (decide ((((List.length p12) : Nat) : Int) > (4000 : Int)))
     (some ((0 : Int), ((0 : Int), (([] : (List Int)), (([] : (List (Int × (Int × Int)))), (([] : (List Int)), ((3 : Int), ())))))))
    (bindD ((Go.Proofs.R.grow (List.length p12))) fun t475 =>
     bindD (sortB false (fun t476 t477 => bindD (nondet_order.f t476.1 t476.2.1 t476.2.2 t477.1 t477.2.1 t477.2.2) fun t478 =>
      some t478.1) p12) fun t479 =>
     some (p6, (p7, (p11, (t479, (p13, ((0 : Int), ()))))))))) := (loopAt_step Go.Proofs.C07.ctx 35 12 _).trans (by kernel_rfl)
theorem ancepsref07_Star.l12_eq (p0 : Int) (p1 : Int) (p2 : Int) (p3 : Int) (p4 : (List Int)) (p5 : (List (Int × (Int × Int)))) (p6 : (List Int)) (p7 : Int) (p8 : Int) (p9 : Int) (p10 : Int) (p11 : (List Int)) (p12 : (List (Int × (Int × Int)))) (p13 : (List Int)) (p14 : (List Int)) (p15 : (List (Int × (Int × Int)))) (p16 : (List Int)) : ancepsref07_Star.l12 p0 p1 p2 p3 p4 p5 p6 p7 p8 p9 p10 p11 p12 p13 p14 p15 p16 =
  ifB (decide (p1 < (((List.length p6) : Nat) : Int)))
   (bindD ((ixAt p6 p1)) fun t480 =>
   bindD ((Go.Proofs.R.grow ((List.length p15) + (List.length ((t480, ((-(1 : Int)), p0)) :: ([] : (List (Int × (Int × Int))))))))) fun t481 =>
   ancepsref07_Star.l12 p0 (Go.IntKind.wrap Go.IntKind.i64 (p1 + (1 : Int))) p2 p3 p4 p5 p6 p7 p8 p9 p10 p11 p12 p13 p14 (p15 ++ ((t480, ((-(1 : Int)), p0)) :: ([] : (List (Int × (Int × Int)))))) p16)
  (bindD (ancepsref07_large.f p9 p10 p14 p15 p16) fun t482 =>
   ifB t482.1
    (some ((0 : Int), ((0 : Int), (([] : (List Int)), (([] : (List (Int × (Int × Int)))), (([] : (List Int)), ((3 : Int), ())))))))
   (bindD (ancepsref07_sorted.f p15) fun t483 =>
    some (p9, (p10, (p14, (t483.1, (p16, ((0 : Int), ())))))))) := (loopAt_step Go.Proofs.C07.ctx 42 12 _).trans (by kernel_rfl)
theorem ancepsref07_closed.l7_eq (p0 : Bool) (p1 : Int) (p2 : Int) (p3 : (List Int)) (p4 : (List (Int × (Int × Int)))) (p5 : (List Int)) (p6 : (List Bool)) : ancepsref07_closed.l7 p0 p1 p2 p3 p4 p5 p6 =
  ifB p0
   (ancepsref07_closed.l10 false (0 : Int) p1 p2 p3 p4 p5 p6)
  (bindD (ancepsref07_members.f p6) fun t500 =>
   some (t500.1, ())) := (loopAt_step Go.Proofs.C07.ctx 54 7 _).trans (by kernel_rfl)
theorem ancepsref07_next.f_eq (p0 : Int) (p1 : Int) (p2 : (List Int)) (p3 : (List (Int × (Int × Int)))) (p4 : (List Int)) (p5 : (List Int)) (p6 : Int) : ancepsref07_next.f p0 p1 p2 p3 p4 p5 p6 =
  bindD ((Go.Proofs.R.mkLen p1 p1)) fun t501 =>
  ancepsref07_next.l3 p5 p6 (0 : Int) p0 p1 p2 p3 p4 (List.replicate t501 false) := (Einf_call Go.Proofs.C07.ctx 55 _).trans (by kernel_rfl)
theorem ancepsref07_find.f_eq (p0 : (List (List Int))) (p1 : (List Int)) : ancepsref07_find.f p0 p1 =
  ancepsref07_find.l2 p0 p1 (0 : Int) := (Einf_call Go.Proofs.C07.ctx 56 _).trans (by kernel_rfl)
theorem ancepsref07_meets.f_eq (p0 : (List Int)) (p1 : (List Int)) : ancepsref07_meets.f p0 p1 =
  ancepsref07_meets.l2 p0 p1 (0 : Int) := (Einf_call Go.Proofs.C07.ctx 57 _).trans (by kernel_rfl)
theorem ancepsref06_Equal.l4_eq (p0 : (List Int)) (p1 : (List Int)) (p2 : Int) : ancepsref06_Equal.l4 p0 p1 p2 =
  ifB (decide (p2 < (((List.length p0) : Nat) : Int)))
   (bindD ((ixAt p0 p2)) fun t502 =>
   bindD ((ixAt p1 p2)) fun t503 =>
   ifB (t502 != t503)
    (some (false, ()))
   (ancepsref06_Equal.l4 p0 p1 (Go.IntKind.wrap Go.IntKind.i64 (p2 + (1 : Int)))))
  (some (true, ())) := (loopAt_step Go.Proofs.C07.ctx 58 4 _).trans (by kernel_rfl)
theorem ancepsref06_Live.f_eq (p0 : Int) (p1 : Int) (p2 : (List (List Int))) (p3 : (List Bool)) : ancepsref06_Live.f p0 p1 p2 p3 =
  bindD ((Go.Proofs.R.grow ((List.length ([] : (List Bool))) + (List.length p3)))) fun t516 =>
  ancepsref06_Live.l3 true p0 p1 p2 p3 (([] : (List Bool)) ++ p3) := (Einf_call Go.Proofs.C07.ctx 95 _).trans (by kernel_rfl)
theorem ancepsref06_classes.l4_eq (p0 : Int) (p1 : Int) (p2 : Int) (p3 : (List (List Int))) (p4 : (List Bool)) (p5 : (List Bool)) (p6 : (List Int)) : ancepsref06_classes.l4 p0 p1 p2 p3 p4 p5 p6 =
  ifB (decide (p0 < (((List.length p6) : Nat) : Int)))
   (bindD ((ixAt p5 p0)) fun t517 =>
   bindD ((ixAt p5 p0)) fun t518 =>
   ifB t518
    (bindD ((ixAt p6 p0)) fun t519 =>
    bindD ((ixAt p6 p0)) fun t520 =>
    bindD ((ixAt p4 p0)) fun t521 =>
    ifB t521
     (bindD ((ixAt (setRow p6 p0 (1 : Int)) p0)) fun t522 =>
     bindD ((ixAt (setRow p6 p0 (1 : Int)) p0)) fun t523 =>
     ancepsref06_classes.l4 (Go.IntKind.wrap Go.IntKind.i64 (p0 + (1 : Int))) p1 p2 p3 p4 p5 (setRow (setRow p6 p0 (1 : Int)) p0 (2 : Int)))
    (ancepsref06_classes.l4 (Go.IntKind.wrap Go.IntKind.i64 (p0 + (1 : Int))) p1 p2 p3 p4 p5 (setRow p6 p0 (1 : Int))))
   (ancepsref06_classes.l4 (Go.IntKind.wrap Go.IntKind.i64 (p0 + (1 : Int))) p1 p2 p3 p4 p5 p6))
  (ancepsref06_classes.l11 (0 : Int) p1 p2 p3 p4 p5 p6) := (loopAt_step Go.Proofs.C07.ctx 89 4 _).trans (by kernel_rfl)
theorem ancepsref06_minimal.l13_eq (p0 : Int) (p1 : Int) (p2 : Int) (p3 : Int) (p4 : (List (List Int))) (p5 : (List Bool)) (p6 : Int) (p7 : Int) (p8 : Int) (p9 : Int) (p10 : (List Int)) (p11 : (List Int)) (p12 : (List (Int × Int))) (p13 : (List Int)) (p14 : (List (List Int))) (p15 : (List Bool)) (p16 : (List (List Int))) (p17 : (List Bool)) : ancepsref06_minimal.l13 p0 p1 p2 p3 p4 p5 p6 p7 p8 p9 p10 p11 p12 p13 p14 p15 p16 p17 =
  ifB (decide (p1 < p2))
   (bindD ((ixAt p11 p0)) fun t524 =>
   bindD ((ixAt p11 p0)) fun t525 =>
   bindD ((ixAt p4 t525)) fun t526 =>
   bindD ((ixAt t526 p1)) fun t527 =>
   ifB (decide (t527 < (0 : Int)))
    (bindD ((Go.Proofs.R.grow ((List.length p13) + (List.length ((-(1 : Int)) :: ([] : (List Int))))))) fun t528 =>
    ancepsref06_minimal.l13 p0 (Go.IntKind.wrap Go.IntKind.i64 (p1 + (1 : Int))) p2 p3 p4 p5 p6 p7 p8 p9 p10 p11 p12 (p13 ++ ((-(1 : Int)) :: ([] : (List Int)))) p14 p15 p16 p17)
   (bindD ((ixAt p10 t527)) fun t529 =>
    bindD ((ixAt p10 t527)) fun t530 =>
    ifB (t530 == (0 : Int))
     (bindD ((Go.Proofs.R.grow ((List.length p13) + (List.length ((-(1 : Int)) :: ([] : (List Int))))))) fun t531 =>
     ancepsref06_minimal.l13 p0 (Go.IntKind.wrap Go.IntKind.i64 (p1 + (1 : Int))) p2 p3 p4 p5 p6 p7 p8 p9 p10 p11 p12 (p13 ++ ((-(1 : Int)) :: ([] : (List Int)))) p14 p15 p16 p17)
    (bindD ((ixAt p10 t527)) fun t532 =>
     bindD ((ixAt p10 t527)) fun t533 =>
     ifB (!(Go.Proofs.R.mget (Go.Proofs.R.Ty.int Go.IntKind.i64) (0 : Int) t533 p12).2)
      (bindD ((ixAt p10 t527)) fun t534 =>
      bindD ((ixAt p10 t527)) fun t535 =>
      bindD ((Go.Proofs.R.grow ((List.length p11) + (List.length (t527 :: ([] : (List Int))))))) fun t536 =>
      bindD ((Go.Proofs.R.grow ((List.length p13) + (List.length ((((List.length p11) : Nat) : Int) :: ([] : (List Int))))))) fun t537 =>
      ancepsref06_minimal.l13 p0 (Go.IntKind.wrap Go.IntKind.i64 (p1 + (1 : Int))) p2 p3 p4 p5 p6 p7 p8 p9 p10 (p11 ++ (t527 :: ([] : (List Int)))) (Go.Proofs.R.mput (Go.Proofs.R.Ty.int Go.IntKind.i64) t535 (((List.length p11) : Nat) : Int) p12) (p13 ++ ((((List.length p11) : Nat) : Int) :: ([] : (List Int)))) p14 p15 p16 p17)
     (bindD ((Go.Proofs.R.grow ((List.length p13) + (List.length ((Go.Proofs.R.mget (Go.Proofs.R.Ty.int Go.IntKind.i64) (0 : Int) t533 p12).1 :: ([] : (List Int))))))) fun t538 =>
      ancepsref06_minimal.l13 p0 (Go.IntKind.wrap Go.IntKind.i64 (p1 + (1 : Int))) p2 p3 p4 p5 p6 p7 p8 p9 p10 p11 p12 (p13 ++ ((Go.Proofs.R.mget (Go.Proofs.R.Ty.int Go.IntKind.i64) (0 : Int) t533 p12).1 :: ([] : (List Int)))) p14 p15 p16 p17))))
  (bindD ((Go.Proofs.R.grow ((List.length p16) + (List.length (p13 :: ([] : (List (List Int)))))))) fun t539 =>
   bindD ((ixAt p11 p0)) fun t540 =>
   bindD ((ixAt p11 p0)) fun t541 =>
   bindD ((ixAt p5 t541)) fun t542 =>
   bindD ((Go.Proofs.R.grow ((List.length p17) + (List.length (t542 :: ([] : (List Bool))))))) fun t543 =>
   ancepsref06_minimal.l9 (Go.IntKind.wrap Go.IntKind.i64 (p0 + (1 : Int))) p2 p3 p4 p5 p6 p7 p8 p9 p10 p11 p12 p14 p15 (p16 ++ (p13 :: ([] : (List (List Int))))) (p17 ++ (t542 :: ([] : (List Bool))))) := (loopAt_step Go.Proofs.C07.ctx 67 13 _).trans (by kernel_rfl)
theorem ancepsref07_sorted.l3_eq (p0 : (List (Int × (Int × Int)))) (p1 : Int) (p2 : (List (Int × (Int × Int)))) : ancepsref07_sorted.l3 p0 p1 p2 =
  ifB (decide (p1 < (((List.length p0) : Nat) : Int)))
   (ancepsref07_sorted.l6 p0 p1 (((List.length p2) : Nat) : Int) p2)
  (some (p2, ())) := (loopAt_step Go.Proofs.C07.ctx 69 3 _).trans (by kernel_rfl)
theorem cmp_isNaN_int.f_eq (p0 : Int) : cmp_isNaN_int.f p0 =
  some ((p0 != p0), ()) := (Einf_call Go.Proofs.C07.ctx 94 _).trans (by kernel_rfl)
theorem cmp_Or_int.l3_eq (p0 : Int) (p1 : (List Int)) (p2 : Int) (p3 : Int) : cmp_Or_int.l3 p0 p1 p2 p3 =
  ifB (decide (p3 < p2))
   (bindD ((ixAt p1 p3)) fun t544 =>
   ifB (t544 != p0)
    (some (t544, ()))
   (cmp_Or_int.l3 p0 p1 p2 (Go.IntKind.wrap Go.IntKind.i64 (p3 + (1 : Int)))))
  (some (p0, ())) := (loopAt_step Go.Proofs.C07.ctx 86 3 _).trans (by kernel_rfl)
theorem ancepsref07_closed.l10_eq (p0 : Bool) (p1 : Int) (p2 : Int) (p3 : Int) (p4 : (List Int)) (p5 : (List (Int × (Int × Int)))) (p6 : (List Int)) (p7 : (List Bool)) : ancepsref07_closed.l10 p0 p1 p2 p3 p4 p5 p6 p7 =
  ifB (decide (p1 < (((List.length p5) : Nat) : Int)))
   (bindD ((ixAt p5 p1)) fun t581 =>
   ifB (t581.2.1 == (-(1 : Int)))
    (bindD ((ixAt p7 t581.1)) fun t582 =>
    bindD ((ixAt p7 t581.1)) fun t583 =>
    ifB t583
     (bindD ((ixAt p7 t581.2.2)) fun t584 =>
     bindD ((ixAt p7 t581.2.2)) fun t585 =>
     ifB (!t585)
      (bindD ((ixAt p7 t581.2.2)) fun t586 =>
      bindD ((ixAt p7 t581.2.2)) fun t587 =>
      ancepsref07_closed.l10 true (Go.IntKind.wrap Go.IntKind.i64 (p1 + (1 : Int))) p2 p3 p4 p5 p6 (setRow p7 t581.2.2 true))
     (ancepsref07_closed.l10 p0 (Go.IntKind.wrap Go.IntKind.i64 (p1 + (1 : Int))) p2 p3 p4 p5 p6 p7))
    (ancepsref07_closed.l10 p0 (Go.IntKind.wrap Go.IntKind.i64 (p1 + (1 : Int))) p2 p3 p4 p5 p6 p7))
   (ancepsref07_closed.l10 p0 (Go.IntKind.wrap Go.IntKind.i64 (p1 + (1 : Int))) p2 p3 p4 p5 p6 p7))
  (ancepsref07_closed.l7 p0 p2 p3 p4 p5 p6 p7) := (loopAt_step Go.Proofs.C07.ctx 54 10 _).trans (by kernel_rfl)
theorem ancepsref07_members.f_eq (p0 : (List Bool)) : ancepsref07_members.f p0 =
  ancepsref07_members.l3 p0 (0 : Int) ([] : (List Int)) := (Einf_call Go.Proofs.C07.ctx 83 _).trans (by kernel_rfl)
theorem ancepsref07_next.l3_eq (p0 : (List Int)) (p1 : Int) (p2 : Int) (p3 : Int) (p4 : Int) (p5 : (List Int)) (p6 : (List (Int × (Int × Int)))) (p7 : (List Int)) (p8 : (List Bool)) : ancepsref07_next.l3 p0 p1 p2 p3 p4 p5 p6 p7 p8 =
  ifB (decide (p2 < (((List.length p0) : Nat) : Int)))
   (bindD ((ixAt p0 p2)) fun t588 =>
   bindD ((ixAt p8 t588)) fun t589 =>
   bindD ((ixAt p8 t588)) fun t590 =>
   ancepsref07_next.l3 p0 p1 (Go.IntKind.wrap Go.IntKind.i64 (p2 + (1 : Int))) p3 p4 p5 p6 p7 (setRow p8 t588 true))
  (bindD ((Go.Proofs.R.mkLen p4 p4)) fun t591 =>
   ancepsref07_next.l8 p1 (0 : Int) p3 p4 p5 p6 p7 p8 (List.replicate t591 false)) := (loopAt_step Go.Proofs.C07.ctx 55 3 _).trans (by kernel_rfl)
theorem ancepsref07_find.l2_eq (p0 : (List (List Int))) (p1 : (List Int)) (p2 : Int) : ancepsref07_find.l2 p0 p1 p2 =
  ifB (decide (p2 < (((List.length p0) : Nat) : Int)))
   (bindD ((ixAt p0 p2)) fun t592 =>
   bindD (ancepsref06_Equal.f t592 p1) fun t593 =>
   ifB t593.1
    (some (p2, ()))
   (ancepsref07_find.l2 p0 p1 (Go.IntKind.wrap Go.IntKind.i64 (p2 + (1 : Int)))))
  (some ((-(1 : Int)), ())) := (loopAt_step Go.Proofs.C07.ctx 56 2 _).trans (by kernel_rfl)
theorem ancepsref07_meets.l2_eq (p0 : (List Int)) (p1 : (List Int)) (p2 : Int) : ancepsref07_meets.l2 p0 p1 p2 =
  ifB (decide (p2 < (((List.length p0) : Nat) : Int)))
   (ancepsref07_meets.l5 p0 p1 p2 (0 : Int))
  (some (false, ())) := (loopAt_step Go.Proofs.C07.ctx 57 2 _).trans (by kernel_rfl)
theorem ancepsref06_Live.l3_eq (p0 : Bool) (p1 : Int) (p2 : Int) (p3 : (List (List Int))) (p4 : (List Bool)) (p5 : (List Bool)) : ancepsref06_Live.l3 p0 p1 p2 p3 p4 p5 =
  ifB p0
   (ancepsref06_Live.l6 false (0 : Int) p1 p2 p3 p4 p5)
  (some (p5, ())) := (loopAt_step Go.Proofs.C07.ctx 95 3 _).trans (by kernel_rfl)
theorem ancepsref06_classes.l11_eq (p0 : Int) (p1 : Int) (p2 : Int) (p3 : (List (List Int))) (p4 : (List Bool)) (p5 : (List Bool)) (p6 : (List Int)) : ancepsref06_classes.l11 p0 p1 p2 p3 p4 p5 p6 =
  bindD ((Go.Proofs.R.mkLen (((List.length p6) : Nat) : Int) (((List.length p6) : Nat) : Int))) fun t598 =>
  ancepsref06_classes.l14 p0 (0 : Int) p1 p2 p3 p4 p5 p6 (List.replicate t598 (0 : Int)) ([] : (List (List Int))) := (loopAt_step Go.Proofs.C07.ctx 89 11 _).trans (by kernel_rfl)
theorem ancepsref07_sorted.l6_eq (p0 : (List (Int × (Int × Int)))) (p1 : Int) (p2 : Int) (p3 : (List (Int × (Int × Int)))) : ancepsref07_sorted.l6 p0 p1 p2 p3 =
  ifB (decide (p2 > (0 : Int)))
   (bindD ((ixAt p0 p1)) fun t599 =>
   bindD ((ixAt p3 (Go.IntKind.wrap Go.IntKind.i64 (p2 - (1 : Int))))) fun t600 =>
   bindD ((ixAt p3 (Go.IntKind.wrap Go.IntKind.i64 (p2 - (1 : Int))))) fun t601 =>
   bindD (ancepsref07_ahead.f t599.1 t599.2.1 t599.2.2 t601.1 t601.2.1 t601.2.2) fun t602 =>
   ifB t602.1
    (ancepsref07_sorted.l6 p0 p1 (Go.IntKind.wrap Go.IntKind.i64 (p2 - (1 : Int))) p3)
   (ifB (decide (p2 > (0 : Int)))
     (bindD ((ixAt p3 (Go.IntKind.wrap Go.IntKind.i64 (p2 - (1 : Int))))) fun t603 =>
     bindD ((ixAt p3 (Go.IntKind.wrap Go.IntKind.i64 (p2 - (1 : Int))))) fun t604 =>
     bindD ((ixAt p0 p1)) fun t605 =>
     ifB ((t604.1 == t605.1) && ((t604.2.1 == t605.2.1) && (t604.2.2 == t605.2.2)))
      (ancepsref07_sorted.l3 p0 (Go.IntKind.wrap Go.IntKind.i64 (p1 + (1 : Int))) p3)
     (bindD ((ixAt p0 p1)) fun t606 =>
      bindD ((Go.Proofs.R.grow ((List.length p3) + (List.length ((t606.1, (t606.2.1, t606.2.2)) :: ([] : (List (Int × (Int × Int))))))))) fun t607 =>
      ancepsref07_sorted.l11 p0 p1 p2 (Go.IntKind.wrap Go.IntKind.i64 ((((List.length (p3 ++ ((t606.1, (t606.2.1, t606.2.2)) :: ([] : (List (Int × (Int × Int))))))) : Nat) : Int) - (1 : Int))) (p3 ++ ((t606.1, (t606.2.1, t606.2.2)) :: ([] : (List (Int × (Int × Int))))))))
    (bindD ((ixAt p0 p1)) fun t608 =>
     bindD ((Go.Proofs.R.grow ((List.length p3) + (List.length ((t608.1, (t608.2.1, t608.2.2)) :: ([] : (List (Int × (Int × Int))))))))) fun t609 =>
     ancepsref07_sorted.l11 p0 p1 p2 (Go.IntKind.wrap Go.IntKind.i64 ((((List.length (p3 ++ ((t608.1, (t608.2.1, t608.2.2)) :: ([] : (List (Int × (Int × Int))))))) : Nat) : Int) - (1 : Int))) (p3 ++ ((t608.1, (t608.2.1, t608.2.2)) :: ([] : (List (Int × (Int × Int)))))))))
  (ifB (decide (p2 > (0 : Int)))
    (bindD ((ixAt p3 (Go.IntKind.wrap Go.IntKind.i64 (p2 - (1 : Int))))) fun t610 =>
    bindD ((ixAt p3 (Go.IntKind.wrap Go.IntKind.i64 (p2 - (1 : Int))))) fun t611 =>
    bindD ((ixAt p0 p1)) fun t612 =>
    ifB ((t611.1 == t612.1) && ((t611.2.1 == t612.2.1) && (t611.2.2 == t612.2.2)))
     (ancepsref07_sorted.l3 p0 (Go.IntKind.wrap Go.IntKind.i64 (p1 + (1 : Int))) p3)
    (bindD ((ixAt p0 p1)) fun t613 =>
     bindD ((Go.Proofs.R.grow ((List.length p3) + (List.length ((t613.1, (t613.2.1, t613.2.2)) :: ([] : (List (Int × (Int × Int))))))))) fun t614 =>
     ancepsref07_sorted.l11 p0 p1 p2 (Go.IntKind.wrap Go.IntKind.i64 ((((List.length (p3 ++ ((t613.1, (t613.2.1, t613.2.2)) :: ([] : (List (Int × (Int × Int))))))) : Nat) : Int) - (1 : Int))) (p3 ++ ((t613.1, (t613.2.1, t613.2.2)) :: ([] : (List (Int × (Int × Int))))))))
   (bindD ((ixAt p0 p1)) fun t615 =>
    bindD ((Go.Proofs.R.grow ((List.length p3) + (List.length ((t615.1, (t615.2.1, t615.2.2)) :: ([] : (List (Int × (Int × Int))))))))) fun t616 =>
    ancepsref07_sorted.l11 p0 p1 p2 (Go.IntKind.wrap Go.IntKind.i64 ((((List.length (p3 ++ ((t615.1, (t615.2.1, t615.2.2)) :: ([] : (List (Int × (Int × Int))))))) : Nat) : Int) - (1 : Int))) (p3 ++ ((t615.1, (t615.2.1, t615.2.2)) :: ([] : (List (Int × (Int × Int)))))))) := (loopAt_step Go.Proofs.C07.ctx 69 6 _).trans (by kernel_rfl)
theorem ancepsref07_members.l3_eq (p0 : (List Bool)) (p1 : Int) (p2 : (List Int)) : ancepsref07_members.l3 p0 p1 p2 =
  ifB (decide (p1 < (((List.length p0) : Nat) : Int)))
   (bindD ((ixAt p0 p1)) fun t621 =>
   ifB t621
    (bindD ((Go.Proofs.R.grow ((List.length p2) + (List.length (p1 :: ([] : (List Int))))))) fun t622 =>
    ancepsref07_members.l3 p0 (Go.IntKind.wrap Go.IntKind.i64 (p1 + (1 : Int))) (p2 ++ (p1 :: ([] : (List Int)))))
   (ancepsref07_members.l3 p0 (Go.IntKind.wrap Go.IntKind.i64 (p1 + (1 : Int))) p2))
  (some (p2, ())) := (loopAt_step Go.Proofs.C07.ctx 83 3 _).trans (by kernel_rfl)
theorem ancepsref07_next.l8_eq (p0 : Int) (p1 : Int) (p2 : Int) (p3 : Int) (p4 : (List Int)) (p5 : (List (Int × (Int × Int)))) (p6 : (List Int)) (p7 : (List Bool)) (p8 : (List Bool)) : ancepsref07_next.l8 p0 p1 p2 p3 p4 p5 p6 p7 p8 =
  ifB (decide (p1 < (((List.length p5) : Nat) : Int)))
   (bindD ((ixAt p5 p1)) fun t623 =>
   ifB (t623.2.1 == p0)
    (bindD ((ixAt p7 t623.1)) fun t624 =>
    bindD ((ixAt p7 t623.1)) fun t625 =>
    ifB t625
     (bindD ((ixAt p8 t623.2.2)) fun t626 =>
     bindD ((ixAt p8 t623.2.2)) fun t627 =>
     ancepsref07_next.l8 p0 (Go.IntKind.wrap Go.IntKind.i64 (p1 + (1 : Int))) p2 p3 p4 p5 p6 p7 (setRow p8 t623.2.2 true))
    (ancepsref07_next.l8 p0 (Go.IntKind.wrap Go.IntKind.i64 (p1 + (1 : Int))) p2 p3 p4 p5 p6 p7 p8))
   (ancepsref07_next.l8 p0 (Go.IntKind.wrap Go.IntKind.i64 (p1 + (1 : Int))) p2 p3 p4 p5 p6 p7 p8))
  (bindD (ancepsref07_members.f p8) fun t628 =>
   bindD (ancepsref07_closed.f p2 p3 p4 p5 p6 t628.1) fun t629 =>
   some (t629.1, ())) := (loopAt_step Go.Proofs.C07.ctx 55 8 _).trans (by kernel_rfl)
theorem ancepsref07_meets.l5_eq (p0 : (List Int)) (p1 : (List Int)) (p2 : Int) (p3 : Int) : ancepsref07_meets.l5 p0 p1 p2 p3 =
  ifB (decide (p3 < (((List.length p1) : Nat) : Int)))
   (bindD ((ixAt p0 p2)) fun t630 =>
   bindD ((ixAt p1 p3)) fun t631 =>
   ifB (t630 == t631)
    (some (true, ()))
   (ancepsref07_meets.l5 p0 p1 p2 (Go.IntKind.wrap Go.IntKind.i64 (p3 + (1 : Int)))))
  (ancepsref07_meets.l2 p0 p1 (Go.IntKind.wrap Go.IntKind.i64 (p2 + (1 : Int)))) := (loopAt_step Go.Proofs.C07.ctx 57 5 _).trans (by kernel_rfl)
theorem ancepsref06_Live.l6_eq (p0 : Bool) (p1 : Int) (p2 : Int) (p3 : Int) (p4 : (List (List Int))) (p5 : (List Bool)) (p6 : (List Bool)) : ancepsref06_Live.l6 p0 p1 p2 p3 p4 p5 p6 =
  ifB (decide (p1 < (((List.length p4) : Nat) : Int)))
   (ancepsref06_Live.l9 p0 p1 (0 : Int) p2 p3 p4 p5 p6)
  (ancepsref06_Live.l3 p0 p2 p3 p4 p5 p6) := (loopAt_step Go.Proofs.C07.ctx 95 6 _).trans (by kernel_rfl)
theorem ancepsref06_classes.l14_eq (p0 : Int) (p1 : Int) (p2 : Int) (p3 : Int) (p4 : (List (List Int))) (p5 : (List Bool)) (p6 : (List Bool)) (p7 : (List Int)) (p8 : (List Int)) (p9 : (List (List Int))) : ancepsref06_classes.l14 p0 p1 p2 p3 p4 p5 p6 p7 p8 p9 =
  ifB (decide (p1 < (((List.length p7) : Nat) : Int)))
   (bindD ((ixAt p6 p1)) fun t636 =>
   bindD ((ixAt p6 p1)) fun t637 =>
   ifB (!t637)
    (ancepsref06_classes.l14 p0 (Go.IntKind.wrap Go.IntKind.i64 (p1 + (1 : Int))) p2 p3 p4 p5 p6 p7 p8 p9)
   (bindD ((ixAt p7 p1)) fun t638 =>
    bindD ((ixAt p7 p1)) fun t639 =>
    ancepsref06_classes.l19 p0 p1 (0 : Int) p2 p3 p4 p5 p6 p7 p8 p9 (t639 :: ([] : (List Int)))))
  (ifB ((((List.length p9) : Nat) : Int) == p0)
    (some (p8, ()))
   (ancepsref06_classes.l11 (((List.length p9) : Nat) : Int) p2 p3 p4 p5 p6 p8)) := (loopAt_step Go.Proofs.C07.ctx 89 14 _).trans (by kernel_rfl)
theorem ancepsref07_sorted.l11_eq (p0 : (List (Int × (Int × Int)))) (p1 : Int) (p2 : Int) (p3 : Int) (p4 : (List (Int × (Int × Int)))) : ancepsref07_sorted.l11 p0 p1 p2 p3 p4 =
  ifB (decide (p3 > p2))
   (bindD ((ixAt p4 (Go.IntKind.wrap Go.IntKind.i64 (p3 - (1 : Int))))) fun t640 =>
   bindD ((ixAt p4 (Go.IntKind.wrap Go.IntKind.i64 (p3 - (1 : Int))))) fun t641 =>
   bindD ((ixAt p4 p3)) fun t642 =>
   bindD ((ixAt p4 p3)) fun t643 =>
   ancepsref07_sorted.l11 p0 p1 p2 (Go.IntKind.wrap Go.IntKind.i64 (p3 - (1 : Int))) (setRow p4 p3 (t641.1, (t641.2.1, t641.2.2))))
  (bindD ((ixAt p0 p1)) fun t644 =>
   bindD ((ixAt p4 p2)) fun t645 =>
   bindD ((ixAt p4 p2)) fun t646 =>
   ancepsref07_sorted.l3 p0 (Go.IntKind.wrap Go.IntKind.i64 (p1 + (1 : Int))) (setRow p4 p2 (t644.1, (t644.2.1, t644.2.2)))) := (loopAt_step Go.Proofs.C07.ctx 69 11 _).trans (by kernel_rfl)
theorem ancepsref06_Live.l9_eq (p0 : Bool) (p1 : Int) (p2 : Int) (p3 : Int) (p4 : Int) (p5 : (List (List Int))) (p6 : (List Bool)) (p7 : (List Bool)) : ancepsref06_Live.l9 p0 p1 p2 p3 p4 p5 p6 p7 =
  ifB (decide (p2 < p3))
   (bindD ((ixAt p7 p1)) fun t663 =>
   bindD ((ixAt p7 p1)) fun t664 =>
   ifB (!t664)
    (bindD ((ixAt p5 p1)) fun t665 =>
    bindD ((ixAt t665 p2)) fun t666 =>
    ifB (decide (t666 ≥ (0 : Int)))
     (bindD ((ixAt p7 t666)) fun t667 =>
     bindD ((ixAt p7 t666)) fun t668 =>
     ifB t668
      (bindD ((ixAt p7 p1)) fun t669 =>
      bindD ((ixAt p7 p1)) fun t670 =>
      ancepsref06_Live.l9 true p1 (Go.IntKind.wrap Go.IntKind.i64 (p2 + (1 : Int))) p3 p4 p5 p6 (setRow p7 p1 true))
     (ancepsref06_Live.l9 p0 p1 (Go.IntKind.wrap Go.IntKind.i64 (p2 + (1 : Int))) p3 p4 p5 p6 p7))
    (ancepsref06_Live.l9 p0 p1 (Go.IntKind.wrap Go.IntKind.i64 (p2 + (1 : Int))) p3 p4 p5 p6 p7))
   (ancepsref06_Live.l6 p0 (Go.IntKind.wrap Go.IntKind.i64 (p1 + (1 : Int))) p3 p4 p5 p6 p7))
  (ancepsref06_Live.l6 p0 (Go.IntKind.wrap Go.IntKind.i64 (p1 + (1 : Int))) p3 p4 p5 p6 p7) := (loopAt_step Go.Proofs.C07.ctx 95 9 _).trans (by kernel_rfl)
theorem ancepsref06_classes.l19_eq (p0 : Int) (p1 : Int) (p2 : Int) (p3 : Int) (p4 : Int) (p5 : (List (List Int))) (p6 : (List Bool)) (p7 : (List Bool)) (p8 : (List Int)) (p9 : (List Int)) (p10 : (List (List Int))) (p11 : (List Int)) : ancepsref06_classes.l19 p0 p1 p2 p3 p4 p5 p6 p7 p8 p9 p10 p11 =
  ifB (decide (p2 < p3))
   (bindD ((ixAt p5 p1)) fun t671 =>
   bindD ((ixAt t671 p2)) fun t672 =>
   ifB (decide (t672 ≥ (0 : Int)))
    (bindD ((ixAt p5 p1)) fun t673 =>
    bindD ((ixAt t673 p2)) fun t674 =>
    bindD ((ixAt p8 t674)) fun t675 =>
    bindD ((ixAt p8 t674)) fun t676 =>
    bindD ((Go.Proofs.R.grow ((List.length p11) + (List.length (t676 :: ([] : (List Int))))))) fun t677 =>
    ancepsref06_classes.l19 p0 p1 (Go.IntKind.wrap Go.IntKind.i64 (p2 + (1 : Int))) p3 p4 p5 p6 p7 p8 p9 p10 (p11 ++ (t676 :: ([] : (List Int)))))
   (bindD ((Go.Proofs.R.grow ((List.length p11) + (List.length ((0 : Int) :: ([] : (List Int))))))) fun t678 =>
    ancepsref06_classes.l19 p0 p1 (Go.IntKind.wrap Go.IntKind.i64 (p2 + (1 : Int))) p3 p4 p5 p6 p7 p8 p9 p10 (p11 ++ ((0 : Int) :: ([] : (List Int))))))
  (bindD (ancepsref06_index.f p10 p11) fun t679 =>
   ifB (decide (t679.1 < (0 : Int)))
    (bindD ((Go.Proofs.R.grow ((List.length p10) + (List.length (p11 :: ([] : (List (List Int)))))))) fun t680 =>
    bindD ((ixAt p9 p1)) fun t681 =>
    bindD ((ixAt p9 p1)) fun t682 =>
    ancepsref06_classes.l14 p0 (Go.IntKind.wrap Go.IntKind.i64 (p1 + (1 : Int))) p3 p4 p5 p6 p7 p8 (setRow p9 p1 (Go.IntKind.wrap Go.IntKind.i64 ((Go.IntKind.wrap Go.IntKind.i64 ((((List.length (p10 ++ (p11 :: ([] : (List (List Int)))))) : Nat) : Int) - (1 : Int))) + (1 : Int)))) (p10 ++ (p11 :: ([] : (List (List Int))))))
   (bindD ((ixAt p9 p1)) fun t683 =>
    bindD ((ixAt p9 p1)) fun t684 =>
    ancepsref06_classes.l14 p0 (Go.IntKind.wrap Go.IntKind.i64 (p1 + (1 : Int))) p3 p4 p5 p6 p7 p8 (setRow p9 p1 (Go.IntKind.wrap Go.IntKind.i64 (t679.1 + (1 : Int)))) p10)) := (loopAt_step Go.Proofs.C07.ctx 89 19 _).trans (by kernel_rfl)
theorem ancepsref06_index.f_eq (p0 : (List (List Int))) (p1 : (List Int)) : ancepsref06_index.f p0 p1 =
  ancepsref06_index.l2 p0 p1 (0 : Int) := (Einf_call Go.Proofs.C07.ctx 96 _).trans (by kernel_rfl)
theorem ancepsref06_index.l2_eq (p0 : (List (List Int))) (p1 : (List Int)) (p2 : Int) : ancepsref06_index.l2 p0 p1 p2 =
  ifB (decide (p2 < (((List.length p0) : Nat) : Int)))
   (bindD ((ixAt p0 p2)) fun t705 =>
   bindD (ancepsref06_Equal.f t705 p1) fun t706 =>
   ifB t706.1
    (some (p2, ()))
   (ancepsref06_index.l2 p0 p1 (Go.IntKind.wrap Go.IntKind.i64 (p2 + (1 : Int)))))
  (some ((-(1 : Int)), ())) := (loopAt_step Go.Proofs.C07.ctx 96 2 _).trans (by kernel_rfl)
end Go.Proofs.C07
