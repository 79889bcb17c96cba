/- C07B: what the row's functions are, as the evaluator tells them. No condition. -/
import Derived.Test.YtmbloefhgkhoaaaC07
set_option linter.unusedVariables false
set_option linter.unusedSimpArgs false
set_option maxRecDepth 100000
set_option linter.unusedVariables false
namespace Go.Proofs.C07
open Go Go.Proofs.R
noncomputable def ancepslaw07_NondetDetermine.f (p0 : Int) (p1 : Int) (p2 : (List Int)) (p3 : (List (Int × (Int × Int)))) (p4 : (List Int)) (p5 : (List Int)) : Option (Bool × Unit) := (Go.Proofs.R.Einf Go.Proofs.C07.ctx).call 3 [(.agg [(.v (.int .i64) p0), (.v (.int .i64) p1), (.v (.sl (.int .i64)) p2), (.v (.sl (.pair (.int .i64) (.pair (.int .i64) (.int .i64)))) p3), (.v (.sl (.int .i64)) p4)]), (.one (.v (.sl (.int .u8)) p5))]
noncomputable def ancepslaw07_NondetValid.f (p0 : Int) (p1 : Int) (p2 : (List Int)) (p3 : (List (Int × (Int × Int)))) (p4 : (List Int)) (p5 : (List Int)) (p6 : (List Int)) : Option (Bool × Unit) := (Go.Proofs.R.Einf Go.Proofs.C07.ctx).call 4 [(.agg [(.v (.int .i64) p0), (.v (.int .i64) p1), (.v (.sl (.int .i64)) p2), (.v (.sl (.pair (.int .i64) (.pair (.int .i64) (.int .i64)))) p3), (.v (.sl (.int .i64)) p4)]), (.one (.v (.sl (.int .i64)) p5)), (.one (.v (.sl (.int .i64)) p6))]
noncomputable def ancepslaw07_NondetOf.f (p0 : Int) (p1 : Int) (p2 : (List (List Int))) (p3 : (List Bool)) : Option (Bool × Unit) := (Go.Proofs.R.Einf Go.Proofs.C07.ctx).call 5 [(.agg [(.v (.int .i64) p0), (.v (.int .i64) p1), (.v (.sl (.sl (.int .i64))) p2), (.v (.sl .bool) p3)])]
noncomputable def ancepslaw07_awake.f : Option (Bool × Unit) := (Go.Proofs.R.Einf Go.Proofs.C07.ctx).call 11 []
noncomputable def ancepsref07_Few.f (p0 : Int) (p1 : Int) (p2 : (List Int)) (p3 : (List (Int × (Int × Int)))) (p4 : (List Int)) : Option (Bool × Unit) := (Go.Proofs.R.Einf Go.Proofs.C07.ctx).call 12 [(.agg [(.v (.int .i64) p0), (.v (.int .i64) p1), (.v (.sl (.int .i64)) p2), (.v (.sl (.pair (.int .i64) (.pair (.int .i64) (.int .i64)))) p3), (.v (.sl (.int .i64)) p4)])]
noncomputable def ancepsref07_Valid.f (p0 : Int) (p1 : Int) (p2 : (List Int)) (p3 : (List (Int × (Int × Int)))) (p4 : (List Int)) : Option (Int × Unit) := (Go.Proofs.R.Einf Go.Proofs.C07.ctx).call 13 [(.agg [(.v (.int .i64) p0), (.v (.int .i64) p1), (.v (.sl (.int .i64)) p2), (.v (.sl (.pair (.int .i64) (.pair (.int .i64) (.int .i64)))) p3), (.v (.sl (.int .i64)) p4)])]
noncomputable def ancepslaw07_own.f (p0 : Int) (p1 : Int) (p2 : (List Int)) (p3 : (List (Int × (Int × Int)))) (p4 : (List Int)) : Option (Int × (Int × ((List Int) × ((List (Int × (Int × Int))) × ((List Int) × Unit))))) := (Go.Proofs.R.Einf Go.Proofs.C07.ctx).call 15 [(.agg [(.v (.int .i64) p0), (.v (.int .i64) p1), (.v (.sl (.int .i64)) p2), (.v (.sl (.pair (.int .i64) (.pair (.int .i64) (.int .i64)))) p3), (.v (.sl (.int .i64)) p4)])]
noncomputable def nondet_Determine.f (p0 : Int) (p1 : Int) (p2 : (List Int)) (p3 : (List (Int × (Int × Int)))) (p4 : (List Int)) : Option (Int × (Int × ((List (List Int)) × ((List Bool) × (Int × Unit))))) := (Go.Proofs.R.Einf Go.Proofs.C07.ctx).call 14 [(.agg [(.v (.int .i64) p0), (.v (.int .i64) p1), (.v (.sl (.int .i64)) p2), (.v (.sl (.pair (.int .i64) (.pair (.int .i64) (.int .i64)))) p3), (.v (.sl (.int .i64)) p4)])]
noncomputable def ancepsref07_Determine.f (p0 : Int) (p1 : Int) (p2 : (List Int)) (p3 : (List (Int × (Int × Int)))) (p4 : (List Int)) : Option (Int × (Int × ((List (List Int)) × ((List Bool) × (Int × Unit))))) := (Go.Proofs.R.Einf Go.Proofs.C07.ctx).call 16 [(.agg [(.v (.int .i64) p0), (.v (.int .i64) p1), (.v (.sl (.int .i64)) p2), (.v (.sl (.pair (.int .i64) (.pair (.int .i64) (.int .i64)))) p3), (.v (.sl (.int .i64)) p4)])]
noncomputable def ancepsref06_SameDFA.f (p0 : Int) (p1 : Int) (p2 : (List (List Int))) (p3 : (List Bool)) (p4 : Int) (p5 : Int) (p6 : (List (List Int))) (p7 : (List Bool)) : Option (Bool × Unit) := (Go.Proofs.R.Einf Go.Proofs.C07.ctx).call 17 [(.agg [(.v (.int .i64) p0), (.v (.int .i64) p1), (.v (.sl (.sl (.int .i64))) p2), (.v (.sl .bool) p3)]), (.agg [(.v (.int .i64) p4), (.v (.int .i64) p5), (.v (.sl (.sl (.int .i64))) p6), (.v (.sl .bool) p7)])]
noncomputable def ancepsref07_Word.f (p0 : Int) (p1 : Int) (p2 : (List Int)) (p3 : (List (Int × (Int × Int)))) (p4 : (List Int)) (p5 : (List Int)) : Option ((List Int) × Unit) := (Go.Proofs.R.Einf Go.Proofs.C07.ctx).call 18 [(.agg [(.v (.int .i64) p0), (.v (.int .i64) p1), (.v (.sl (.int .i64)) p2), (.v (.sl (.pair (.int .i64) (.pair (.int .i64) (.int .i64)))) p3), (.v (.sl (.int .i64)) p4)]), (.one (.v (.sl (.int .u8)) p5))]
noncomputable def nondet_Accepts.f (p0 : Int) (p1 : Int) (p2 : (List Int)) (p3 : (List (Int × (Int × Int)))) (p4 : (List Int)) (p5 : (List Int)) : Option (Bool × (Int × Unit)) := (Go.Proofs.R.Einf Go.Proofs.C07.ctx).call 19 [(.agg [(.v (.int .i64) p0), (.v (.int .i64) p1), (.v (.sl (.int .i64)) p2), (.v (.sl (.pair (.int .i64) (.pair (.int .i64) (.int .i64)))) p3), (.v (.sl (.int .i64)) p4)]), (.one (.v (.sl (.int .i64)) p5))]
noncomputable def ancepsref06_Accepts.f (p0 : Int) (p1 : Int) (p2 : (List (List Int))) (p3 : (List Bool)) (p4 : (List Int)) : Option (Bool × Unit) := (Go.Proofs.R.Einf Go.Proofs.C07.ctx).call 20 [(.agg [(.v (.int .i64) p0), (.v (.int .i64) p1), (.v (.sl (.sl (.int .i64))) p2), (.v (.sl .bool) p3)]), (.one (.v (.sl (.int .i64)) p4))]
noncomputable def slices_Clone_int_int.f (p0 : (List Int)) : Option ((List Int) × Unit) := (Go.Proofs.R.Einf Go.Proofs.C07.ctx).call 22 [(.one (.v (.sl (.int .i64)) p0))]
noncomputable def nondet_Closure.f (p0 : Int) (p1 : Int) (p2 : (List Int)) (p3 : (List (Int × (Int × Int)))) (p4 : (List Int)) (p5 : (List Int)) : Option ((List Int) × (Int × Unit)) := (Go.Proofs.R.Einf Go.Proofs.C07.ctx).call 21 [(.agg [(.v (.int .i64) p0), (.v (.int .i64) p1), (.v (.sl (.int .i64)) p2), (.v (.sl (.pair (.int .i64) (.pair (.int .i64) (.int .i64)))) p3), (.v (.sl (.int .i64)) p4)]), (.one (.v (.sl (.int .i64)) p5))]
noncomputable def ancepsref07_Closure.f (p0 : Int) (p1 : Int) (p2 : (List Int)) (p3 : (List (Int × (Int × Int)))) (p4 : (List Int)) (p5 : (List Int)) : Option ((List Int) × (Int × Unit)) := (Go.Proofs.R.Einf Go.Proofs.C07.ctx).call 23 [(.agg [(.v (.int .i64) p0), (.v (.int .i64) p1), (.v (.sl (.int .i64)) p2), (.v (.sl (.pair (.int .i64) (.pair (.int .i64) (.int .i64)))) p3), (.v (.sl (.int .i64)) p4)]), (.one (.v (.sl (.int .i64)) p5))]
noncomputable def ancepsref07_Accepts.f (p0 : Int) (p1 : Int) (p2 : (List Int)) (p3 : (List (Int × (Int × Int)))) (p4 : (List Int)) (p5 : (List Int)) : Option (Bool × (Int × Unit)) := (Go.Proofs.R.Einf Go.Proofs.C07.ctx).call 24 [(.agg [(.v (.int .i64) p0), (.v (.int .i64) p1), (.v (.sl (.int .i64)) p2), (.v (.sl (.pair (.int .i64) (.pair (.int .i64) (.int .i64)))) p3), (.v (.sl (.int .i64)) p4)]), (.one (.v (.sl (.int .i64)) p5))]
noncomputable def nondet_Valid.f (p0 : Int) (p1 : Int) (p2 : (List Int)) (p3 : (List (Int × (Int × Int)))) (p4 : (List Int)) : Option (Int × Unit) := (Go.Proofs.R.Einf Go.Proofs.C07.ctx).call 25 [(.agg [(.v (.int .i64) p0), (.v (.int .i64) p1), (.v (.sl (.int .i64)) p2), (.v (.sl (.pair (.int .i64) (.pair (.int .i64) (.int .i64)))) p3), (.v (.sl (.int .i64)) p4)])]
noncomputable def slices_Equal_int_int.f (p0 : (List Int)) (p1 : (List Int)) : Option (Bool × Unit) := (Go.Proofs.R.Einf Go.Proofs.C07.ctx).call 26 [(.one (.v (.sl (.int .i64)) p0)), (.one (.v (.sl (.int .i64)) p1))]
noncomputable def ancepsref06_Few.f (p0 : Int) (p1 : Int) (p2 : (List (List Int))) (p3 : (List Bool)) : Option (Bool × Unit) := (Go.Proofs.R.Einf Go.Proofs.C07.ctx).call 27 [(.agg [(.v (.int .i64) p0), (.v (.int .i64) p1), (.v (.sl (.sl (.int .i64))) p2), (.v (.sl .bool) p3)])]
noncomputable def ancepsref06_Valid.f (p0 : Int) (p1 : Int) (p2 : (List (List Int))) (p3 : (List Bool)) : Option (Int × Unit) := (Go.Proofs.R.Einf Go.Proofs.C07.ctx).call 28 [(.agg [(.v (.int .i64) p0), (.v (.int .i64) p1), (.v (.sl (.sl (.int .i64))) p2), (.v (.sl .bool) p3)])]
noncomputable def nondet_Of.f (p0 : Int) (p1 : Int) (p2 : (List (List Int))) (p3 : (List Bool)) : Option (Int × (Int × ((List Int) × ((List (Int × (Int × Int))) × ((List Int) × (Int × Unit)))))) := (Go.Proofs.R.Einf Go.Proofs.C07.ctx).call 29 [(.agg [(.v (.int .i64) p0), (.v (.int .i64) p1), (.v (.sl (.sl (.int .i64))) p2), (.v (.sl .bool) p3)])]
noncomputable def ancepsref06_Minimal.f (p0 : Int) (p1 : Int) (p2 : (List (List Int))) (p3 : (List Bool)) : Option (Int × (Int × ((List (List Int)) × ((List Bool) × (Int × Unit))))) := (Go.Proofs.R.Einf Go.Proofs.C07.ctx).call 30 [(.agg [(.v (.int .i64) p0), (.v (.int .i64) p1), (.v (.sl (.sl (.int .i64))) p2), (.v (.sl .bool) p3)])]
noncomputable def ancepslaw07_example.f : Option (Int × (Int × ((List Int) × ((List (Int × (Int × Int))) × ((List Int) × Unit))))) := (Go.Proofs.R.Einf Go.Proofs.C07.ctx).call 43 []
noncomputable def ancepsref07_ascending.f (p0 : (List Int)) (p1 : Int) : Option (Bool × Unit) := (Go.Proofs.R.Einf Go.Proofs.C07.ctx).call 44 [(.one (.v (.sl (.int .i64)) p0)), (.one (.v (.int .i64) p1))]
noncomputable def ancepsref07_Valid.l6 (p0 : Int) (p1 : Int) (p2 : Int) (p3 : (List Int)) (p4 : (List (Int × (Int × Int)))) (p5 : (List Int)) : Option (Int × Unit) := Go.Proofs.R.loopAt Go.Proofs.C07.ctx (Go.Proofs.R.Einf Go.Proofs.C07.ctx) 13 6 (.mk [(1, (.one (.ref 7 0))), (3, (.one (.v (.int .i64) p0)))] [(7, (.box 25 [(.v (.int .i64) p1), (.v (.int .i64) p2), (.v (.sl (.int .i64)) p3), (.v (.sl (.pair (.int .i64) (.pair (.int .i64) (.int .i64)))) p4), (.v (.sl (.int .i64)) p5)]))])
noncomputable def api_Edge.f (p0 : (List (Int × (Int × Int)))) : Option ((List (Int × (Int × Int))) × Unit) := (Go.Proofs.R.Einf Go.Proofs.C07.ctx).call 53 [(.one (.v (.sl (.pair (.int .i64) (.pair (.int .i64) (.int .i64)))) p0))]
noncomputable def nondet_open.f (p0 : Int) (p1 : Int) (p2 : (List Int)) (p3 : (List (Int × (Int × Int)))) (p4 : (List Int)) : Option (Int × (Int × ((List Int) × ((List (Int × (Int × Int))) × ((List Int) × ((List (List (Int × (Int × Int)))) × Unit)))))) := (Go.Proofs.R.Einf Go.Proofs.C07.ctx).call 46 [(.agg [(.v (.int .i64) p0), (.v (.int .i64) p1), (.v (.sl (.int .i64)) p2), (.v (.sl (.pair (.int .i64) (.pair (.int .i64) (.int .i64)))) p3), (.v (.sl (.int .i64)) p4)])]
noncomputable def nondet_graph_closure.f (p0 : Int) (p1 : Int) (p2 : (List Int)) (p3 : (List (Int × (Int × Int)))) (p4 : (List Int)) (p5 : (List (List (Int × (Int × Int))))) (p6 : (List Int)) : Option ((List Bool) × Unit) := (Go.Proofs.R.Einf Go.Proofs.C07.ctx).call 47 [(.agg [(.v (.int .i64) p0), (.v (.int .i64) p1), (.v (.sl (.int .i64)) p2), (.v (.sl (.pair (.int .i64) (.pair (.int .i64) (.int .i64)))) p3), (.v (.sl (.int .i64)) p4), (.v (.sl (.sl (.pair (.int .i64) (.pair (.int .i64) (.int .i64))))) p5)]), (.one (.v (.sl (.int .i64)) p6))]
noncomputable def automaton_Minimal.f (p0 : Int) (p1 : Int) (p2 : (List (List Int))) (p3 : (List Bool)) : Option (Int × (Int × ((List (List Int)) × ((List Bool) × (Int × Unit))))) := (Go.Proofs.R.Einf Go.Proofs.C07.ctx).call 48 [(.agg [(.v (.int .i64) p0), (.v (.int .i64) p1), (.v (.sl (.sl (.int .i64))) p2), (.v (.sl .bool) p3)])]
noncomputable def nondet_set_key.f (p0 : (List Bool)) : Option (ByteArray × Unit) := (Go.Proofs.R.Einf Go.Proofs.C07.ctx).call 49 [(.one (.v (.sl .bool) p0))]
noncomputable def nondet_Determine.l13 (p0 : Int) (p1 : Int) (p2 : Int) (p3 : (List Int)) (p4 : (List (Int × (Int × Int)))) (p5 : (List Int)) (p6 : Int) (p7 : Int) (p8 : Int) (p9 : Int) (p10 : (List Int)) (p11 : (List (Int × (Int × Int)))) (p12 : (List Int)) (p13 : (List (List (Int × (Int × Int))))) (p14 : Int) (p15 : Int) (p16 : (List (ByteArray × Int))) (p17 : (List (List Bool))) (p18 : (List (List Int))) (p19 : (List Bool)) (p20 : (List (List Int))) (p21 : (List Bool)) : Option (Int × (Int × ((List (List Int)) × ((List Bool) × (Int × Unit))))) := Go.Proofs.R.loopAt Go.Proofs.C07.ctx (Go.Proofs.R.Einf Go.Proofs.C07.ctx) 14 13 (.mk [(1, (.one (.ref 7 0))), (2, (.one (.ref 15 0))), (5, (.one (.ref 23 0))), (6, (.one (.ref 31 0))), (8, (.one (.mp 39))), (9, (.one (.row 47))), (10, (.one (.v (.int .i64) p0)))] [(7, (.box 25 [(.v (.int .i64) p1), (.v (.int .i64) p2), (.v (.sl (.int .i64)) p3), (.v (.sl (.pair (.int .i64) (.pair (.int .i64) (.int .i64)))) p4), (.v (.sl (.int .i64)) p5)])), (15, (.box 34 [(.v (.int .i64) p6), (.v (.int .i64) p7), (.row 55), (.row 63)])), (23, (.box 78 [(.v (.int .i64) p8), (.v (.int .i64) p9), (.v (.sl (.int .i64)) p10), (.v (.sl (.pair (.int .i64) (.pair (.int .i64) (.int .i64)))) p11), (.v (.sl (.int .i64)) p12), (.v (.sl (.sl (.pair (.int .i64) (.pair (.int .i64) (.int .i64))))) p13)])), (31, (.box 34 [(.v (.int .i64) p14), (.v (.int .i64) p15), (.row 71), (.row 79)])), (39, (.mp 9 3 .str (.int .i64) p16)), (47, (.row 80 (.sl .bool) p17 false)), (55, (.row 22 (.sl (.int .i64)) p18 false)), (63, (.row 4 .bool p19 false)), (71, (.row 22 (.sl (.int .i64)) p20 false)), (79, (.row 4 .bool p21 false))])
noncomputable def ancepsref07_closed.f (p0 : Int) (p1 : Int) (p2 : (List Int)) (p3 : (List (Int × (Int × Int)))) (p4 : (List Int)) (p5 : (List Int)) : Option ((List Int) × Unit) := (Go.Proofs.R.Einf Go.Proofs.C07.ctx).call 54 [(.agg [(.v (.int .i64) p0), (.v (.int .i64) p1), (.v (.sl (.int .i64)) p2), (.v (.sl (.pair (.int .i64) (.pair (.int .i64) (.int .i64)))) p3), (.v (.sl (.int .i64)) p4)]), (.one (.v (.sl (.int .i64)) p5))]
noncomputable def ancepsref07_Determine.l10 (p0 : Int) (p1 : Int) (p2 : Int) (p3 : (List Int)) (p4 : (List (Int × (Int × Int)))) (p5 : (List Int)) (p6 : Int) (p7 : Int) (p8 : Int) (p9 : Int) (p10 : (List (List Int))) (p11 : (List (List Int))) (p12 : (List Bool)) (p13 : (List (List Int))) (p14 : (List Bool)) : Option (Int × (Int × ((List (List Int)) × ((List Bool) × (Int × Unit))))) := Go.Proofs.R.loopAt Go.Proofs.C07.ctx (Go.Proofs.R.Einf Go.Proofs.C07.ctx) 16 10 (.mk [(1, (.one (.ref 7 0))), (2, (.one (.ref 15 0))), (5, (.one (.ref 23 0))), (6, (.one (.row 31))), (7, (.one (.v (.int .i64) p0)))] [(7, (.box 25 [(.v (.int .i64) p1), (.v (.int .i64) p2), (.v (.sl (.int .i64)) p3), (.v (.sl (.pair (.int .i64) (.pair (.int .i64) (.int .i64)))) p4), (.v (.sl (.int .i64)) p5)])), (15, (.box 34 [(.v (.int .i64) p6), (.v (.int .i64) p7), (.row 39), (.row 47)])), (23, (.box 34 [(.v (.int .i64) p8), (.v (.int .i64) p9), (.row 55), (.row 63)])), (31, (.row 22 (.sl (.int .i64)) p10 false)), (39, (.row 22 (.sl (.int .i64)) p11 false)), (47, (.row 4 .bool p12 false)), (55, (.row 22 (.sl (.int .i64)) p13 false)), (63, (.row 4 .bool p14 false))])
noncomputable def ancepsref06_SameDFA.l4 (p0 : Int) (p1 : Int) (p2 : Int) (p3 : (List (List Int))) (p4 : (List Bool)) (p5 : Int) (p6 : Int) (p7 : (List (List Int))) (p8 : (List Bool)) : Option (Bool × Unit) := Go.Proofs.R.loopAt Go.Proofs.C07.ctx (Go.Proofs.R.Einf Go.Proofs.C07.ctx) 17 4 (.mk [(2, (.one (.ref 7 0))), (3, (.one (.ref 15 0))), (5, (.one (.v (.int .i64) p0)))] [(7, (.box 34 [(.v (.int .i64) p1), (.v (.int .i64) p2), (.v (.sl (.sl (.int .i64))) p3), (.v (.sl .bool) p4)])), (15, (.box 34 [(.v (.int .i64) p5), (.v (.int .i64) p6), (.v (.sl (.sl (.int .i64))) p7), (.v (.sl .bool) p8)]))])
noncomputable def ancepsref07_Word.l3 (p0 : (List Int)) (p1 : Int) (p2 : Int) (p3 : Int) (p4 : (List Int)) (p5 : (List (Int × (Int × Int)))) (p6 : (List Int)) (p7 : (List Int)) : Option ((List Int) × Unit) := Go.Proofs.R.loopAt Go.Proofs.C07.ctx (Go.Proofs.R.Einf Go.Proofs.C07.ctx) 18 3 (.mk [(1, (.one (.v (.sl (.int .u8)) p0))), (2, (.one (.ref 7 0))), (5, (.one (.row 15))), (6, (.one (.v (.int .i64) p1)))] [(7, (.box 25 [(.v (.int .i64) p2), (.v (.int .i64) p3), (.v (.sl (.int .i64)) p4), (.v (.sl (.pair (.int .i64) (.pair (.int .i64) (.int .i64)))) p5), (.v (.sl (.int .i64)) p6)])), (15, (.row 3 (.int .i64) p7 false))])
noncomputable def slices_ContainsFunc_int_int.f (p0 : (List Int)) (p1 : Int) (p2 : Int) (p3 : (List Int)) (p4 : (List (Int × (Int × Int)))) (p5 : (List Int)) : Option (Bool × Unit) := (Go.Proofs.R.Einf Go.Proofs.C07.ctx).call 59 [(.one (.v (.sl (.int .i64)) p0)), (.one (.clo 60 [(.pref [(.v (.int .i64) p1), (.v (.int .i64) p2), (.v (.sl (.int .i64)) p3), (.v (.sl (.pair (.int .i64) (.pair (.int .i64) (.int .i64)))) p4), (.v (.sl (.int .i64)) p5)] 0)]))]
noncomputable def nondet_Accepts.l9 (p0 : (List Int)) (p1 : Int) (p2 : Int) (p3 : Int) (p4 : Int) (p5 : (List Int)) (p6 : (List (Int × (Int × Int)))) (p7 : (List Int)) (p8 : (List (List (Int × (Int × Int))))) (p9 : (List Bool)) : Option (Bool × (Int × Unit)) := Go.Proofs.R.loopAt Go.Proofs.C07.ctx (Go.Proofs.R.Einf Go.Proofs.C07.ctx) 19 9 (.mk [(7, (.one (.ref 7 0))), (8, (.one (.row 15))), (25, (.one (.v (.sl (.int .i64)) p0))), (26, (.one (.v (.int .i64) p1))), (27, (.one (.v (.int .i64) p2)))] [(7, (.box 78 [(.v (.int .i64) p3), (.v (.int .i64) p4), (.v (.sl (.int .i64)) p5), (.v (.sl (.pair (.int .i64) (.pair (.int .i64) (.int .i64)))) p6), (.v (.sl (.int .i64)) p7), (.v (.sl (.sl (.pair (.int .i64) (.pair (.int .i64) (.int .i64))))) p8)])), (15, (.row 4 .bool p9 false))])
noncomputable def ancepsref06_Run.f (p0 : Int) (p1 : Int) (p2 : (List (List Int))) (p3 : (List Bool)) (p4 : (List Int)) : Option (Int × Unit) := (Go.Proofs.R.Einf Go.Proofs.C07.ctx).call 61 [(.agg [(.v (.int .i64) p0), (.v (.int .i64) p1), (.v (.sl (.sl (.int .i64))) p2), (.v (.sl .bool) p3)]), (.one (.v (.sl (.int .i64)) p4))]
noncomputable def slices_ContainsFunc_int_int.f1 (p0 : (List Int)) (p1 : Int) (p2 : Int) (p3 : (List Int)) (p4 : (List (Int × (Int × Int)))) (p5 : (List Int)) : Option (Bool × Unit) := (Go.Proofs.R.Einf Go.Proofs.C07.ctx).call 59 [(.one (.v (.sl (.int .i64)) p0)), (.one (.clo 62 [(.pref [(.v (.int .i64) p1), (.v (.int .i64) p2), (.v (.sl (.int .i64)) p3), (.v (.sl (.pair (.int .i64) (.pair (.int .i64) (.int .i64)))) p4), (.v (.sl (.int .i64)) p5)] 0)]))]
noncomputable def nondet_set_list.f (p0 : (List Bool)) : Option ((List Int) × Unit) := (Go.Proofs.R.Einf Go.Proofs.C07.ctx).call 63 [(.one (.v (.sl .bool) p0))]
noncomputable def ancepsref07_Closure.l5 (p0 : (List Int)) (p1 : Int) (p2 : Int) (p3 : Int) (p4 : (List Int)) (p5 : (List (Int × (Int × Int)))) (p6 : (List Int)) : Option ((List Int) × (Int × Unit)) := Go.Proofs.R.loopAt Go.Proofs.C07.ctx (Go.Proofs.R.Einf Go.Proofs.C07.ctx) 23 5 (.mk [(1, (.one (.v (.sl (.int .i64)) p0))), (2, (.one (.ref 7 0))), (7, (.one (.v (.int .i64) p1)))] [(7, (.box 25 [(.v (.int .i64) p2), (.v (.int .i64) p3), (.v (.sl (.int .i64)) p4), (.v (.sl (.pair (.int .i64) (.pair (.int .i64) (.int .i64)))) p5), (.v (.sl (.int .i64)) p6)]))])
noncomputable def ancepsref07_Accepts.l5 (p0 : (List Int)) (p1 : Int) (p2 : Int) (p3 : Int) (p4 : (List Int)) (p5 : (List (Int × (Int × Int)))) (p6 : (List Int)) : Option (Bool × (Int × Unit)) := Go.Proofs.R.loopAt Go.Proofs.C07.ctx (Go.Proofs.R.Einf Go.Proofs.C07.ctx) 24 5 (.mk [(1, (.one (.v (.sl (.int .i64)) p0))), (2, (.one (.ref 7 0))), (7, (.one (.v (.int .i64) p1)))] [(7, (.box 25 [(.v (.int .i64) p2), (.v (.int .i64) p3), (.v (.sl (.int .i64)) p4), (.v (.sl (.pair (.int .i64) (.pair (.int .i64) (.int .i64)))) p5), (.v (.sl (.int .i64)) p6)]))])
noncomputable def nondet_ascends.f (p0 : (List Int)) (p1 : Int) : Option (Bool × Unit) := (Go.Proofs.R.Einf Go.Proofs.C07.ctx).call 64 [(.one (.v (.sl (.int .i64)) p0)), (.one (.v (.int .i64) p1))]
noncomputable def nondet_Valid.l6 (p0 : (List (Int × (Int × Int)))) (p1 : Int) (p2 : Int) (p3 : Int) (p4 : Int) (p5 : (List Int)) (p6 : (List (Int × (Int × Int)))) (p7 : (List Int)) : Option (Int × Unit) := Go.Proofs.R.loopAt Go.Proofs.C07.ctx (Go.Proofs.R.Einf Go.Proofs.C07.ctx) 25 6 (.mk [(1, (.one (.ref 7 0))), (44, (.one (.v (.sl (.pair (.int .i64) (.pair (.int .i64) (.int .i64)))) p0))), (45, (.one (.v (.int .i64) p1))), (46, (.one (.v (.int .i64) p2)))] [(7, (.box 25 [(.v (.int .i64) p3), (.v (.int .i64) p4), (.v (.sl (.int .i64)) p5), (.v (.sl (.pair (.int .i64) (.pair (.int .i64) (.int .i64)))) p6), (.v (.sl (.int .i64)) p7)]))])
noncomputable def slices_Equal_int_int.l4 (p0 : (List Int)) (p1 : (List Int)) (p2 : Int) (p3 : Int) : Option (Bool × Unit) := Go.Proofs.R.loopAt Go.Proofs.C07.ctx (Go.Proofs.R.Einf Go.Proofs.C07.ctx) 26 4 (.mk [(0, (.one (.v (.sl (.int .i64)) p0))), (1, (.one (.v (.sl (.int .i64)) p1))), (12, (.one (.v (.int .i64) p2))), (13, (.one (.v (.int .i64) p3)))] [])
noncomputable def ancepsref06_Few.l5 (p0 : Int) (p1 : Int) (p2 : Int) (p3 : Int) (p4 : (List (List Int))) (p5 : (List Bool)) : Option (Bool × Unit) := Go.Proofs.R.loopAt Go.Proofs.C07.ctx (Go.Proofs.R.Einf Go.Proofs.C07.ctx) 27 5 (.mk [(1, (.one (.ref 7 0))), (3, (.one (.v (.int .i64) p0))), (4, (.one (.v (.int .i64) p1)))] [(7, (.box 34 [(.v (.int .i64) p2), (.v (.int .i64) p3), (.v (.sl (.sl (.int .i64))) p4), (.v (.sl .bool) p5)]))])
noncomputable def ancepsref06_Valid.l7 (p0 : Int) (p1 : Int) (p2 : Int) (p3 : Int) (p4 : (List (List Int))) (p5 : (List Bool)) : Option (Int × Unit) := Go.Proofs.R.loopAt Go.Proofs.C07.ctx (Go.Proofs.R.Einf Go.Proofs.C07.ctx) 28 7 (.mk [(1, (.one (.ref 7 0))), (3, (.one (.v (.int .i64) p0))), (4, (.one (.v (.int .i64) p1)))] [(7, (.box 34 [(.v (.int .i64) p2), (.v (.int .i64) p3), (.v (.sl (.sl (.int .i64))) p4), (.v (.sl .bool) p5)]))])
noncomputable def automaton_Valid.f (p0 : Int) (p1 : Int) (p2 : (List (List Int))) (p3 : (List Bool)) : Option (Int × Unit) := (Go.Proofs.R.Einf Go.Proofs.C07.ctx).call 66 [(.agg [(.v (.int .i64) p0), (.v (.int .i64) p1), (.v (.sl (.sl (.int .i64))) p2), (.v (.sl .bool) p3)])]
noncomputable def nondet_Of.l8 (p0 : (List (List Int))) (p1 : Int) (p2 : Int) (p3 : Int) (p4 : Int) (p5 : (List (List Int))) (p6 : (List Bool)) (p7 : Int) (p8 : Int) (p9 : Int) (p10 : Int) (p11 : (List Int)) (p12 : (List (Int × (Int × Int)))) (p13 : (List Int)) (p14 : (List Int)) (p15 : (List (Int × (Int × Int)))) (p16 : (List Int)) : Option (Int × (Int × ((List Int) × ((List (Int × (Int × Int))) × ((List Int) × (Int × Unit)))))) := Go.Proofs.R.loopAt Go.Proofs.C07.ctx (Go.Proofs.R.Einf Go.Proofs.C07.ctx) 29 8 (.mk [(1, (.one (.ref 7 0))), (2, (.one (.ref 15 0))), (5, (.one (.ref 23 0))), (30, (.one (.v (.sl (.sl (.int .i64))) p0))), (31, (.one (.v (.int .i64) p1))), (32, (.one (.v (.int .i64) p2)))] [(7, (.box 34 [(.v (.int .i64) p3), (.v (.int .i64) p4), (.v (.sl (.sl (.int .i64))) p5), (.v (.sl .bool) p6)])), (15, (.box 25 [(.v (.int .i64) p7), (.v (.int .i64) p8), (.row 31), (.row 39), (.row 47)])), (23, (.box 25 [(.v (.int .i64) p9), (.v (.int .i64) p10), (.row 55), (.row 63), (.row 71)])), (31, (.row 3 (.int .i64) p11 false)), (39, (.row 74 (.pair (.int .i64) (.pair (.int .i64) (.int .i64))) p12 false)), (47, (.row 3 (.int .i64) p13 false)), (55, (.row 3 (.int .i64) p14 false)), (63, (.row 74 (.pair (.int .i64) (.pair (.int .i64) (.int .i64))) p15 false)), (71, (.row 3 (.int .i64) p16 false))])
noncomputable def ancepsref06_minimal.f (p0 : Int) (p1 : Int) (p2 : (List (List Int))) (p3 : (List Bool)) : Option (Int × (Int × ((List (List Int)) × ((List Bool) × Unit)))) := (Go.Proofs.R.Einf Go.Proofs.C07.ctx).call 67 [(.agg [(.v (.int .i64) p0), (.v (.int .i64) p1), (.v (.sl (.sl (.int .i64))) p2), (.v (.sl .bool) p3)])]
noncomputable def ancepsref07_ascending.l2 (p0 : (List Int)) (p1 : Int) (p2 : Int) : Option (Bool × Unit) := Go.Proofs.R.loopAt Go.Proofs.C07.ctx (Go.Proofs.R.Einf Go.Proofs.C07.ctx) 44 2 (.mk [(0, (.one (.v (.sl (.int .i64)) p0))), (1, (.one (.v (.int .i64) p1))), (5, (.one (.v (.int .i64) p2)))] [])
noncomputable def ancepsref07_ahead.f (p0 : Int) (p1 : Int) (p2 : Int) (p3 : Int) (p4 : Int) (p5 : Int) : Option (Bool × Unit) := (Go.Proofs.R.Einf Go.Proofs.C07.ctx).call 45 [(.agg [(.v (.int .i64) p0), (.v (.int .i64) p1), (.v (.int .i64) p2)]), (.agg [(.v (.int .i64) p3), (.v (.int .i64) p4), (.v (.int .i64) p5)])]
noncomputable def nondet_open.l3 (p0 : (List (Int × (Int × Int)))) (p1 : Int) (p2 : Int) (p3 : Int) (p4 : Int) (p5 : Int) (p6 : Int) (p7 : (List Int)) (p8 : (List (Int × (Int × Int)))) (p9 : (List Int)) (p10 : (List Int)) (p11 : (List (Int × (Int × Int)))) (p12 : (List Int)) (p13 : (List (List (Int × (Int × Int))))) (p14 : (List (List (Int × (Int × Int))))) : Option (Int × (Int × ((List Int) × ((List (Int × (Int × Int))) × ((List Int) × ((List (List (Int × (Int × Int)))) × Unit)))))) := Go.Proofs.R.loopAt Go.Proofs.C07.ctx (Go.Proofs.R.Einf Go.Proofs.C07.ctx) 46 3 (.mk [(2, (.one (.ref 7 0))), (3, (.one (.ref 15 0))), (12, (.one (.v (.sl (.pair (.int .i64) (.pair (.int .i64) (.int .i64)))) p0))), (13, (.one (.v (.int .i64) p1))), (14, (.one (.v (.int .i64) p2)))] [(7, (.box 78 [(.v (.int .i64) p3), (.v (.int .i64) p4), (.row 23), (.row 31), (.row 39), (.row 47)])), (15, (.box 78 [(.v (.int .i64) p5), (.v (.int .i64) p6), (.v (.sl (.int .i64)) p7), (.v (.sl (.pair (.int .i64) (.pair (.int .i64) (.int .i64)))) p8), (.v (.sl (.int .i64)) p9), (.row 55)])), (23, (.row 3 (.int .i64) p10 false)), (31, (.row 74 (.pair (.int .i64) (.pair (.int .i64) (.int .i64))) p11 false)), (39, (.row 3 (.int .i64) p12 false)), (47, (.row 23 (.sl (.pair (.int .i64) (.pair (.int .i64) (.int .i64)))) p13 false)), (55, (.rows 23 74 (.pair (.int .i64) (.pair (.int .i64) (.int .i64))) p14 .full))])
noncomputable def nondet_graph_closure.l4 (p0 : Int) (p1 : Int) (p2 : Int) (p3 : Int) (p4 : (List Int)) (p5 : (List (Int × (Int × Int)))) (p6 : (List Int)) (p7 : (List (List (Int × (Int × Int))))) (p8 : (List Bool)) (p9 : (List Int)) : Option ((List Bool) × Unit) := Go.Proofs.R.loopAt Go.Proofs.C07.ctx (Go.Proofs.R.Einf Go.Proofs.C07.ctx) 47 4 (.mk [(2, (.one (.ref 7 0))), (5, (.one (.row 15))), (6, (.one (.row 23))), (18, (.one (.row 23))), (19, (.one (.v (.int .i64) p0))), (20, (.one (.v (.int .i64) p1)))] [(7, (.box 78 [(.v (.int .i64) p2), (.v (.int .i64) p3), (.v (.sl (.int .i64)) p4), (.v (.sl (.pair (.int .i64) (.pair (.int .i64) (.int .i64)))) p5), (.v (.sl (.int .i64)) p6), (.v (.sl (.sl (.pair (.int .i64) (.pair (.int .i64) (.int .i64))))) p7)])), (15, (.row 4 .bool p8 false)), (23, (.row 3 (.int .i64) p9 false))])
noncomputable def automaton_minimal.f (p0 : Int) (p1 : Int) (p2 : (List (List Int))) (p3 : (List Bool)) : Option (Int × (Int × ((List (List Int)) × ((List Bool) × Unit)))) := (Go.Proofs.R.Einf Go.Proofs.C07.ctx).call 78 [(.agg [(.v (.int .i64) p0), (.v (.int .i64) p1), (.v (.sl (.sl (.int .i64))) p2), (.v (.sl .bool) p3)])]
noncomputable def nondet_set_key.l3 (p0 : (List Bool)) (p1 : Int) (p2 : Int) (p3 : (List Int)) : Option (ByteArray × Unit) := Go.Proofs.R.loopAt Go.Proofs.C07.ctx (Go.Proofs.R.Einf Go.Proofs.C07.ctx) 49 3 (.mk [(3, (.one (.ref 7 0))), (7, (.one (.v (.sl .bool) p0))), (8, (.one (.v (.int .i64) p1))), (9, (.one (.v (.int .i64) p2)))] [(7, (.box 106 [.nilp, (.row 15)])), (15, (.row 5 (.int .u8) p3 false))])
noncomputable def nondet_Determine.l17 (p0 : Int) (p1 : Int) (p2 : Int) (p3 : Int) (p4 : Int) (p5 : (List Int)) (p6 : (List (Int × (Int × Int)))) (p7 : (List Int)) (p8 : Int) (p9 : Int) (p10 : Int) (p11 : Int) (p12 : (List Int)) (p13 : (List (Int × (Int × Int)))) (p14 : (List Int)) (p15 : (List (List (Int × (Int × Int))))) (p16 : Int) (p17 : Int) (p18 : (List (ByteArray × Int))) (p19 : (List (List Bool))) (p20 : (List Int)) (p21 : (List (List Int))) (p22 : (List Bool)) (p23 : (List (List Int))) (p24 : (List Bool)) : Option (Int × (Int × ((List (List Int)) × ((List Bool) × (Int × Unit))))) := Go.Proofs.R.loopAt Go.Proofs.C07.ctx (Go.Proofs.R.Einf Go.Proofs.C07.ctx) 14 17 (.mk [(1, (.one (.ref 7 0))), (2, (.one (.ref 15 0))), (5, (.one (.ref 23 0))), (6, (.one (.ref 31 0))), (8, (.one (.mp 39))), (9, (.one (.row 47))), (10, (.one (.v (.int .i64) p0))), (11, (.one (.row 55))), (56, (.one (.v (.int .i64) p1))), (57, (.one (.v (.int .i64) p2)))] [(7, (.box 25 [(.v (.int .i64) p3), (.v (.int .i64) p4), (.v (.sl (.int .i64)) p5), (.v (.sl (.pair (.int .i64) (.pair (.int .i64) (.int .i64)))) p6), (.v (.sl (.int .i64)) p7)])), (15, (.box 34 [(.v (.int .i64) p8), (.v (.int .i64) p9), (.row 63), (.row 71)])), (23, (.box 78 [(.v (.int .i64) p10), (.v (.int .i64) p11), (.v (.sl (.int .i64)) p12), (.v (.sl (.pair (.int .i64) (.pair (.int .i64) (.int .i64)))) p13), (.v (.sl (.int .i64)) p14), (.v (.sl (.sl (.pair (.int .i64) (.pair (.int .i64) (.int .i64))))) p15)])), (31, (.box 34 [(.v (.int .i64) p16), (.v (.int .i64) p17), (.row 79), (.row 87)])), (39, (.mp 9 3 .str (.int .i64) p18)), (47, (.row 80 (.sl .bool) p19 false)), (55, (.row 3 (.int .i64) p20 false)), (63, (.row 22 (.sl (.int .i64)) p21 false)), (71, (.row 4 .bool p22 false)), (79, (.row 22 (.sl (.int .i64)) p23 false)), (87, (.row 4 .bool p24 false))])
noncomputable def ancepsref07_closed.l3 (p0 : (List Int)) (p1 : Int) (p2 : Int) (p3 : Int) (p4 : (List Int)) (p5 : (List (Int × (Int × Int)))) (p6 : (List Int)) (p7 : (List Bool)) : Option ((List Int) × Unit) := Go.Proofs.R.loopAt Go.Proofs.C07.ctx (Go.Proofs.R.Einf Go.Proofs.C07.ctx) 54 3 (.mk [(1, (.one (.v (.sl (.int .i64)) p0))), (2, (.one (.ref 7 0))), (5, (.one (.row 15))), (6, (.one (.v (.int .i64) p1)))] [(7, (.box 25 [(.v (.int .i64) p2), (.v (.int .i64) p3), (.v (.sl (.int .i64)) p4), (.v (.sl (.pair (.int .i64) (.pair (.int .i64) (.int .i64)))) p5), (.v (.sl (.int .i64)) p6)])), (15, (.row 4 .bool p7 false))])
noncomputable def ancepsref07_Determine.l14 (p0 : Int) (p1 : Int) (p2 : Int) (p3 : Int) (p4 : (List Int)) (p5 : (List (Int × (Int × Int)))) (p6 : (List Int)) (p7 : Int) (p8 : Int) (p9 : Int) (p10 : Int) (p11 : (List (List Int))) (p12 : (List Int)) (p13 : (List (List Int))) (p14 : (List Bool)) (p15 : (List (List Int))) (p16 : (List Bool)) : Option (Int × (Int × ((List (List Int)) × ((List Bool) × (Int × Unit))))) := Go.Proofs.R.loopAt Go.Proofs.C07.ctx (Go.Proofs.R.Einf Go.Proofs.C07.ctx) 16 14 (.mk [(1, (.one (.ref 7 0))), (2, (.one (.ref 15 0))), (5, (.one (.ref 23 0))), (6, (.one (.row 31))), (7, (.one (.v (.int .i64) p0))), (8, (.one (.row 39))), (9, (.one (.v (.int .i64) p1)))] [(7, (.box 25 [(.v (.int .i64) p2), (.v (.int .i64) p3), (.v (.sl (.int .i64)) p4), (.v (.sl (.pair (.int .i64) (.pair (.int .i64) (.int .i64)))) p5), (.v (.sl (.int .i64)) p6)])), (15, (.box 34 [(.v (.int .i64) p7), (.v (.int .i64) p8), (.row 47), (.row 55)])), (23, (.box 34 [(.v (.int .i64) p9), (.v (.int .i64) p10), (.row 63), (.row 71)])), (31, (.row 22 (.sl (.int .i64)) p11 false)), (39, (.row 3 (.int .i64) p12 false)), (47, (.row 22 (.sl (.int .i64)) p13 false)), (55, (.row 4 .bool p14 false)), (63, (.row 22 (.sl (.int .i64)) p15 false)), (71, (.row 4 .bool p16 false))])
noncomputable def ancepsref06_Equal.f (p0 : (List Int)) (p1 : (List Int)) : Option (Bool × Unit) := (Go.Proofs.R.Einf Go.Proofs.C07.ctx).call 58 [(.one (.v (.sl (.int .i64)) p0)), (.one (.v (.sl (.int .i64)) p1))]
noncomputable def ancepsref06_SameDFA.l9 (p0 : Int) (p1 : Int) (p2 : Int) (p3 : (List (List Int))) (p4 : (List Bool)) (p5 : Int) (p6 : Int) (p7 : (List (List Int))) (p8 : (List Bool)) : Option (Bool × Unit) := Go.Proofs.R.loopAt Go.Proofs.C07.ctx (Go.Proofs.R.Einf Go.Proofs.C07.ctx) 17 9 (.mk [(2, (.one (.ref 7 0))), (3, (.one (.ref 15 0))), (6, (.one (.v (.int .i64) p0)))] [(7, (.box 34 [(.v (.int .i64) p1), (.v (.int .i64) p2), (.v (.sl (.sl (.int .i64))) p3), (.v (.sl .bool) p4)])), (15, (.box 34 [(.v (.int .i64) p5), (.v (.int .i64) p6), (.v (.sl (.sl (.int .i64))) p7), (.v (.sl .bool) p8)]))])
noncomputable def slices_IndexFunc_int_int.f (p0 : (List Int)) (p1 : Int) (p2 : Int) (p3 : (List Int)) (p4 : (List (Int × (Int × Int)))) (p5 : (List Int)) : Option (Int × Unit) := (Go.Proofs.R.Einf Go.Proofs.C07.ctx).call 84 [(.one (.v (.sl (.int .i64)) p0)), (.one (.clo 60 [(.pref [(.v (.int .i64) p1), (.v (.int .i64) p2), (.v (.sl (.int .i64)) p3), (.v (.sl (.pair (.int .i64) (.pair (.int .i64) (.int .i64)))) p4), (.v (.sl (.int .i64)) p5)] 0)]))]
noncomputable def nondet_graph_step.f (p0 : Int) (p1 : Int) (p2 : (List Int)) (p3 : (List (Int × (Int × Int)))) (p4 : (List Int)) (p5 : (List (List (Int × (Int × Int))))) (p6 : (List Bool)) (p7 : Int) : Option ((List Bool) × Unit) := (Go.Proofs.R.Einf Go.Proofs.C07.ctx).call 50 [(.agg [(.v (.int .i64) p0), (.v (.int .i64) p1), (.v (.sl (.int .i64)) p2), (.v (.sl (.pair (.int .i64) (.pair (.int .i64) (.int .i64)))) p3), (.v (.sl (.int .i64)) p4), (.v (.sl (.sl (.pair (.int .i64) (.pair (.int .i64) (.int .i64))))) p5)]), (.one (.v (.sl .bool) p6)), (.one (.v (.int .i64) p7))]
noncomputable def nondet_graph_accepts.f (p0 : Int) (p1 : Int) (p2 : (List Int)) (p3 : (List (Int × (Int × Int)))) (p4 : (List Int)) (p5 : (List (List (Int × (Int × Int))))) (p6 : (List Bool)) : Option (Bool × Unit) := (Go.Proofs.R.Einf Go.Proofs.C07.ctx).call 52 [(.agg [(.v (.int .i64) p0), (.v (.int .i64) p1), (.v (.sl (.int .i64)) p2), (.v (.sl (.pair (.int .i64) (.pair (.int .i64) (.int .i64)))) p3), (.v (.sl (.int .i64)) p4), (.v (.sl (.sl (.pair (.int .i64) (.pair (.int .i64) (.int .i64))))) p5)]), (.one (.v (.sl .bool) p6))]
noncomputable def ancepsref06_From.f (p0 : Int) (p1 : Int) (p2 : (List (List Int))) (p3 : (List Bool)) (p4 : Int) (p5 : (List Int)) : Option (Int × Unit) := (Go.Proofs.R.Einf Go.Proofs.C07.ctx).call 85 [(.agg [(.v (.int .i64) p0), (.v (.int .i64) p1), (.v (.sl (.sl (.int .i64))) p2), (.v (.sl .bool) p3)]), (.one (.v (.int .i64) p4)), (.one (.v (.sl (.int .i64)) p5))]
noncomputable def slices_IndexFunc_int_int.f1 (p0 : (List Int)) (p1 : Int) (p2 : Int) (p3 : (List Int)) (p4 : (List (Int × (Int × Int)))) (p5 : (List Int)) : Option (Int × Unit) := (Go.Proofs.R.Einf Go.Proofs.C07.ctx).call 84 [(.one (.v (.sl (.int .i64)) p0)), (.one (.clo 62 [(.pref [(.v (.int .i64) p1), (.v (.int .i64) p2), (.v (.sl (.int .i64)) p3), (.v (.sl (.pair (.int .i64) (.pair (.int .i64) (.int .i64)))) p4), (.v (.sl (.int .i64)) p5)] 0)]))]
noncomputable def nondet_set_list.l3 (p0 : (List Bool)) (p1 : Int) (p2 : Int) (p3 : (List Int)) : Option ((List Int) × Unit) := Go.Proofs.R.loopAt Go.Proofs.C07.ctx (Go.Proofs.R.Einf Go.Proofs.C07.ctx) 63 3 (.mk [(3, (.one (.row 7))), (6, (.one (.v (.sl .bool) p0))), (7, (.one (.v (.int .i64) p1))), (8, (.one (.v (.int .i64) p2)))] [(7, (.row 3 (.int .i64) p3 false))])
noncomputable def ancepsref07_Accepts.l11 (p0 : (List Int)) (p1 : Int) (p2 : Int) (p3 : Int) (p4 : (List Int)) (p5 : (List (Int × (Int × Int)))) (p6 : (List Int)) (p7 : (List Int)) : Option (Bool × (Int × Unit)) := Go.Proofs.R.loopAt Go.Proofs.C07.ctx (Go.Proofs.R.Einf Go.Proofs.C07.ctx) 24 11 (.mk [(1, (.one (.v (.sl (.int .i64)) p0))), (2, (.one (.ref 7 0))), (8, (.one (.row 15))), (9, (.one (.v (.int .i64) p1)))] [(7, (.box 25 [(.v (.int .i64) p2), (.v (.int .i64) p3), (.v (.sl (.int .i64)) p4), (.v (.sl (.pair (.int .i64) (.pair (.int .i64) (.int .i64)))) p5), (.v (.sl (.int .i64)) p6)])), (15, (.row 3 (.int .i64) p7 false))])
noncomputable def nondet_ascends.l2 (p0 : (List Int)) (p1 : Int) (p2 : (List Int)) (p3 : Int) (p4 : Int) : Option (Bool × Unit) := Go.Proofs.R.loopAt Go.Proofs.C07.ctx (Go.Proofs.R.Einf Go.Proofs.C07.ctx) 64 2 (.mk [(0, (.one (.v (.sl (.int .i64)) p0))), (1, (.one (.v (.int .i64) p1))), (7, (.one (.v (.sl (.int .i64)) p2))), (8, (.one (.v (.int .i64) p3))), (9, (.one (.v (.int .i64) p4)))] [])
noncomputable def nondet_order.f (p0 : Int) (p1 : Int) (p2 : Int) (p3 : Int) (p4 : Int) (p5 : Int) : Option (Int × Unit) := (Go.Proofs.R.Einf Go.Proofs.C07.ctx).call 65 [(.agg [(.v (.int .i64) p0), (.v (.int .i64) p1), (.v (.int .i64) p2)]), (.agg [(.v (.int .i64) p3), (.v (.int .i64) p4), (.v (.int .i64) p5)])]
noncomputable def ancepsref06_Valid.l12 (p0 : Int) (p1 : Int) (p2 : Int) (p3 : Int) (p4 : Int) (p5 : (List (List Int))) (p6 : (List Bool)) : Option (Int × Unit) := Go.Proofs.R.loopAt Go.Proofs.C07.ctx (Go.Proofs.R.Einf Go.Proofs.C07.ctx) 28 12 (.mk [(1, (.one (.ref 7 0))), (3, (.one (.v (.int .i64) p0))), (4, (.one (.v (.int .i64) p1))), (5, (.one (.v (.int .i64) p2)))] [(7, (.box 34 [(.v (.int .i64) p3), (.v (.int .i64) p4), (.v (.sl (.sl (.int .i64))) p5), (.v (.sl .bool) p6)]))])
noncomputable def automaton_Valid.l7 (p0 : (List (List Int))) (p1 : Int) (p2 : Int) (p3 : Int) (p4 : Int) (p5 : (List (List Int))) (p6 : (List Bool)) (p7 : Int) : Option (Int × Unit) := Go.Proofs.R.loopAt Go.Proofs.C07.ctx (Go.Proofs.R.Einf Go.Proofs.C07.ctx) 66 7 (.mk [(1, (.one (.ref 7 0))), (3, (.one (.ref 15 0))), (47, (.one (.v (.sl (.sl (.int .i64))) p0))), (48, (.one (.v (.int .i64) p1))), (49, (.one (.v (.int .i64) p2)))] [(7, (.box 34 [(.v (.int .i64) p3), (.v (.int .i64) p4), (.v (.sl (.sl (.int .i64))) p5), (.v (.sl .bool) p6)])), (15, (.box 3 [(.v (.int .i64) p7)]))])
noncomputable def nondet_Of.l11 (p0 : Int) (p1 : (List (List Int))) (p2 : Int) (p3 : Int) (p4 : (List Int)) (p5 : Int) (p6 : Int) (p7 : Int) (p8 : Int) (p9 : (List (List Int))) (p10 : (List Bool)) (p11 : Int) (p12 : Int) (p13 : Int) (p14 : Int) (p15 : (List Int)) (p16 : (List (Int × (Int × Int)))) (p17 : (List Int)) (p18 : (List Int)) (p19 : (List (Int × (Int × Int)))) (p20 : (List Int)) : Option (Int × (Int × ((List Int) × ((List (Int × (Int × Int))) × ((List Int) × (Int × Unit)))))) := Go.Proofs.R.loopAt Go.Proofs.C07.ctx (Go.Proofs.R.Einf Go.Proofs.C07.ctx) 29 11 (.mk [(1, (.one (.ref 7 0))), (2, (.one (.ref 15 0))), (5, (.one (.ref 23 0))), (6, (.one (.v (.int .i64) p0))), (30, (.one (.v (.sl (.sl (.int .i64))) p1))), (31, (.one (.v (.int .i64) p2))), (32, (.one (.v (.int .i64) p3))), (37, (.one (.v (.sl (.int .i64)) p4))), (38, (.one (.v (.int .i64) p5))), (39, (.one (.v (.int .i64) p6)))] [(7, (.box 34 [(.v (.int .i64) p7), (.v (.int .i64) p8), (.v (.sl (.sl (.int .i64))) p9), (.v (.sl .bool) p10)])), (15, (.box 25 [(.v (.int .i64) p11), (.v (.int .i64) p12), (.row 31), (.row 39), (.row 47)])), (23, (.box 25 [(.v (.int .i64) p13), (.v (.int .i64) p14), (.row 55), (.row 63), (.row 71)])), (31, (.row 3 (.int .i64) p15 false)), (39, (.row 74 (.pair (.int .i64) (.pair (.int .i64) (.int .i64))) p16 false)), (47, (.row 3 (.int .i64) p17 false)), (55, (.row 3 (.int .i64) p18 false)), (63, (.row 74 (.pair (.int .i64) (.pair (.int .i64) (.int .i64))) p19 false)), (71, (.row 3 (.int .i64) p20 false))])
noncomputable def ancepsref06_classes.f (p0 : Int) (p1 : Int) (p2 : (List (List Int))) (p3 : (List Bool)) : Option ((List Int) × Unit) := (Go.Proofs.R.Einf Go.Proofs.C07.ctx).call 89 [(.agg [(.v (.int .i64) p0), (.v (.int .i64) p1), (.v (.sl (.sl (.int .i64))) p2), (.v (.sl .bool) p3)])]
noncomputable def ancepsref06_minimal.l9 (p0 : Int) (p1 : Int) (p2 : Int) (p3 : (List (List Int))) (p4 : (List Bool)) (p5 : Int) (p6 : Int) (p7 : Int) (p8 : Int) (p9 : (List Int)) (p10 : (List Int)) (p11 : (List (Int × Int))) (p12 : (List (List Int))) (p13 : (List Bool)) (p14 : (List (List Int))) (p15 : (List Bool)) : Option (Int × (Int × ((List (List Int)) × ((List Bool) × Unit)))) := Go.Proofs.R.loopAt Go.Proofs.C07.ctx (Go.Proofs.R.Einf Go.Proofs.C07.ctx) 67 9 (.mk [(1, (.one (.ref 7 0))), (2, (.one (.ref 15 0))), (3, (.one (.ref 23 0))), (4, (.one (.row 31))), (5, (.one (.row 39))), (6, (.one (.mp 47))), (7, (.one (.v (.int .i64) p0)))] [(7, (.box 34 [(.v (.int .i64) p1), (.v (.int .i64) p2), (.v (.sl (.sl (.int .i64))) p3), (.v (.sl .bool) p4)])), (15, (.box 34 [(.v (.int .i64) p5), (.v (.int .i64) p6), (.row 55), (.row 63)])), (23, (.box 34 [(.v (.int .i64) p7), (.v (.int .i64) p8), (.row 71), (.row 79)])), (31, (.row 3 (.int .i64) p9 false)), (39, (.row 3 (.int .i64) p10 false)), (47, (.mp 3 3 (.int .i64) (.int .i64) p11)), (55, (.row 22 (.sl (.int .i64)) p12 false)), (63, (.row 4 .bool p13 false)), (71, (.row 22 (.sl (.int .i64)) p14 false)), (79, (.row 4 .bool p15 false))])
noncomputable def nondet_graph_closure.l8 (p0 : Int) (p1 : Int) (p2 : (List Int)) (p3 : (List (Int × (Int × Int)))) (p4 : (List Int)) (p5 : (List (List (Int × (Int × Int))))) (p6 : (List Bool)) (p7 : (List Int)) : Option ((List Bool) × Unit) := Go.Proofs.R.loopAt Go.Proofs.C07.ctx (Go.Proofs.R.Einf Go.Proofs.C07.ctx) 47 8 (.mk [(2, (.one (.ref 7 0))), (5, (.one (.row 15))), (6, (.one (.row 23)))] [(7, (.box 78 [(.v (.int .i64) p0), (.v (.int .i64) p1), (.v (.sl (.int .i64)) p2), (.v (.sl (.pair (.int .i64) (.pair (.int .i64) (.int .i64)))) p3), (.v (.sl (.int .i64)) p4), (.v (.sl (.sl (.pair (.int .i64) (.pair (.int .i64) (.int .i64))))) p5)])), (15, (.row 4 .bool p6 false)), (23, (.row 3 (.int .i64) p7 false))])
noncomputable def automaton_classes.f (p0 : Int) (p1 : Int) (p2 : (List (List Int))) (p3 : (List Bool)) : Option ((List Int) × Unit) := (Go.Proofs.R.Einf Go.Proofs.C07.ctx).call 91 [(.agg [(.v (.int .i64) p0), (.v (.int .i64) p1), (.v (.sl (.sl (.int .i64))) p2), (.v (.sl .bool) p3)])]
noncomputable def automaton_minimal.l11 (p0 : Int) (p1 : Int) (p2 : Int) (p3 : (List (List Int))) (p4 : (List Bool)) (p5 : Int) (p6 : Int) (p7 : Int) (p8 : Int) (p9 : (List Int)) (p10 : (List (Int × Int))) (p11 : (List Int)) (p12 : (List (List Int))) (p13 : (List Bool)) (p14 : (List (List Int))) (p15 : (List Bool)) : Option (Int × (Int × ((List (List Int)) × ((List Bool) × Unit)))) := Go.Proofs.R.loopAt Go.Proofs.C07.ctx (Go.Proofs.R.Einf Go.Proofs.C07.ctx) 78 11 (.mk [(1, (.one (.ref 7 0))), (2, (.one (.ref 15 0))), (3, (.one (.ref 23 0))), (4, (.one (.row 31))), (5, (.one (.mp 39))), (6, (.one (.row 47))), (7, (.one (.v (.int .i64) p0)))] [(7, (.box 34 [(.v (.int .i64) p1), (.v (.int .i64) p2), (.v (.sl (.sl (.int .i64))) p3), (.v (.sl .bool) p4)])), (15, (.box 34 [(.v (.int .i64) p5), (.v (.int .i64) p6), (.row 55), (.row 63)])), (23, (.box 34 [(.v (.int .i64) p7), (.v (.int .i64) p8), (.row 71), (.row 79)])), (31, (.row 3 (.int .i64) p9 false)), (39, (.mp 3 3 (.int .i64) (.int .i64) p10)), (47, (.row 3 (.int .i64) p11 false)), (55, (.row 22 (.sl (.int .i64)) p12 false)), (63, (.row 4 .bool p13 false)), (71, (.row 22 (.sl (.int .i64)) p14 false)), (79, (.row 4 .bool p15 false))])
noncomputable def nondet_set_key.l3_1 (p0 : (List Bool)) (p1 : Int) (p2 : Int) (p3 : (List Int)) : Option (ByteArray × Unit) := Go.Proofs.R.loopAt Go.Proofs.C07.ctx (Go.Proofs.R.Einf Go.Proofs.C07.ctx) 49 3 (.mk [(3, (.one (.ref 7 0))), (7, (.one (.v (.sl .bool) p0))), (8, (.one (.v (.int .i64) p1))), (9, (.one (.v (.int .i64) p2)))] [(7, (.box 106 [(.ref 7 0), (.row 15)])), (15, (.row 5 (.int .u8) p3 false))])
noncomputable def nondet_set_bool.f (p0 : (List Bool)) (p1 : Bool) : Option (Bool × Unit) := (Go.Proofs.R.Einf Go.Proofs.C07.ctx).call 51 [(.one (.v (.sl .bool) p0)), (.one (.v .bool p1))]
noncomputable def ancepsref07_closed.l7 (p0 : Bool) (p1 : Int) (p2 : Int) (p3 : (List Int)) (p4 : (List (Int × (Int × Int)))) (p5 : (List Int)) (p6 : (List Bool)) : Option ((List Int) × Unit) := Go.Proofs.R.loopAt Go.Proofs.C07.ctx (Go.Proofs.R.Einf Go.Proofs.C07.ctx) 54 7 (.mk [(2, (.one (.ref 7 0))), (5, (.one (.row 15))), (7, (.one (.v .bool p0)))] [(7, (.box 25 [(.v (.int .i64) p1), (.v (.int .i64) p2), (.v (.sl (.int .i64)) p3), (.v (.sl (.pair (.int .i64) (.pair (.int .i64) (.int .i64)))) p4), (.v (.sl (.int .i64)) p5)])), (15, (.row 4 .bool p6 false))])
noncomputable def ancepsref07_next.f (p0 : Int) (p1 : Int) (p2 : (List Int)) (p3 : (List (Int × (Int × Int)))) (p4 : (List Int)) (p5 : (List Int)) (p6 : Int) : Option ((List Int) × Unit) := (Go.Proofs.R.Einf Go.Proofs.C07.ctx).call 55 [(.agg [(.v (.int .i64) p0), (.v (.int .i64) p1), (.v (.sl (.int .i64)) p2), (.v (.sl (.pair (.int .i64) (.pair (.int .i64) (.int .i64)))) p3), (.v (.sl (.int .i64)) p4)]), (.one (.v (.sl (.int .i64)) p5)), (.one (.v (.int .i64) p6))]
noncomputable def ancepsref07_find.f (p0 : (List (List Int))) (p1 : (List Int)) : Option (Int × Unit) := (Go.Proofs.R.Einf Go.Proofs.C07.ctx).call 56 [(.one (.v (.sl (.sl (.int .i64))) p0)), (.one (.v (.sl (.int .i64)) p1))]
noncomputable def ancepsref07_meets.f (p0 : (List Int)) (p1 : (List Int)) : Option (Bool × Unit) := (Go.Proofs.R.Einf Go.Proofs.C07.ctx).call 57 [(.one (.v (.sl (.int .i64)) p0)), (.one (.v (.sl (.int .i64)) p1))]
noncomputable def ancepsref06_Equal.l4 (p0 : (List Int)) (p1 : (List Int)) (p2 : Int) : Option (Bool × Unit) := Go.Proofs.R.loopAt Go.Proofs.C07.ctx (Go.Proofs.R.Einf Go.Proofs.C07.ctx) 58 4 (.mk [(0, (.one (.v (.sl (.int .i64)) p0))), (1, (.one (.v (.sl (.int .i64)) p1))), (5, (.one (.v (.int .i64) p2)))] [])
noncomputable def slices_IndexFunc_int_int.l2 (p0 : (List Int)) (p1 : Int) (p2 : Int) (p3 : (List Int)) (p4 : (List (Int × (Int × Int)))) (p5 : (List Int)) (p6 : Int) (p7 : Int) : Option (Int × Unit) := Go.Proofs.R.loopAt Go.Proofs.C07.ctx (Go.Proofs.R.Einf Go.Proofs.C07.ctx) 84 2 (.mk [(0, (.one (.v (.sl (.int .i64)) p0))), (1, (.one (.clo 60 [(.pref [(.v (.int .i64) p1), (.v (.int .i64) p2), (.v (.sl (.int .i64)) p3), (.v (.sl (.pair (.int .i64) (.pair (.int .i64) (.int .i64)))) p4), (.v (.sl (.int .i64)) p5)] 0)]))), (7, (.one (.v (.int .i64) p6))), (8, (.one (.v (.int .i64) p7)))] [])
noncomputable def nondet_graph_step.l3 (p0 : Int) (p1 : Int) (p2 : Int) (p3 : Int) (p4 : Int) (p5 : (List Int)) (p6 : (List (Int × (Int × Int)))) (p7 : (List Int)) (p8 : (List (List (Int × (Int × Int))))) (p9 : (List Int)) (p10 : (List Int)) : Option ((List Bool) × Unit) := Go.Proofs.R.loopAt Go.Proofs.C07.ctx (Go.Proofs.R.Einf Go.Proofs.C07.ctx) 50 3 (.mk [(2, (.one (.v (.int .i64) p0))), (3, (.one (.ref 7 0))), (7, (.one (.row 15))), (13, (.one (.row 23))), (14, (.one (.v (.int .i64) p1))), (15, (.one (.v (.int .i64) p2)))] [(7, (.box 78 [(.v (.int .i64) p3), (.v (.int .i64) p4), (.v (.sl (.int .i64)) p5), (.v (.sl (.pair (.int .i64) (.pair (.int .i64) (.int .i64)))) p6), (.v (.sl (.int .i64)) p7), (.v (.sl (.sl (.pair (.int .i64) (.pair (.int .i64) (.int .i64))))) p8)])), (15, (.row 3 (.int .i64) p9 false)), (23, (.row 3 (.int .i64) p10 false))])
noncomputable def slices_ContainsFunc_int_int.f2 (p0 : (List Int)) (p1 : (List Bool)) : Option (Bool × Unit) := (Go.Proofs.R.Einf Go.Proofs.C07.ctx).call 59 [(.one (.v (.sl (.int .i64)) p0)), (.one (.clo 82 [(.pref [(.v (.sl .bool) p1)] 0)]))]
noncomputable def ancepsref06_From.l2 (p0 : Int) (p1 : (List Int)) (p2 : Int) (p3 : Int) (p4 : Int) (p5 : (List (List Int))) (p6 : (List Bool)) : Option (Int × Unit) := Go.Proofs.R.loopAt Go.Proofs.C07.ctx (Go.Proofs.R.Einf Go.Proofs.C07.ctx) 85 2 (.mk [(1, (.one (.v (.int .i64) p0))), (2, (.one (.v (.sl (.int .i64)) p1))), (3, (.one (.ref 7 0))), (7, (.one (.v (.int .i64) p2)))] [(7, (.box 34 [(.v (.int .i64) p3), (.v (.int .i64) p4), (.v (.sl (.sl (.int .i64))) p5), (.v (.sl .bool) p6)]))])
noncomputable def slices_IndexFunc_int_int.l2_1 (p0 : (List Int)) (p1 : Int) (p2 : Int) (p3 : (List Int)) (p4 : (List (Int × (Int × Int)))) (p5 : (List Int)) (p6 : Int) (p7 : Int) : Option (Int × Unit) := Go.Proofs.R.loopAt Go.Proofs.C07.ctx (Go.Proofs.R.Einf Go.Proofs.C07.ctx) 84 2 (.mk [(0, (.one (.v (.sl (.int .i64)) p0))), (1, (.one (.clo 62 [(.pref [(.v (.int .i64) p1), (.v (.int .i64) p2), (.v (.sl (.int .i64)) p3), (.v (.sl (.pair (.int .i64) (.pair (.int .i64) (.int .i64)))) p4), (.v (.sl (.int .i64)) p5)] 0)]))), (7, (.one (.v (.int .i64) p6))), (8, (.one (.v (.int .i64) p7)))] [])
noncomputable def cmp_Compare_int.f (p0 : Int) (p1 : Int) : Option (Int × Unit) := (Go.Proofs.R.Einf Go.Proofs.C07.ctx).call 87 [(.one (.v (.int .i64) p0)), (.one (.v (.int .i64) p1))]
noncomputable def cmp_Or_int.f (p0 : (List Int)) : Option (Int × Unit) := (Go.Proofs.R.Einf Go.Proofs.C07.ctx).call 86 [(.one (.v (.sl (.int .i64)) p0))]
noncomputable def slices_ContainsFunc_int_int.f3 (p0 : (List Int)) (p1 : Int) : Option (Bool × Unit) := (Go.Proofs.R.Einf Go.Proofs.C07.ctx).call 59 [(.one (.v (.sl (.int .i64)) p0)), (.one (.clo 88 [(.pref [(.v (.int .i64) p1)] 0)]))]
noncomputable def ancepsref06_Live.f (p0 : Int) (p1 : Int) (p2 : (List (List Int))) (p3 : (List Bool)) : Option ((List Bool) × Unit) := (Go.Proofs.R.Einf Go.Proofs.C07.ctx).call 95 [(.agg [(.v (.int .i64) p0), (.v (.int .i64) p1), (.v (.sl (.sl (.int .i64))) p2), (.v (.sl .bool) p3)])]
noncomputable def ancepsref06_classes.l4 (p0 : Int) (p1 : Int) (p2 : Int) (p3 : (List (List Int))) (p4 : (List Bool)) (p5 : (List Bool)) (p6 : (List Int)) : Option ((List Int) × Unit) := Go.Proofs.R.loopAt Go.Proofs.C07.ctx (Go.Proofs.R.Einf Go.Proofs.C07.ctx) 89 4 (.mk [(1, (.one (.ref 7 0))), (3, (.one (.row 15))), (4, (.one (.row 23))), (5, (.one (.v (.int .i64) p0)))] [(7, (.box 34 [(.v (.int .i64) p1), (.v (.int .i64) p2), (.v (.sl (.sl (.int .i64))) p3), (.v (.sl .bool) p4)])), (15, (.row 4 .bool p5 false)), (23, (.row 3 (.int .i64) p6 false))])
noncomputable def ancepsref06_minimal.l13 (p0 : Int) (p1 : Int) (p2 : Int) (p3 : Int) (p4 : (List (List Int))) (p5 : (List Bool)) (p6 : Int) (p7 : Int) (p8 : Int) (p9 : Int) (p10 : (List Int)) (p11 : (List Int)) (p12 : (List (Int × Int))) (p13 : (List Int)) (p14 : (List (List Int))) (p15 : (List Bool)) (p16 : (List (List Int))) (p17 : (List Bool)) : Option (Int × (Int × ((List (List Int)) × ((List Bool) × Unit)))) := Go.Proofs.R.loopAt Go.Proofs.C07.ctx (Go.Proofs.R.Einf Go.Proofs.C07.ctx) 67 13 (.mk [(1, (.one (.ref 7 0))), (2, (.one (.ref 15 0))), (3, (.one (.ref 23 0))), (4, (.one (.row 31))), (5, (.one (.row 39))), (6, (.one (.mp 47))), (7, (.one (.v (.int .i64) p0))), (8, (.one (.row 55))), (9, (.one (.v (.int .i64) p1)))] [(7, (.box 34 [(.v (.int .i64) p2), (.v (.int .i64) p3), (.v (.sl (.sl (.int .i64))) p4), (.v (.sl .bool) p5)])), (15, (.box 34 [(.v (.int .i64) p6), (.v (.int .i64) p7), (.row 63), (.row 71)])), (23, (.box 34 [(.v (.int .i64) p8), (.v (.int .i64) p9), (.row 79), (.row 87)])), (31, (.row 3 (.int .i64) p10 false)), (39, (.row 3 (.int .i64) p11 false)), (47, (.mp 3 3 (.int .i64) (.int .i64) p12)), (55, (.row 3 (.int .i64) p13 false)), (63, (.row 22 (.sl (.int .i64)) p14 false)), (71, (.row 4 .bool p15 false)), (79, (.row 22 (.sl (.int .i64)) p16 false)), (87, (.row 4 .bool p17 false))])
noncomputable def nondet_graph_closure.l12 (p0 : (List (Int × (Int × Int)))) (p1 : Int) (p2 : Int) (p3 : Int) (p4 : Int) (p5 : (List Int)) (p6 : (List (Int × (Int × Int)))) (p7 : (List Int)) (p8 : (List (List (Int × (Int × Int))))) (p9 : (List Bool)) (p10 : (List Int)) : Option ((List Bool) × Unit) := Go.Proofs.R.loopAt Go.Proofs.C07.ctx (Go.Proofs.R.Einf Go.Proofs.C07.ctx) 47 12 (.mk [(2, (.one (.ref 7 0))), (5, (.one (.row 15))), (6, (.one (.row 23))), (46, (.one (.v (.sl (.pair (.int .i64) (.pair (.int .i64) (.int .i64)))) p0))), (47, (.one (.v (.int .i64) p1))), (48, (.one (.v (.int .i64) p2)))] [(7, (.box 78 [(.v (.int .i64) p3), (.v (.int .i64) p4), (.v (.sl (.int .i64)) p5), (.v (.sl (.pair (.int .i64) (.pair (.int .i64) (.int .i64)))) p6), (.v (.sl (.int .i64)) p7), (.v (.sl (.sl (.pair (.int .i64) (.pair (.int .i64) (.int .i64))))) p8)])), (15, (.row 4 .bool p9 false)), (23, (.row 3 (.int .i64) p10 false))])
noncomputable def automaton_useful.f (p0 : Int) (p1 : Int) (p2 : (List (List Int))) (p3 : (List Bool)) : Option ((List Bool) × Unit) := (Go.Proofs.R.Einf Go.Proofs.C07.ctx).call 99 [(.agg [(.v (.int .i64) p0), (.v (.int .i64) p1), (.v (.sl (.sl (.int .i64))) p2), (.v (.sl .bool) p3)])]
noncomputable def automaton_classes.l4 (p0 : Int) (p1 : Int) (p2 : Int) (p3 : Int) (p4 : (List (List Int))) (p5 : (List Bool)) (p6 : (List Bool)) (p7 : (List Int)) : Option ((List Int) × Unit) := Go.Proofs.R.loopAt Go.Proofs.C07.ctx (Go.Proofs.R.Einf Go.Proofs.C07.ctx) 91 4 (.mk [(1, (.one (.ref 7 0))), (3, (.one (.row 15))), (4, (.one (.row 23))), (21, (.one (.v (.int .i64) p0))), (22, (.one (.v (.int .i64) p1)))] [(7, (.box 34 [(.v (.int .i64) p2), (.v (.int .i64) p3), (.v (.sl (.sl (.int .i64))) p4), (.v (.sl .bool) p5)])), (15, (.row 4 .bool p6 false)), (23, (.row 3 (.int .i64) p7 false))])
noncomputable def automaton_minimal.l16 (p0 : Int) (p1 : Int) (p2 : (List Int)) (p3 : Int) (p4 : Int) (p5 : Int) (p6 : Int) (p7 : (List (List Int))) (p8 : (List Bool)) (p9 : Int) (p10 : Int) (p11 : Int) (p12 : Int) (p13 : (List Int)) (p14 : (List (Int × Int))) (p15 : (List Int)) (p16 : (List Int)) (p17 : (List (List Int))) (p18 : (List Bool)) (p19 : (List (List Int))) (p20 : (List Bool)) : Option (Int × (Int × ((List (List Int)) × ((List Bool) × Unit)))) := Go.Proofs.R.loopAt Go.Proofs.C07.ctx (Go.Proofs.R.Einf Go.Proofs.C07.ctx) 78 16 (.mk [(1, (.one (.ref 7 0))), (2, (.one (.ref 15 0))), (3, (.one (.ref 23 0))), (4, (.one (.row 31))), (5, (.one (.mp 39))), (6, (.one (.row 47))), (7, (.one (.v (.int .i64) p0))), (8, (.one (.v (.int .i64) p1))), (9, (.one (.row 55))), (58, (.one (.v (.sl (.int .i64)) p2))), (59, (.one (.v (.int .i64) p3))), (60, (.one (.v (.int .i64) p4)))] [(7, (.box 34 [(.v (.int .i64) p5), (.v (.int .i64) p6), (.v (.sl (.sl (.int .i64))) p7), (.v (.sl .bool) p8)])), (15, (.box 34 [(.v (.int .i64) p9), (.v (.int .i64) p10), (.row 63), (.row 71)])), (23, (.box 34 [(.v (.int .i64) p11), (.v (.int .i64) p12), (.row 79), (.row 87)])), (31, (.row 3 (.int .i64) p13 false)), (39, (.mp 3 3 (.int .i64) (.int .i64) p14)), (47, (.row 3 (.int .i64) p15 false)), (55, (.row 3 (.int .i64) p16 false)), (63, (.row 22 (.sl (.int .i64)) p17 false)), (71, (.row 4 .bool p18 false)), (79, (.row 22 (.sl (.int .i64)) p19 false)), (87, (.row 4 .bool p20 false))])
noncomputable def nondet_set_bool_81.f (p0 : (List Bool)) (p1 : Bool) : Option (Int × Unit) := (Go.Proofs.R.Einf Go.Proofs.C07.ctx).call 81 [(.one (.v (.sl .bool) p0)), (.one (.v .bool p1))]
noncomputable def ancepsref07_closed.l10 (p0 : Bool) (p1 : Int) (p2 : Int) (p3 : Int) (p4 : (List Int)) (p5 : (List (Int × (Int × Int)))) (p6 : (List Int)) (p7 : (List Bool)) : Option ((List Int) × Unit) := Go.Proofs.R.loopAt Go.Proofs.C07.ctx (Go.Proofs.R.Einf Go.Proofs.C07.ctx) 54 10 (.mk [(2, (.one (.ref 7 0))), (5, (.one (.row 15))), (7, (.one (.v .bool p0))), (8, (.one (.v (.int .i64) p1)))] [(7, (.box 25 [(.v (.int .i64) p2), (.v (.int .i64) p3), (.v (.sl (.int .i64)) p4), (.v (.sl (.pair (.int .i64) (.pair (.int .i64) (.int .i64)))) p5), (.v (.sl (.int .i64)) p6)])), (15, (.row 4 .bool p7 false))])
noncomputable def ancepsref07_members.f (p0 : (List Bool)) : Option ((List Int) × Unit) := (Go.Proofs.R.Einf Go.Proofs.C07.ctx).call 83 [(.one (.v (.sl .bool) p0))]
noncomputable def ancepsref07_next.l3 (p0 : (List Int)) (p1 : Int) (p2 : Int) (p3 : Int) (p4 : Int) (p5 : (List Int)) (p6 : (List (Int × (Int × Int)))) (p7 : (List Int)) (p8 : (List Bool)) : Option ((List Int) × Unit) := Go.Proofs.R.loopAt Go.Proofs.C07.ctx (Go.Proofs.R.Einf Go.Proofs.C07.ctx) 55 3 (.mk [(1, (.one (.v (.sl (.int .i64)) p0))), (2, (.one (.v (.int .i64) p1))), (3, (.one (.ref 7 0))), (7, (.one (.row 15))), (8, (.one (.v (.int .i64) p2)))] [(7, (.box 25 [(.v (.int .i64) p3), (.v (.int .i64) p4), (.v (.sl (.int .i64)) p5), (.v (.sl (.pair (.int .i64) (.pair (.int .i64) (.int .i64)))) p6), (.v (.sl (.int .i64)) p7)])), (15, (.row 4 .bool p8 false))])
noncomputable def ancepsref07_find.l2 (p0 : (List (List Int))) (p1 : (List Int)) (p2 : Int) : Option (Int × Unit) := Go.Proofs.R.loopAt Go.Proofs.C07.ctx (Go.Proofs.R.Einf Go.Proofs.C07.ctx) 56 2 (.mk [(0, (.one (.v (.sl (.sl (.int .i64))) p0))), (1, (.one (.v (.sl (.int .i64)) p1))), (5, (.one (.v (.int .i64) p2)))] [])
noncomputable def ancepsref07_meets.l2 (p0 : (List Int)) (p1 : (List Int)) (p2 : Int) : Option (Bool × Unit) := Go.Proofs.R.loopAt Go.Proofs.C07.ctx (Go.Proofs.R.Einf Go.Proofs.C07.ctx) 57 2 (.mk [(0, (.one (.v (.sl (.int .i64)) p0))), (1, (.one (.v (.sl (.int .i64)) p1))), (5, (.one (.v (.int .i64) p2)))] [])
noncomputable def nondet_Accepts_1.f (p0 : Int) (p1 : Int) (p2 : Int) (p3 : (List Int)) (p4 : (List (Int × (Int × Int)))) (p5 : (List Int)) : Option (Bool × Unit) := (Go.Proofs.R.Einf Go.Proofs.C07.ctx).call 60 [(.one (.v (.int .i64) p0)), (.one (.pref [(.v (.int .i64) p1), (.v (.int .i64) p2), (.v (.sl (.int .i64)) p3), (.v (.sl (.pair (.int .i64) (.pair (.int .i64) (.int .i64)))) p4), (.v (.sl (.int .i64)) p5)] 0))]
noncomputable def nondet_graph_step.l6 (p0 : Int) (p1 : Int) (p2 : Int) (p3 : (List (Int × (Int × Int)))) (p4 : Int) (p5 : Int) (p6 : Int) (p7 : Int) (p8 : (List Int)) (p9 : (List (Int × (Int × Int)))) (p10 : (List Int)) (p11 : (List (List (Int × (Int × Int))))) (p12 : (List Int)) (p13 : (List Int)) : Option ((List Bool) × Unit) := Go.Proofs.R.loopAt Go.Proofs.C07.ctx (Go.Proofs.R.Einf Go.Proofs.C07.ctx) 50 6 (.mk [(2, (.one (.v (.int .i64) p0))), (3, (.one (.ref 7 0))), (7, (.one (.row 15))), (13, (.one (.row 23))), (14, (.one (.v (.int .i64) p1))), (15, (.one (.v (.int .i64) p2))), (23, (.one (.v (.sl (.pair (.int .i64) (.pair (.int .i64) (.int .i64)))) p3))), (24, (.one (.v (.int .i64) p4))), (25, (.one (.v (.int .i64) p5)))] [(7, (.box 78 [(.v (.int .i64) p6), (.v (.int .i64) p7), (.v (.sl (.int .i64)) p8), (.v (.sl (.pair (.int .i64) (.pair (.int .i64) (.int .i64)))) p9), (.v (.sl (.int .i64)) p10), (.v (.sl (.sl (.pair (.int .i64) (.pair (.int .i64) (.int .i64))))) p11)])), (15, (.row 3 (.int .i64) p12 false)), (23, (.row 3 (.int .i64) p13 false))])
noncomputable def slices_IndexFunc_int_int.f2 (p0 : (List Int)) (p1 : (List Bool)) : Option (Int × Unit) := (Go.Proofs.R.Einf Go.Proofs.C07.ctx).call 84 [(.one (.v (.sl (.int .i64)) p0)), (.one (.clo 82 [(.pref [(.v (.sl .bool) p1)] 0)]))]
noncomputable def ancepsref06_step.f (p0 : Int) (p1 : Int) (p2 : (List (List Int))) (p3 : (List Bool)) (p4 : Int) (p5 : Int) : Option (Int × Unit) := (Go.Proofs.R.Einf Go.Proofs.C07.ctx).call 93 [(.agg [(.v (.int .i64) p0), (.v (.int .i64) p1), (.v (.sl (.sl (.int .i64))) p2), (.v (.sl .bool) p3)]), (.one (.v (.int .i64) p4)), (.one (.v (.int .i64) p5))]
noncomputable def nondet_Closure_1.f (p0 : Int) (p1 : Int) (p2 : Int) (p3 : (List Int)) (p4 : (List (Int × (Int × Int)))) (p5 : (List Int)) : Option (Bool × Unit) := (Go.Proofs.R.Einf Go.Proofs.C07.ctx).call 62 [(.one (.v (.int .i64) p0)), (.one (.pref [(.v (.int .i64) p1), (.v (.int .i64) p2), (.v (.sl (.int .i64)) p3), (.v (.sl (.pair (.int .i64) (.pair (.int .i64) (.int .i64)))) p4), (.v (.sl (.int .i64)) p5)] 0))]
noncomputable def cmp_isNaN_int.f (p0 : Int) : Option (Bool × Unit) := (Go.Proofs.R.Einf Go.Proofs.C07.ctx).call 94 [(.one (.v (.int .i64) p0))]
noncomputable def cmp_Or_int.l3 (p0 : Int) (p1 : (List Int)) (p2 : Int) (p3 : Int) : Option (Int × Unit) := Go.Proofs.R.loopAt Go.Proofs.C07.ctx (Go.Proofs.R.Einf Go.Proofs.C07.ctx) 86 3 (.mk [(3, (.one (.v (.int .i64) p0))), (6, (.one (.v (.sl (.int .i64)) p1))), (7, (.one (.v (.int .i64) p2))), (8, (.one (.v (.int .i64) p3)))] [])
noncomputable def slices_IndexFunc_int_int.f3 (p0 : (List Int)) (p1 : Int) : Option (Int × Unit) := (Go.Proofs.R.Einf Go.Proofs.C07.ctx).call 84 [(.one (.v (.sl (.int .i64)) p0)), (.one (.clo 88 [(.pref [(.v (.int .i64) p1)] 0)]))]
noncomputable def ancepsref06_Live.l3 (p0 : Bool) (p1 : Int) (p2 : Int) (p3 : (List (List Int))) (p4 : (List Bool)) (p5 : (List Bool)) : Option ((List Bool) × Unit) := Go.Proofs.R.loopAt Go.Proofs.C07.ctx (Go.Proofs.R.Einf Go.Proofs.C07.ctx) 95 3 (.mk [(1, (.one (.ref 7 0))), (3, (.one (.row 15))), (4, (.one (.v .bool p0)))] [(7, (.box 34 [(.v (.int .i64) p1), (.v (.int .i64) p2), (.v (.sl (.sl (.int .i64))) p3), (.v (.sl .bool) p4)])), (15, (.row 4 .bool p5 false))])
noncomputable def ancepsref06_classes.l11 (p0 : Int) (p1 : Int) (p2 : Int) (p3 : (List (List Int))) (p4 : (List Bool)) (p5 : (List Bool)) (p6 : (List Int)) : Option ((List Int) × Unit) := Go.Proofs.R.loopAt Go.Proofs.C07.ctx (Go.Proofs.R.Einf Go.Proofs.C07.ctx) 89 11 (.mk [(1, (.one (.ref 7 0))), (3, (.one (.row 15))), (4, (.one (.row 23))), (6, (.one (.v (.int .i64) p0)))] [(7, (.box 34 [(.v (.int .i64) p1), (.v (.int .i64) p2), (.v (.sl (.sl (.int .i64))) p3), (.v (.sl .bool) p4)])), (15, (.row 4 .bool p5 false)), (23, (.row 3 (.int .i64) p6 false))])
noncomputable def automaton_useful.l3 (p0 : (List (List Int))) (p1 : Int) (p2 : Int) (p3 : Int) (p4 : Int) (p5 : (List (List Int))) (p6 : (List Bool)) (p7 : (List (List Int))) : Option ((List Bool) × Unit) := Go.Proofs.R.loopAt Go.Proofs.C07.ctx (Go.Proofs.R.Einf Go.Proofs.C07.ctx) 99 3 (.mk [(1, (.one (.ref 7 0))), (3, (.one (.row 15))), (20, (.one (.v (.sl (.sl (.int .i64))) p0))), (21, (.one (.v (.int .i64) p1))), (22, (.one (.v (.int .i64) p2)))] [(7, (.box 34 [(.v (.int .i64) p3), (.v (.int .i64) p4), (.v (.sl (.sl (.int .i64))) p5), (.v (.sl .bool) p6)])), (15, (.rows 22 3 (.int .i64) p7 .full))])
noncomputable def automaton_classes.l12 (p0 : Int) (p1 : Int) (p2 : Int) (p3 : (List (List Int))) (p4 : (List Bool)) (p5 : (List Int)) : Option ((List Int) × Unit) := Go.Proofs.R.loopAt Go.Proofs.C07.ctx (Go.Proofs.R.Einf Go.Proofs.C07.ctx) 91 12 (.mk [(1, (.one (.ref 7 0))), (4, (.one (.row 15))), (6, (.one (.v (.int .i64) p0)))] [(7, (.box 34 [(.v (.int .i64) p1), (.v (.int .i64) p2), (.v (.sl (.sl (.int .i64))) p3), (.v (.sl .bool) p4)])), (15, (.row 3 (.int .i64) p5 false))])
noncomputable def nondet_set_bool_81.l2 (p0 : (List Bool)) (p1 : Bool) (p2 : Int) (p3 : Int) : Option (Int × Unit) := Go.Proofs.R.loopAt Go.Proofs.C07.ctx (Go.Proofs.R.Einf Go.Proofs.C07.ctx) 81 2 (.mk [(0, (.one (.v (.sl .bool) p0))), (1, (.one (.v .bool p1))), (7, (.one (.v (.int .i64) p2))), (8, (.one (.v (.int .i64) p3)))] [])
noncomputable def ancepsref07_members.l3 (p0 : (List Bool)) (p1 : Int) (p2 : (List Int)) : Option ((List Int) × Unit) := Go.Proofs.R.loopAt Go.Proofs.C07.ctx (Go.Proofs.R.Einf Go.Proofs.C07.ctx) 83 3 (.mk [(0, (.one (.v (.sl .bool) p0))), (3, (.one (.row 7))), (4, (.one (.v (.int .i64) p1)))] [(7, (.row 3 (.int .i64) p2 false))])
noncomputable def ancepsref07_next.l8 (p0 : Int) (p1 : Int) (p2 : Int) (p3 : Int) (p4 : (List Int)) (p5 : (List (Int × (Int × Int)))) (p6 : (List Int)) (p7 : (List Bool)) (p8 : (List Bool)) : Option ((List Int) × Unit) := Go.Proofs.R.loopAt Go.Proofs.C07.ctx (Go.Proofs.R.Einf Go.Proofs.C07.ctx) 55 8 (.mk [(2, (.one (.v (.int .i64) p0))), (3, (.one (.ref 7 0))), (7, (.one (.row 15))), (9, (.one (.row 23))), (10, (.one (.v (.int .i64) p1)))] [(7, (.box 25 [(.v (.int .i64) p2), (.v (.int .i64) p3), (.v (.sl (.int .i64)) p4), (.v (.sl (.pair (.int .i64) (.pair (.int .i64) (.int .i64)))) p5), (.v (.sl (.int .i64)) p6)])), (15, (.row 4 .bool p7 false)), (23, (.row 4 .bool p8 false))])
noncomputable def ancepsref07_meets.l5 (p0 : (List Int)) (p1 : (List Int)) (p2 : Int) (p3 : Int) : Option (Bool × Unit) := Go.Proofs.R.loopAt Go.Proofs.C07.ctx (Go.Proofs.R.Einf Go.Proofs.C07.ctx) 57 5 (.mk [(0, (.one (.v (.sl (.int .i64)) p0))), (1, (.one (.v (.sl (.int .i64)) p1))), (5, (.one (.v (.int .i64) p2))), (6, (.one (.v (.int .i64) p3)))] [])
noncomputable def slices_IndexFunc_int_int.l2_2 (p0 : (List Int)) (p1 : (List Bool)) (p2 : Int) (p3 : Int) : Option (Int × Unit) := Go.Proofs.R.loopAt Go.Proofs.C07.ctx (Go.Proofs.R.Einf Go.Proofs.C07.ctx) 84 2 (.mk [(0, (.one (.v (.sl (.int .i64)) p0))), (1, (.one (.clo 82 [(.pref [(.v (.sl .bool) p1)] 0)]))), (7, (.one (.v (.int .i64) p2))), (8, (.one (.v (.int .i64) p3)))] [])
noncomputable def slices_IndexFunc_int_int.l2_3 (p0 : (List Int)) (p1 : Int) (p2 : Int) (p3 : Int) : Option (Int × Unit) := Go.Proofs.R.loopAt Go.Proofs.C07.ctx (Go.Proofs.R.Einf Go.Proofs.C07.ctx) 84 2 (.mk [(0, (.one (.v (.sl (.int .i64)) p0))), (1, (.one (.clo 88 [(.pref [(.v (.int .i64) p1)] 0)]))), (7, (.one (.v (.int .i64) p2))), (8, (.one (.v (.int .i64) p3)))] [])
noncomputable def ancepsref06_Live.l6 (p0 : Bool) (p1 : Int) (p2 : Int) (p3 : Int) (p4 : (List (List Int))) (p5 : (List Bool)) (p6 : (List Bool)) : Option ((List Bool) × Unit) := Go.Proofs.R.loopAt Go.Proofs.C07.ctx (Go.Proofs.R.Einf Go.Proofs.C07.ctx) 95 6 (.mk [(1, (.one (.ref 7 0))), (3, (.one (.row 15))), (4, (.one (.v .bool p0))), (5, (.one (.v (.int .i64) p1)))] [(7, (.box 34 [(.v (.int .i64) p2), (.v (.int .i64) p3), (.v (.sl (.sl (.int .i64))) p4), (.v (.sl .bool) p5)])), (15, (.row 4 .bool p6 false))])
noncomputable def ancepsref06_classes.l14 (p0 : Int) (p1 : Int) (p2 : Int) (p3 : Int) (p4 : (List (List Int))) (p5 : (List Bool)) (p6 : (List Bool)) (p7 : (List Int)) (p8 : (List Int)) (p9 : (List (List Int))) : Option ((List Int) × Unit) := Go.Proofs.R.loopAt Go.Proofs.C07.ctx (Go.Proofs.R.Einf Go.Proofs.C07.ctx) 89 14 (.mk [(1, (.one (.ref 7 0))), (3, (.one (.row 15))), (4, (.one (.row 23))), (6, (.one (.v (.int .i64) p0))), (7, (.one (.row 31))), (8, (.one (.row 39))), (9, (.one (.v (.int .i64) p1)))] [(7, (.box 34 [(.v (.int .i64) p2), (.v (.int .i64) p3), (.v (.sl (.sl (.int .i64))) p4), (.v (.sl .bool) p5)])), (15, (.row 4 .bool p6 false)), (23, (.row 3 (.int .i64) p7 false)), (31, (.row 3 (.int .i64) p8 false)), (39, (.row 22 (.sl (.int .i64)) p9 false))])
noncomputable def automaton_useful.l6 (p0 : Int) (p1 : (List (List Int))) (p2 : Int) (p3 : Int) (p4 : (List Int)) (p5 : Int) (p6 : Int) (p7 : Int) (p8 : Int) (p9 : (List (List Int))) (p10 : (List Bool)) (p11 : (List (List Int))) : Option ((List Bool) × Unit) := Go.Proofs.R.loopAt Go.Proofs.C07.ctx (Go.Proofs.R.Einf Go.Proofs.C07.ctx) 99 6 (.mk [(1, (.one (.ref 7 0))), (3, (.one (.row 15))), (4, (.one (.v (.int .i64) p0))), (20, (.one (.v (.sl (.sl (.int .i64))) p1))), (21, (.one (.v (.int .i64) p2))), (22, (.one (.v (.int .i64) p3))), (27, (.one (.v (.sl (.int .i64)) p4))), (28, (.one (.v (.int .i64) p5))), (29, (.one (.v (.int .i64) p6)))] [(7, (.box 34 [(.v (.int .i64) p7), (.v (.int .i64) p8), (.v (.sl (.sl (.int .i64))) p9), (.v (.sl .bool) p10)])), (15, (.rows 22 3 (.int .i64) p11 .full))])
noncomputable def automaton_useful.l15 (p0 : (List Bool)) (p1 : Int) (p2 : Int) (p3 : (List (List Int))) (p4 : (List Bool)) (p5 : (List Int)) : Option ((List Bool) × Unit) := Go.Proofs.R.loopAt Go.Proofs.C07.ctx (Go.Proofs.R.Einf Go.Proofs.C07.ctx) 99 15 (.mk [(3, (.one (.row 7))), (8, (.one (.row 15))), (9, (.one (.row 23))), (52, (.one (.v (.sl .bool) p0))), (53, (.one (.v (.int .i64) p1))), (54, (.one (.v (.int .i64) p2)))] [(7, (.rows 22 3 (.int .i64) p3 .full)), (15, (.row 4 .bool p4 false)), (23, (.row 3 (.int .i64) p5 false))])
noncomputable def automaton_classes.l15 (p0 : Int) (p1 : (List (List Int))) (p2 : Int) (p3 : Int) (p4 : Int) (p5 : Int) (p6 : (List (List Int))) (p7 : (List Bool)) (p8 : (List Int)) (p9 : (List ((List Int) × Int))) (p10 : (List Int)) : Option ((List Int) × Unit) := Go.Proofs.R.loopAt Go.Proofs.C07.ctx (Go.Proofs.R.Einf Go.Proofs.C07.ctx) 91 15 (.mk [(1, (.one (.ref 7 0))), (4, (.one (.row 15))), (6, (.one (.v (.int .i64) p0))), (7, (.one (.mp 23))), (8, (.one (.row 31))), (46, (.one (.v (.sl (.sl (.int .i64))) p1))), (47, (.one (.v (.int .i64) p2))), (48, (.one (.v (.int .i64) p3)))] [(7, (.box 34 [(.v (.int .i64) p4), (.v (.int .i64) p5), (.v (.sl (.sl (.int .i64))) p6), (.v (.sl .bool) p7)])), (15, (.row 3 (.int .i64) p8 false)), (23, (.mp 126 3 (.arr 9 (.int .i64)) (.int .i64) p9)), (31, (.row 3 (.int .i64) p10 false))])
noncomputable def nondet_graph_accepts_1.f (p0 : Int) (p1 : (List Bool)) : Option (Bool × Unit) := (Go.Proofs.R.Einf Go.Proofs.C07.ctx).call 82 [(.one (.v (.int .i64) p0)), (.one (.pref [(.v (.sl .bool) p1)] 0))]
noncomputable def automaton_Valid_1.f (p0 : Int) (p1 : Int) : Option (Bool × Unit) := (Go.Proofs.R.Einf Go.Proofs.C07.ctx).call 88 [(.one (.v (.int .i64) p0)), (.one (.pref [(.v (.int .i64) p1)] 0))]
noncomputable def ancepsref06_Live.l9 (p0 : Bool) (p1 : Int) (p2 : Int) (p3 : Int) (p4 : Int) (p5 : (List (List Int))) (p6 : (List Bool)) (p7 : (List Bool)) : Option ((List Bool) × Unit) := Go.Proofs.R.loopAt Go.Proofs.C07.ctx (Go.Proofs.R.Einf Go.Proofs.C07.ctx) 95 9 (.mk [(1, (.one (.ref 7 0))), (3, (.one (.row 15))), (4, (.one (.v .bool p0))), (5, (.one (.v (.int .i64) p1))), (6, (.one (.v (.int .i64) p2)))] [(7, (.box 34 [(.v (.int .i64) p3), (.v (.int .i64) p4), (.v (.sl (.sl (.int .i64))) p5), (.v (.sl .bool) p6)])), (15, (.row 4 .bool p7 false))])
noncomputable def ancepsref06_classes.l19 (p0 : Int) (p1 : Int) (p2 : Int) (p3 : Int) (p4 : Int) (p5 : (List (List Int))) (p6 : (List Bool)) (p7 : (List Bool)) (p8 : (List Int)) (p9 : (List Int)) (p10 : (List (List Int))) (p11 : (List Int)) : Option ((List Int) × Unit) := Go.Proofs.R.loopAt Go.Proofs.C07.ctx (Go.Proofs.R.Einf Go.Proofs.C07.ctx) 89 19 (.mk [(1, (.one (.ref 7 0))), (3, (.one (.row 15))), (4, (.one (.row 23))), (6, (.one (.v (.int .i64) p0))), (7, (.one (.row 31))), (8, (.one (.row 39))), (9, (.one (.v (.int .i64) p1))), (10, (.one (.row 47))), (11, (.one (.v (.int .i64) p2)))] [(7, (.box 34 [(.v (.int .i64) p3), (.v (.int .i64) p4), (.v (.sl (.sl (.int .i64))) p5), (.v (.sl .bool) p6)])), (15, (.row 4 .bool p7 false)), (23, (.row 3 (.int .i64) p8 false)), (31, (.row 3 (.int .i64) p9 false)), (39, (.row 22 (.sl (.int .i64)) p10 false)), (47, (.row 3 (.int .i64) p11 false))])
noncomputable def automaton_useful.l21 (p0 : (List (List Int))) (p1 : (List Bool)) (p2 : (List Int)) : Option ((List Bool) × Unit) := Go.Proofs.R.loopAt Go.Proofs.C07.ctx (Go.Proofs.R.Einf Go.Proofs.C07.ctx) 99 21 (.mk [(3, (.one (.row 7))), (8, (.one (.row 15))), (9, (.one (.row 23)))] [(7, (.rows 22 3 (.int .i64) p0 .full)), (15, (.row 4 .bool p1 false)), (23, (.row 3 (.int .i64) p2 false))])
noncomputable def automaton_classes.l20 (p0 : Int) (p1 : Int) (p2 : (List (List Int))) (p3 : Int) (p4 : Int) (p5 : (List Int)) (p6 : Int) (p7 : Int) (p8 : Int) (p9 : Int) (p10 : (List (List Int))) (p11 : (List Bool)) (p12 : (List Int)) (p13 : (List ((List Int) × Int))) (p14 : (List Int)) (p15 : (List Int)) : Option ((List Int) × Unit) := Go.Proofs.R.loopAt Go.Proofs.C07.ctx (Go.Proofs.R.Einf Go.Proofs.C07.ctx) 91 20 (.mk [(1, (.one (.ref 7 0))), (4, (.one (.row 15))), (6, (.one (.v (.int .i64) p0))), (7, (.one (.mp 23))), (8, (.one (.row 31))), (9, (.one (.v (.int .i64) p1))), (11, (.one (.ref 39 0))), (46, (.one (.v (.sl (.sl (.int .i64))) p2))), (47, (.one (.v (.int .i64) p3))), (48, (.one (.v (.int .i64) p4))), (63, (.one (.v (.sl (.int .i64)) p5))), (64, (.one (.v (.int .i64) p6))), (65, (.one (.v (.int .i64) p7)))] [(7, (.box 34 [(.v (.int .i64) p8), (.v (.int .i64) p9), (.v (.sl (.sl (.int .i64))) p10), (.v (.sl .bool) p11)])), (15, (.row 3 (.int .i64) p12 false)), (23, (.mp 126 3 (.arr 9 (.int .i64)) (.int .i64) p13)), (31, (.row 3 (.int .i64) p14 false)), (39, (.box 126 [(.v (.arr 9 (.int .i64)) p15)]))])
noncomputable def ancepsref06_index.f (p0 : (List (List Int))) (p1 : (List Int)) : Option (Int × Unit) := (Go.Proofs.R.Einf Go.Proofs.C07.ctx).call 96 [(.one (.v (.sl (.sl (.int .i64))) p0)), (.one (.v (.sl (.int .i64)) p1))]
noncomputable def automaton_useful.l25 (p0 : (List Int)) (p1 : Int) (p2 : Int) (p3 : (List (List Int))) (p4 : (List Bool)) (p5 : (List Int)) : Option ((List Bool) × Unit) := Go.Proofs.R.loopAt Go.Proofs.C07.ctx (Go.Proofs.R.Einf Go.Proofs.C07.ctx) 99 25 (.mk [(3, (.one (.row 7))), (8, (.one (.row 15))), (9, (.one (.row 23))), (79, (.one (.v (.sl (.int .i64)) p0))), (80, (.one (.v (.int .i64) p1))), (81, (.one (.v (.int .i64) p2)))] [(7, (.rows 22 3 (.int .i64) p3 .full)), (15, (.row 4 .bool p4 false)), (23, (.row 3 (.int .i64) p5 false))])
noncomputable def ancepsref06_index.l2 (p0 : (List (List Int))) (p1 : (List Int)) (p2 : Int) : Option (Int × Unit) := Go.Proofs.R.loopAt Go.Proofs.C07.ctx (Go.Proofs.R.Einf Go.Proofs.C07.ctx) 96 2 (.mk [(0, (.one (.v (.sl (.sl (.int .i64))) p0))), (1, (.one (.v (.sl (.int .i64)) p1))), (5, (.one (.v (.int .i64) p2)))] [])

theorem ancepslaw07_NondetDetermine.f_eq (p0 : Int) (p1 : Int) (p2 : (List Int)) (p3 : (List (Int × (Int × Int)))) (p4 : (List Int)) (p5 : (List Int)) : ancepslaw07_NondetDetermine.f p0 p1 p2 p3 p4 p5 =
  bindD (ancepslaw07_awake.f) fun t0 =>
  ifB (!t0.1)
   (bindD (ancepslaw07_awake.f) fun t1 =>
   some (t1.1, ()))
  (bindD (ancepsref07_Few.f p0 p1 p2 p3 p4) fun t2 =>
   ifB (!t2.1)
    (bindD (ancepslaw07_awake.f) fun t3 =>
    some (t3.1, ()))
   (ifB (decide (p1 > (9 : Int)))
     (bindD (ancepsref07_Valid.f p0 p1 p2 p3 p4) fun t4 =>
     ifB (t4.1 == (0 : Int))
      (bindD (ancepslaw07_awake.f) fun t5 =>
      some (t5.1, ()))
     (ifB (decide ((((List.length p5) : Nat) : Int) > (40 : Int)))
       (bindD (ancepslaw07_awake.f) fun t6 =>
       some (t6.1, ()))
      (bindD (ancepslaw07_own.f p0 p1 p2 p3 p4) fun t7 =>
       bindD (nondet_Determine.f t7.1 t7.2.1 t7.2.2.1 t7.2.2.2.1 t7.2.2.2.2.1) fun t8 =>
       bindD (ancepsref07_Determine.f p0 p1 p2 p3 p4) fun t9 =>
       ifB (t8.2.2.2.2.1 != t9.2.2.2.2.1)
        (ifB (t8.2.2.2.2.1 == t9.2.2.2.2.1)
         (ifB (t8.2.2.2.2.1 != (0 : Int))
          (some (true, ()))
         (bindD (ancepsref06_SameDFA.f t8.1 t8.2.1 t8.2.2.1 t8.2.2.2.1 t9.1 t9.2.1 t9.2.2.1 t9.2.2.2.1) fun t10 =>
          some (t10.1, ())))
        (some (false, ())))
       (bindD (ancepsref06_SameDFA.f t8.1 t8.2.1 t8.2.2.1 t8.2.2.2.1 t9.1 t9.2.1 t9.2.2.1 t9.2.2.2.1) fun t11 =>
        ifB (!t11.1)
         (ifB (t8.2.2.2.2.1 == t9.2.2.2.2.1)
          (ifB (t8.2.2.2.2.1 != (0 : Int))
           (some (true, ()))
          (bindD (ancepsref06_SameDFA.f t8.1 t8.2.1 t8.2.2.1 t8.2.2.2.1 t9.1 t9.2.1 t9.2.2.1 t9.2.2.2.1) fun t12 =>
           some (t12.1, ())))
         (some (false, ())))
        (ifB (t8.2.2.2.2.1 != (0 : Int))
          (ifB (t8.2.2.2.2.1 == t9.2.2.2.2.1)
           (ifB (t8.2.2.2.2.1 != (0 : Int))
            (some (true, ()))
           (bindD (ancepsref06_SameDFA.f t8.1 t8.2.1 t8.2.2.1 t8.2.2.2.1 t9.1 t9.2.1 t9.2.2.1 t9.2.2.2.1) fun t13 =>
            some (t13.1, ())))
          (some (false, ())))
         (bindD (ancepsref07_Word.f p0 p1 p2 p3 p4 p5) fun t14 =>
          bindD (nondet_Accepts.f p0 p1 p2 p3 p4 t14.1) fun t15 =>
          ifB (t15.2.1 == (0 : Int))
           (bindD (ancepsref06_Accepts.f t8.1 t8.2.1 t8.2.2.1 t8.2.2.2.1 t14.1) fun t16 =>
           some ((t15.1 == t16.1), ()))
          (some (false, ()))))))))
    (ifB (decide ((((List.length p5) : Nat) : Int) > (40 : Int)))
      (bindD (ancepslaw07_awake.f) fun t17 =>
      some (t17.1, ()))
     (bindD (ancepslaw07_own.f p0 p1 p2 p3 p4) fun t18 =>
      bindD (nondet_Determine.f t18.1 t18.2.1 t18.2.2.1 t18.2.2.2.1 t18.2.2.2.2.1) fun t19 =>
      bindD (ancepsref07_Determine.f p0 p1 p2 p3 p4) fun t20 =>
      ifB (t19.2.2.2.2.1 != t20.2.2.2.2.1)
       (ifB (t19.2.2.2.2.1 == t20.2.2.2.2.1)
        (ifB (t19.2.2.2.2.1 != (0 : Int))
         (some (true, ()))
        (bindD (ancepsref06_SameDFA.f t19.1 t19.2.1 t19.2.2.1 t19.2.2.2.1 t20.1 t20.2.1 t20.2.2.1 t20.2.2.2.1) fun t21 =>
         some (t21.1, ())))
       (some (false, ())))
      (bindD (ancepsref06_SameDFA.f t19.1 t19.2.1 t19.2.2.1 t19.2.2.2.1 t20.1 t20.2.1 t20.2.2.1 t20.2.2.2.1) fun t22 =>
       ifB (!t22.1)
        (ifB (t19.2.2.2.2.1 == t20.2.2.2.2.1)
         (ifB (t19.2.2.2.2.1 != (0 : Int))
          (some (true, ()))
         (bindD (ancepsref06_SameDFA.f t19.1 t19.2.1 t19.2.2.1 t19.2.2.2.1 t20.1 t20.2.1 t20.2.2.1 t20.2.2.2.1) fun t23 =>
          some (t23.1, ())))
        (some (false, ())))
       (ifB (t19.2.2.2.2.1 != (0 : Int))
         (ifB (t19.2.2.2.2.1 == t20.2.2.2.2.1)
          (ifB (t19.2.2.2.2.1 != (0 : Int))
           (some (true, ()))
          (bindD (ancepsref06_SameDFA.f t19.1 t19.2.1 t19.2.2.1 t19.2.2.2.1 t20.1 t20.2.1 t20.2.2.1 t20.2.2.2.1) fun t24 =>
           some (t24.1, ())))
         (some (false, ())))
        (bindD (ancepsref07_Word.f p0 p1 p2 p3 p4 p5) fun t25 =>
         bindD (nondet_Accepts.f p0 p1 p2 p3 p4 t25.1) fun t26 =>
         ifB (t26.2.1 == (0 : Int))
          (bindD (ancepsref06_Accepts.f t19.1 t19.2.1 t19.2.2.1 t19.2.2.2.1 t25.1) fun t27 =>
          some ((t26.1 == t27.1), ()))
         (some (false, ()))))))))) := (Einf_call Go.Proofs.C07.ctx 3 _).trans (by kernel_rfl)
theorem ancepslaw07_NondetValid.f_eq (p0 : Int) (p1 : Int) (p2 : (List Int)) (p3 : (List (Int × (Int × Int)))) (p4 : (List Int)) (p5 : (List Int)) (p6 : (List Int)) : ancepslaw07_NondetValid.f p0 p1 p2 p3 p4 p5 p6 =
  bindD (ancepslaw07_awake.f) fun t28 =>
  ifB (!t28.1)
   (bindD (ancepslaw07_awake.f) fun t29 =>
   some (t29.1, ()))
  (bindD (ancepsref07_Few.f p0 p1 p2 p3 p4) fun t30 =>
   ifB (!t30.1)
    (bindD (ancepslaw07_awake.f) fun t31 =>
    some (t31.1, ()))
   (ifB (decide ((((List.length p5) : Nat) : Int) > (100 : Int)))
     (bindD (ancepslaw07_awake.f) fun t32 =>
     some (t32.1, ()))
    (ifB (decide ((((List.length p6) : Nat) : Int) > (40 : Int)))
      (bindD (ancepslaw07_awake.f) fun t33 =>
      some (t33.1, ()))
     (bindD (ancepslaw07_own.f p0 p1 p2 p3 p4) fun t34 =>
      bindD (slices_Clone_int_int.f p5) fun t35 =>
      bindD (nondet_Closure.f t34.1 t34.2.1 t34.2.2.1 t34.2.2.2.1 t34.2.2.2.2.1 t35.1) fun t36 =>
      bindD (ancepsref07_Closure.f p0 p1 p2 p3 p4 p5) fun t37 =>
      bindD (ancepslaw07_own.f p0 p1 p2 p3 p4) fun t38 =>
      bindD (slices_Clone_int_int.f p6) fun t39 =>
      bindD (nondet_Accepts.f t38.1 t38.2.1 t38.2.2.1 t38.2.2.2.1 t38.2.2.2.2.1 t39.1) fun t40 =>
      bindD (ancepsref07_Accepts.f p0 p1 p2 p3 p4 p6) fun t41 =>
      bindD (ancepslaw07_own.f p0 p1 p2 p3 p4) fun t42 =>
      bindD (nondet_Valid.f t42.1 t42.2.1 t42.2.2.1 t42.2.2.2.1 t42.2.2.2.2.1) fun t43 =>
      bindD (ancepsref07_Valid.f p0 p1 p2 p3 p4) fun t44 =>
      ifB (t43.1 == t44.1)
       (ifB (t36.2.1 == t37.2.1)
        (bindD (slices_Equal_int_int.f t36.1 t37.1) fun t45 =>
        ifB t45.1
         (ifB (t40.2.1 == t41.2.1)
          (some ((t40.1 == t41.1), ()))
         (some (false, ())))
        (some (false, ())))
       (some (false, ())))
      (some (false, ())))))) := (Einf_call Go.Proofs.C07.ctx 4 _).trans (by kernel_rfl)
theorem ancepslaw07_NondetOf.f_eq (p0 : Int) (p1 : Int) (p2 : (List (List Int))) (p3 : (List Bool)) : ancepslaw07_NondetOf.f p0 p1 p2 p3 =
  bindD (ancepslaw07_awake.f) fun t46 =>
  ifB (!t46.1)
   (bindD (ancepslaw07_awake.f) fun t47 =>
   some (t47.1, ()))
  (bindD (ancepsref06_Few.f p0 p1 p2 p3) fun t48 =>
   ifB (!t48.1)
    (bindD (ancepslaw07_awake.f) fun t49 =>
    some (t49.1, ()))
   (ifB (decide ((((List.length p2) : Nat) : Int) > (30 : Int)))
     (bindD (ancepsref06_Valid.f p0 p1 p2 p3) fun t50 =>
     ifB (t50.1 == (0 : Int))
      (bindD (ancepslaw07_awake.f) fun t51 =>
      some (t51.1, ()))
     (bindD (nondet_Of.f p0 p1 p2 p3) fun t52 =>
      ifB (t52.2.2.2.2.2.1 != (0 : Int))
       (ifB (t52.2.2.2.2.2.1 == (1 : Int))
        (bindD (ancepsref06_Valid.f p0 p1 p2 p3) fun t53 =>
        some ((t53.1 == (1 : Int)), ()))
       (some (false, ())))
      (bindD (nondet_Determine.f t52.1 t52.2.1 t52.2.2.1 t52.2.2.2.1 t52.2.2.2.2.1) fun t54 =>
       bindD (ancepsref06_Minimal.f p0 p1 p2 p3) fun t55 =>
       bindD (ancepsref07_Valid.f t52.1 t52.2.1 t52.2.2.1 t52.2.2.2.1 t52.2.2.2.2.1) fun t56 =>
       ifB (t56.1 == (0 : Int))
        (ifB (t52.1 == p0)
         (ifB (t54.2.2.2.2.1 == (0 : Int))
          (ifB (t55.2.2.2.2.1 == (0 : Int))
           (bindD (ancepsref06_SameDFA.f t54.1 t54.2.1 t54.2.2.1 t54.2.2.2.1 t55.1 t55.2.1 t55.2.2.1 t55.2.2.2.1) fun t57 =>
           some (t57.1, ()))
          (some (false, ())))
         (some (false, ())))
        (some (false, ())))
       (some (false, ())))))
    (bindD (nondet_Of.f p0 p1 p2 p3) fun t58 =>
     ifB (t58.2.2.2.2.2.1 != (0 : Int))
      (ifB (t58.2.2.2.2.2.1 == (1 : Int))
       (bindD (ancepsref06_Valid.f p0 p1 p2 p3) fun t59 =>
       some ((t59.1 == (1 : Int)), ()))
      (some (false, ())))
     (bindD (nondet_Determine.f t58.1 t58.2.1 t58.2.2.1 t58.2.2.2.1 t58.2.2.2.2.1) fun t60 =>
      bindD (ancepsref06_Minimal.f p0 p1 p2 p3) fun t61 =>
      bindD (ancepsref07_Valid.f t58.1 t58.2.1 t58.2.2.1 t58.2.2.2.1 t58.2.2.2.2.1) fun t62 =>
      ifB (t62.1 == (0 : Int))
       (ifB (t58.1 == p0)
        (ifB (t60.2.2.2.2.1 == (0 : Int))
         (ifB (t61.2.2.2.2.1 == (0 : Int))
          (bindD (ancepsref06_SameDFA.f t60.1 t60.2.1 t60.2.2.1 t60.2.2.2.1 t61.1 t61.2.1 t61.2.2.1 t61.2.2.2.1) fun t63 =>
          some (t63.1, ()))
         (some (false, ())))
        (some (false, ())))
       (some (false, ())))
      (some (false, ())))))) := (Einf_call Go.Proofs.C07.ctx 5 _).trans (by kernel_rfl)
theorem ancepslaw07_awake.f_eq : ancepslaw07_awake.f =
  bindD (ancepslaw07_example.f) fun t64 =>
  bindD (nondet_Determine.f t64.1 t64.2.1 t64.2.2.1 t64.2.2.2.1 t64.2.2.2.2.1) fun t65 =>
  bindD (nondet_Accepts.f t64.1 t64.2.1 t64.2.2.1 t64.2.2.2.1 t64.2.2.2.2.1 ((1 : Int) :: ((0 : Int) :: ([] : (List Int))))) fun t66 =>
  bindD (nondet_Accepts.f t64.1 t64.2.1 t64.2.2.1 t64.2.2.2.1 t64.2.2.2.2.1 ((0 : Int) :: ((1 : Int) :: ([] : (List Int))))) fun t67 =>
  ifB (t65.2.2.2.2.1 == (0 : Int))
   (ifB ((((List.length t65.2.2.1) : Nat) : Int) == (2 : Int))
    (ifB (t66.2.1 == (0 : Int))
     (ifB t66.1
      (ifB (t67.2.1 == (0 : Int))
       (ifB (!t67.1)
        (bindD (nondet_Valid.f t64.1 t64.2.1 t64.2.2.1 t64.2.2.2.1 t64.2.2.2.2.1) fun t68 =>
        some ((t68.1 == (0 : Int)), ()))
       (some (false, ())))
      (some (false, ())))
     (some (false, ())))
    (some (false, ())))
   (some (false, ())))
  (some (false, ())) := (Einf_call Go.Proofs.C07.ctx 11 _).trans (by kernel_rfl)
theorem ancepsref07_Few.f_eq (p0 : Int) (p1 : Int) (p2 : (List Int)) (p3 : (List (Int × (Int × Int)))) (p4 : (List Int)) : ancepsref07_Few.f p0 p1 p2 p3 p4 =
  ifB (decide (p1 ≤ (450 : Int)))
   (ifB (decide ((((List.length p3) : Nat) : Int) ≤ (300 : Int)))
    (ifB (decide ((((List.length p2) : Nat) : Int) ≤ (60 : Int)))
     (some ((decide ((((List.length p4) : Nat) : Int) ≤ (60 : Int))), ()))
    (some (false, ())))
   (some (false, ())))
  (some (false, ())) := (Einf_call Go.Proofs.C07.ctx 12 _).trans (by kernel_rfl)
theorem ancepsref07_Valid.f_eq (p0 : Int) (p1 : Int) (p2 : (List Int)) (p3 : (List (Int × (Int × Int)))) (p4 : (List Int)) : ancepsref07_Valid.f p0 p1 p2 p3 p4 =
  ifB (decide (p0 < (1 : Int)))
   (some ((1 : Int), ()))
  (ifB (decide (p0 > (8 : Int)))
    (some ((1 : Int), ()))
   (ifB (decide (p1 < (0 : Int)))
     (some ((1 : Int), ()))
    (ifB (decide (p1 > (400 : Int)))
      (some ((1 : Int), ()))
     (ifB (decide ((((List.length p3) : Nat) : Int) > (4000 : Int)))
       (some ((1 : Int), ()))
      (bindD (ancepsref07_ascending.f p2 p1) fun t69 =>
       ifB (!t69.1)
        (some ((1 : Int), ()))
       (bindD (ancepsref07_ascending.f p4 p1) fun t70 =>
        ifB (!t70.1)
         (some ((1 : Int), ()))
        (ancepsref07_Valid.l6 (0 : Int) p0 p1 p2 p3 p4))))))) := (Einf_call Go.Proofs.C07.ctx 13 _).trans (by kernel_rfl)
theorem ancepslaw07_own.f_eq (p0 : Int) (p1 : Int) (p2 : (List Int)) (p3 : (List (Int × (Int × Int)))) (p4 : (List Int)) : ancepslaw07_own.f p0 p1 p2 p3 p4 =
  bindD (slices_Clone_int_int.f p2) fun t71 =>
  bindD (slices_Clone_int_int.f p4) fun t72 =>
  bindD (api_Edge.f p3) fun t73 =>
  some (p0, (p1, (t71.1, (t73.1, (t72.1, ()))))) := (Einf_call Go.Proofs.C07.ctx 15 _).trans (by kernel_rfl)
theorem nondet_Determine.f_eq (p0 : Int) (p1 : Int) (p2 : (List Int)) (p3 : (List (Int × (Int × Int)))) (p4 : (List Int)) : nondet_Determine.f p0 p1 p2 p3 p4 =
  bindD (nondet_Valid.f p0 p1 p2 p3 p4) fun t74 =>
  ifB (t74.1 != (0 : Int))
   (some ((0 : Int), ((0 : Int), (([] : (List (List Int))), (([] : (List Bool)), (t74.1, ()))))))
  (bindD (nondet_open.f p0 p1 p2 p3 p4) fun t75 =>
   bindD (nondet_graph_closure.f t75.1 t75.2.1 t75.2.2.1 t75.2.2.2.1 t75.2.2.2.2.1 t75.2.2.2.2.2.1 p2) fun t76 =>
   ifB ((((List.length p2) : Nat) : Int) == (0 : Int))
    (bindD (automaton_Minimal.f p0 (-(1 : Int)) ([] : (List (List Int))) ([] : (List Bool))) fun t77 =>
    some (t77.1, (t77.2.1, (t77.2.2.1, (t77.2.2.2.1, (t77.2.2.2.2.1, ()))))))
   (bindD (nondet_set_key.f t76.1) fun t78 =>
    nondet_Determine.l13 (0 : Int) p0 p1 p2 p3 p4 (0 : Int) (0 : Int) t75.1 t75.2.1 t75.2.2.1 t75.2.2.2.1 t75.2.2.2.2.1 t75.2.2.2.2.2.1 p0 (0 : Int) (Go.Proofs.R.mput Go.Proofs.R.Ty.str t78.1 (0 : Int) ([] : (List (ByteArray × Int)))) (t76.1 :: ([] : (List (List Bool)))) ([] : (List (List Int))) ([] : (List Bool)) ([] : (List (List Int))) ([] : (List Bool)))) := (Einf_call Go.Proofs.C07.ctx 14 _).trans (by kernel_rfl)
theorem ancepsref07_Determine.f_eq (p0 : Int) (p1 : Int) (p2 : (List Int)) (p3 : (List (Int × (Int × Int)))) (p4 : (List Int)) : ancepsref07_Determine.f p0 p1 p2 p3 p4 =
  bindD (ancepsref07_Valid.f p0 p1 p2 p3 p4) fun t79 =>
  ifB (t79.1 != (0 : Int))
   (some ((0 : Int), ((0 : Int), (([] : (List (List Int))), (([] : (List Bool)), (t79.1, ()))))))
  (ifB (decide ((((List.length p2) : Nat) : Int) > (0 : Int)))
    (bindD (ancepsref07_closed.f p0 p1 p2 p3 p4 p2) fun t80 =>
    bindD ((Go.Proofs.R.grow (List.length (t80.1 :: ([] : (List (List Int))))))) fun t81 =>
    ancepsref07_Determine.l10 (0 : Int) p0 p1 p2 p3 p4 (0 : Int) (0 : Int) p0 (0 : Int) (t80.1 :: ([] : (List (List Int)))) ([] : (List (List Int))) ([] : (List Bool)) ([] : (List (List Int))) ([] : (List Bool)))
   (ancepsref07_Determine.l10 (0 : Int) p0 p1 p2 p3 p4 (0 : Int) (0 : Int) p0 (-(1 : Int)) ([] : (List (List Int))) ([] : (List (List Int))) ([] : (List Bool)) ([] : (List (List Int))) ([] : (List Bool)))) := (Einf_call Go.Proofs.C07.ctx 16 _).trans (by kernel_rfl)
theorem ancepsref06_SameDFA.f_eq (p0 : Int) (p1 : Int) (p2 : (List (List Int))) (p3 : (List Bool)) (p4 : Int) (p5 : Int) (p6 : (List (List Int))) (p7 : (List Bool)) : ancepsref06_SameDFA.f p0 p1 p2 p3 p4 p5 p6 p7 =
  ifB (p0 != p4)
   (some (false, ()))
  (ifB (p1 != p5)
    (some (false, ()))
   (ifB ((((List.length p2) : Nat) : Int) != (((List.length p6) : Nat) : Int))
     (some (false, ()))
    (ifB ((((List.length p3) : Nat) : Int) != (((List.length p7) : Nat) : Int))
      (some (false, ()))
     (ancepsref06_SameDFA.l4 (0 : Int) p0 p1 p2 p3 p4 p5 p6 p7)))) := (Einf_call Go.Proofs.C07.ctx 17 _).trans (by kernel_rfl)
theorem ancepsref07_Word.f_eq (p0 : Int) (p1 : Int) (p2 : (List Int)) (p3 : (List (Int × (Int × Int)))) (p4 : (List Int)) (p5 : (List Int)) : ancepsref07_Word.f p0 p1 p2 p3 p4 p5 =
  ancepsref07_Word.l3 p5 (0 : Int) p0 p1 p2 p3 p4 ([] : (List Int)) := (Einf_call Go.Proofs.C07.ctx 18 _).trans (by kernel_rfl)
theorem nondet_Accepts.f_eq (p0 : Int) (p1 : Int) (p2 : (List Int)) (p3 : (List (Int × (Int × Int)))) (p4 : (List Int)) (p5 : (List Int)) : nondet_Accepts.f p0 p1 p2 p3 p4 p5 =
  bindD (nondet_Valid.f p0 p1 p2 p3 p4) fun t82 =>
  ifB (t82.1 != (0 : Int))
   (some (false, (t82.1, ())))
  (bindD (slices_ContainsFunc_int_int.f p5 p0 p1 p2 p3 p4) fun t83 =>
   ifB t83.1
    (some (false, ((6 : Int), ())))
   (bindD (nondet_open.f p0 p1 p2 p3 p4) fun t84 =>
    bindD (nondet_graph_closure.f t84.1 t84.2.1 t84.2.2.1 t84.2.2.2.1 t84.2.2.2.2.1 t84.2.2.2.2.2.1 p2) fun t85 =>
    nondet_Accepts.l9 p5 (((List.length p5) : Nat) : Int) (0 : Int) t84.1 t84.2.1 t84.2.2.1 t84.2.2.2.1 t84.2.2.2.2.1 t84.2.2.2.2.2.1 t85.1)) := (Einf_call Go.Proofs.C07.ctx 19 _).trans (by kernel_rfl)
theorem ancepsref06_Accepts.f_eq (p0 : Int) (p1 : Int) (p2 : (List (List Int))) (p3 : (List Bool)) (p4 : (List Int)) : ancepsref06_Accepts.f p0 p1 p2 p3 p4 =
  bindD (ancepsref06_Run.f p0 p1 p2 p3 p4) fun t86 =>
  ifB (decide (t86.1 ≥ (0 : Int)))
   (bindD ((ixAt p3 t86.1)) fun t87 =>
   some (t87, ()))
  (some (false, ())) := (Einf_call Go.Proofs.C07.ctx 20 _).trans (by kernel_rfl)
theorem slices_Clone_int_int.f_eq (p0 : (List Int)) : slices_Clone_int_int.f p0 =
  bindD ((Go.Proofs.R.grow (List.length p0))) fun t88 =>
  some (p0, ()) := (Einf_call Go.Proofs.C07.ctx 22 _).trans (by kernel_rfl)
theorem nondet_Closure.f_eq (p0 : Int) (p1 : Int) (p2 : (List Int)) (p3 : (List (Int × (Int × Int)))) (p4 : (List Int)) (p5 : (List Int)) : nondet_Closure.f p0 p1 p2 p3 p4 p5 =
  bindD (nondet_Valid.f p0 p1 p2 p3 p4) fun t89 =>
  ifB (t89.1 != (0 : Int))
   (some (([] : (List Int)), (t89.1, ())))
  (bindD (slices_ContainsFunc_int_int.f1 p5 p0 p1 p2 p3 p4) fun t90 =>
   ifB t90.1
    (some (([] : (List Int)), ((6 : Int), ())))
   (bindD (nondet_open.f p0 p1 p2 p3 p4) fun t91 =>
    bindD (nondet_graph_closure.f t91.1 t91.2.1 t91.2.2.1 t91.2.2.2.1 t91.2.2.2.2.1 t91.2.2.2.2.2.1 p5) fun t92 =>
    bindD (nondet_set_list.f t92.1) fun t93 =>
    some (t93.1, ((0 : Int), ())))) := (Einf_call Go.Proofs.C07.ctx 21 _).trans (by kernel_rfl)
theorem ancepsref07_Closure.f_eq (p0 : Int) (p1 : Int) (p2 : (List Int)) (p3 : (List (Int × (Int × Int)))) (p4 : (List Int)) (p5 : (List Int)) : ancepsref07_Closure.f p0 p1 p2 p3 p4 p5 =
  bindD (ancepsref07_Valid.f p0 p1 p2 p3 p4) fun t94 =>
  ifB (t94.1 != (0 : Int))
   (some (([] : (List Int)), (t94.1, ())))
  (ancepsref07_Closure.l5 p5 (0 : Int) p0 p1 p2 p3 p4) := (Einf_call Go.Proofs.C07.ctx 23 _).trans (by kernel_rfl)
theorem ancepsref07_Accepts.f_eq (p0 : Int) (p1 : Int) (p2 : (List Int)) (p3 : (List (Int × (Int × Int)))) (p4 : (List Int)) (p5 : (List Int)) : ancepsref07_Accepts.f p0 p1 p2 p3 p4 p5 =
  bindD (ancepsref07_Valid.f p0 p1 p2 p3 p4) fun t95 =>
  ifB (t95.1 != (0 : Int))
   (some (false, (t95.1, ())))
  (ancepsref07_Accepts.l5 p5 (0 : Int) p0 p1 p2 p3 p4) := (Einf_call Go.Proofs.C07.ctx 24 _).trans (by kernel_rfl)
theorem nondet_Valid.f_eq (p0 : Int) (p1 : Int) (p2 : (List Int)) (p3 : (List (Int × (Int × Int)))) (p4 : (List Int)) : nondet_Valid.f p0 p1 p2 p3 p4 =
  ifB (decide (p0 < (1 : Int)))
   (some ((1 : Int), ()))
  (ifB (decide (p0 > (8 : Int)))
    (some ((1 : Int), ()))
   (ifB (decide (p1 < (0 : Int)))
     (some ((1 : Int), ()))
    (ifB (decide (p1 > (400 : Int)))
      (some ((1 : Int), ()))
     (ifB (decide ((((List.length p3) : Nat) : Int) > (4000 : Int)))
       (some ((1 : Int), ()))
      (bindD (nondet_ascends.f p2 p1) fun t96 =>
       ifB (!t96.1)
        (some ((1 : Int), ()))
       (bindD (nondet_ascends.f p4 p1) fun t97 =>
        ifB (!t97.1)
         (some ((1 : Int), ()))
        (nondet_Valid.l6 p3 (((List.length p3) : Nat) : Int) (0 : Int) p0 p1 p2 p3 p4))))))) := (Einf_call Go.Proofs.C07.ctx 25 _).trans (by kernel_rfl)
theorem slices_Equal_int_int.f_eq (p0 : (List Int)) (p1 : (List Int)) : slices_Equal_int_int.f p0 p1 =
  ifB ((((List.length p0) : Nat) : Int) != (((List.length p1) : Nat) : Int))
   (some (false, ()))
  (slices_Equal_int_int.l4 p0 p1 (((List.length p0) : Nat) : Int) (0 : Int)) := (Einf_call Go.Proofs.C07.ctx 26 _).trans (by kernel_rfl)
theorem ancepsref06_Few.f_eq (p0 : Int) (p1 : Int) (p2 : (List (List Int))) (p3 : (List Bool)) : ancepsref06_Few.f p0 p1 p2 p3 =
  ifB (decide ((((List.length p2) : Nat) : Int) > (410 : Int)))
   (some (false, ()))
  (ifB (decide ((((List.length p3) : Nat) : Int) > (420 : Int)))
    (some (false, ()))
   (ancepsref06_Few.l5 (0 : Int) (0 : Int) p0 p1 p2 p3)) := (Einf_call Go.Proofs.C07.ctx 27 _).trans (by kernel_rfl)
theorem ancepsref06_Valid.f_eq (p0 : Int) (p1 : Int) (p2 : (List (List Int))) (p3 : (List Bool)) : ancepsref06_Valid.f p0 p1 p2 p3 =
  ifB (decide (p0 < (1 : Int)))
   (some ((1 : Int), ()))
  (ifB (decide (p0 > (8 : Int)))
    (some ((1 : Int), ()))
   (ifB (decide ((((List.length p2) : Nat) : Int) > (400 : Int)))
     (some ((1 : Int), ()))
    (ifB ((((List.length p3) : Nat) : Int) != (((List.length p2) : Nat) : Int))
      (some ((1 : Int), ()))
     (ifB ((((List.length p2) : Nat) : Int) == (0 : Int))
       (ifB (p1 != (-(1 : Int)))
        (some ((1 : Int), ()))
       (ifB (decide ((((List.length p2) : Nat) : Int) > (0 : Int)))
         (ifB (decide (p1 < (0 : Int)))
          (some ((1 : Int), ()))
         (ifB (decide (p1 ≥ (((List.length p2) : Nat) : Int)))
           (some ((1 : Int), ()))
          (ancepsref06_Valid.l7 (((List.length p2) : Nat) : Int) (0 : Int) p0 p1 p2 p3)))
        (ancepsref06_Valid.l7 (((List.length p2) : Nat) : Int) (0 : Int) p0 p1 p2 p3)))
      (ifB (decide ((((List.length p2) : Nat) : Int) > (0 : Int)))
        (ifB (decide (p1 < (0 : Int)))
         (some ((1 : Int), ()))
        (ifB (decide (p1 ≥ (((List.length p2) : Nat) : Int)))
          (some ((1 : Int), ()))
         (ancepsref06_Valid.l7 (((List.length p2) : Nat) : Int) (0 : Int) p0 p1 p2 p3)))
       (ancepsref06_Valid.l7 (((List.length p2) : Nat) : Int) (0 : Int) p0 p1 p2 p3)))))) := (Einf_call Go.Proofs.C07.ctx 28 _).trans (by kernel_rfl)
theorem nondet_Of.f_eq (p0 : Int) (p1 : Int) (p2 : (List (List Int))) (p3 : (List Bool)) : nondet_Of.f p0 p1 p2 p3 =
  bindD (automaton_Valid.f p0 p1 p2 p3) fun t98 =>
  ifB (t98.1 != (0 : Int))
   (some ((0 : Int), ((0 : Int), (([] : (List Int)), (([] : (List (Int × (Int × Int)))), (([] : (List Int)), (t98.1, ())))))))
  (ifB (decide (p1 ≥ (0 : Int)))
    (nondet_Of.l8 p2 (((List.length p2) : Nat) : Int) (0 : Int) p0 p1 p2 p3 (0 : Int) (0 : Int) p0 (((List.length p2) : Nat) : Int) ([] : (List Int)) ([] : (List (Int × (Int × Int)))) ([] : (List Int)) (p1 :: ([] : (List Int))) ([] : (List (Int × (Int × Int)))) ([] : (List Int)))
   (nondet_Of.l8 p2 (((List.length p2) : Nat) : Int) (0 : Int) p0 p1 p2 p3 (0 : Int) (0 : Int) p0 (((List.length p2) : Nat) : Int) ([] : (List Int)) ([] : (List (Int × (Int × Int)))) ([] : (List Int)) ([] : (List Int)) ([] : (List (Int × (Int × Int)))) ([] : (List Int)))) := (Einf_call Go.Proofs.C07.ctx 29 _).trans (by kernel_rfl)
theorem ancepsref06_Minimal.f_eq (p0 : Int) (p1 : Int) (p2 : (List (List Int))) (p3 : (List Bool)) : ancepsref06_Minimal.f p0 p1 p2 p3 =
  bindD (ancepsref06_Valid.f p0 p1 p2 p3) fun t99 =>
  ifB (t99.1 != (0 : Int))
   (some ((0 : Int), ((0 : Int), (([] : (List (List Int))), (([] : (List Bool)), (t99.1, ()))))))
  (bindD (ancepsref06_minimal.f p0 p1 p2 p3) fun t100 =>
   some (t100.1, (t100.2.1, (t100.2.2.1, (t100.2.2.2.1, ((0 : Int), ())))))) := (Einf_call Go.Proofs.C07.ctx 30 _).trans (by kernel_rfl)
theorem ancepslaw07_example.f_eq : ancepslaw07_example.f =
  some ((2 : Int), ((2 : Int), (((0 : Int) :: ([] : (List Int))), ((((0 : Int), ((0 : Int), (0 : Int))) :: (((0 : Int), ((0 : Int), (1 : Int))) :: (((0 : Int), ((1 : Int), (0 : Int))) :: ([] : (List (Int × (Int × Int))))))), (((1 : Int) :: ([] : (List Int))), ()))))) := (Einf_call Go.Proofs.C07.ctx 43 _).trans (by kernel_rfl)
theorem ancepsref07_ascending.f_eq (p0 : (List Int)) (p1 : Int) : ancepsref07_ascending.f p0 p1 =
  ancepsref07_ascending.l2 p0 p1 (0 : Int) := (Einf_call Go.Proofs.C07.ctx 44 _).trans (by kernel_rfl)
theorem ancepsref07_Valid.l6_eq (p0 : Int) (p1 : Int) (p2 : Int) (p3 : (List Int)) (p4 : (List (Int × (Int × Int)))) (p5 : (List Int)) : ancepsref07_Valid.l6 p0 p1 p2 p3 p4 p5 =
  ifB (decide (p0 < (((List.length p4) : Nat) : Int)))
   (bindD ((ixAt p4 p0)) fun t101 =>
   ifB (decide (t101.1 < (0 : Int)))
    (some ((1 : Int), ()))
   (ifB (decide (t101.1 ≥ p2))
     (some ((1 : Int), ()))
    (ifB (decide (t101.2.2 < (0 : Int)))
      (some ((1 : Int), ()))
     (ifB (decide (t101.2.2 ≥ p2))
       (some ((1 : Int), ()))
      (ifB (decide (t101.2.1 < (-(1 : Int))))
        (some ((1 : Int), ()))
       (ifB (decide (t101.2.1 ≥ p1))
         (some ((1 : Int), ()))
        (ifB (decide (p0 > (0 : Int)))
          (bindD ((ixAt p4 (Go.IntKind.wrap Go.IntKind.i64 (p0 - (1 : Int))))) fun t102 =>
          bindD (ancepsref07_ahead.f t102.1 t102.2.1 t102.2.2 t101.1 t101.2.1 t101.2.2) fun t103 =>
          ifB (!t103.1)
           (some ((1 : Int), ()))
          (ancepsref07_Valid.l6 (Go.IntKind.wrap Go.IntKind.i64 (p0 + (1 : Int))) p1 p2 p3 p4 p5))
         (ancepsref07_Valid.l6 (Go.IntKind.wrap Go.IntKind.i64 (p0 + (1 : Int))) p1 p2 p3 p4 p5))))))))
  (some ((0 : Int), ())) := (loopAt_step Go.Proofs.C07.ctx 13 6 _).trans (by kernel_rfl)
theorem api_Edge.f_eq (p0 : (List (Int × (Int × Int)))) : api_Edge.f p0 =
  bindD ((Go.Proofs.R.grow (List.length p0))) fun t104 =>
  some (p0, ()) := (Einf_call Go.Proofs.C07.ctx 53 _).trans (by kernel_rfl)
theorem nondet_open.f_eq (p0 : Int) (p1 : Int) (p2 : (List Int)) (p3 : (List (Int × (Int × Int)))) (p4 : (List Int)) : nondet_open.f p0 p1 p2 p3 p4 =
  bindD ((Go.Proofs.R.mkLen p1 p1)) fun t105 =>
  nondet_open.l3 p3 (((List.length p3) : Nat) : Int) (0 : Int) (0 : Int) (0 : Int) p0 p1 p2 p3 p4 ([] : (List Int)) ([] : (List (Int × (Int × Int)))) ([] : (List Int)) ([] : (List (List (Int × (Int × Int))))) (List.replicate t105 ([] : (List (Int × (Int × Int))))) := (Einf_call Go.Proofs.C07.ctx 46 _).trans (by kernel_rfl)
theorem nondet_graph_closure.f_eq (p0 : Int) (p1 : Int) (p2 : (List Int)) (p3 : (List (Int × (Int × Int)))) (p4 : (List Int)) (p5 : (List (List (Int × (Int × Int))))) (p6 : (List Int)) : nondet_graph_closure.f p0 p1 p2 p3 p4 p5 p6 =
  bindD ((Go.Proofs.R.mkLen p1 p1)) fun t106 =>
  bindD (slices_Clone_int_int.f p6) fun t107 =>
  nondet_graph_closure.l4 (((List.length t107.1) : Nat) : Int) (0 : Int) p0 p1 p2 p3 p4 p5 (List.replicate t106 false) t107.1 := (Einf_call Go.Proofs.C07.ctx 47 _).trans (by kernel_rfl)
theorem automaton_Minimal.f_eq (p0 : Int) (p1 : Int) (p2 : (List (List Int))) (p3 : (List Bool)) : automaton_Minimal.f p0 p1 p2 p3 =
  bindD (automaton_Valid.f p0 p1 p2 p3) fun t108 =>
  ifB (t108.1 != (0 : Int))
   (some ((0 : Int), ((0 : Int), (([] : (List (List Int))), (([] : (List Bool)), (t108.1, ()))))))
  (bindD (automaton_minimal.f p0 p1 p2 p3) fun t109 =>
   some (t109.1, (t109.2.1, (t109.2.2.1, (t109.2.2.2.1, ((0 : Int), ())))))) := (Einf_call Go.Proofs.C07.ctx 48 _).trans (by kernel_rfl)
theorem nondet_set_key.f_eq (p0 : (List Bool)) : nondet_set_key.f p0 =
  nondet_set_key.l3 p0 (((List.length p0) : Nat) : Int) (0 : Int) ([] : (List Int)) := (Einf_call Go.Proofs.C07.ctx 49 _).trans (by kernel_rfl)
theorem nondet_Determine.l13_eq (p0 : Int) (p1 : Int) (p2 : Int) (p3 : (List Int)) (p4 : (List (Int × (Int × Int)))) (p5 : (List Int)) (p6 : Int) (p7 : Int) (p8 : Int) (p9 : Int) (p10 : (List Int)) (p11 : (List (Int × (Int × Int)))) (p12 : (List Int)) (p13 : (List (List (Int × (Int × Int))))) (p14 : Int) (p15 : Int) (p16 : (List (ByteArray × Int))) (p17 : (List (List Bool))) (p18 : (List (List Int))) (p19 : (List Bool)) (p20 : (List (List Int))) (p21 : (List Bool)) : nondet_Determine.l13 p0 p1 p2 p3 p4 p5 p6 p7 p8 p9 p10 p11 p12 p13 p14 p15 p16 p17 p18 p19 p20 p21 =
  ifB (decide (p0 < (((List.length p17) : Nat) : Int)))
   (bindD ((Go.Proofs.R.mkLen p1 p1)) fun t110 =>
   nondet_Determine.l17 p0 (((List.length (List.replicate t110 (0 : Int))) : Nat) : Int) (0 : Int) p1 p2 p3 p4 p5 p6 p7 p8 p9 p10 p11 p12 p13 p14 p15 p16 p17 (List.replicate t110 (0 : Int)) p18 p19 p20 p21)
  (bindD (automaton_Minimal.f p14 p15 p20 p21) fun t111 =>
   some (t111.1, (t111.2.1, (t111.2.2.1, (t111.2.2.2.1, (t111.2.2.2.2.1, ())))))) := (loopAt_step Go.Proofs.C07.ctx 14 13 _).trans (by kernel_rfl)
theorem ancepsref07_closed.f_eq (p0 : Int) (p1 : Int) (p2 : (List Int)) (p3 : (List (Int × (Int × Int)))) (p4 : (List Int)) (p5 : (List Int)) : ancepsref07_closed.f p0 p1 p2 p3 p4 p5 =
  bindD ((Go.Proofs.R.mkLen p1 p1)) fun t112 =>
  ancepsref07_closed.l3 p5 (0 : Int) p0 p1 p2 p3 p4 (List.replicate t112 false) := (Einf_call Go.Proofs.C07.ctx 54 _).trans (by kernel_rfl)
theorem ancepsref07_Determine.l10_eq (p0 : Int) (p1 : Int) (p2 : Int) (p3 : (List Int)) (p4 : (List (Int × (Int × Int)))) (p5 : (List Int)) (p6 : Int) (p7 : Int) (p8 : Int) (p9 : Int) (p10 : (List (List Int))) (p11 : (List (List Int))) (p12 : (List Bool)) (p13 : (List (List Int))) (p14 : (List Bool)) : ancepsref07_Determine.l10 p0 p1 p2 p3 p4 p5 p6 p7 p8 p9 p10 p11 p12 p13 p14 =
  ifB (decide (p0 < (((List.length p10) : Nat) : Int)))
   (ancepsref07_Determine.l14 p0 (0 : Int) p1 p2 p3 p4 p5 p6 p7 p8 p9 p10 ([] : (List Int)) p11 p12 p13 p14)
  (bindD (ancepsref06_Minimal.f p8 p9 p13 p14) fun t113 =>
   some (t113.1, (t113.2.1, (t113.2.2.1, (t113.2.2.2.1, (t113.2.2.2.2.1, ())))))) := (loopAt_step Go.Proofs.C07.ctx 16 10 _).trans (by kernel_rfl)
theorem ancepsref06_SameDFA.l4_eq (p0 : Int) (p1 : Int) (p2 : Int) (p3 : (List (List Int))) (p4 : (List Bool)) (p5 : Int) (p6 : Int) (p7 : (List (List Int))) (p8 : (List Bool)) : ancepsref06_SameDFA.l4 p0 p1 p2 p3 p4 p5 p6 p7 p8 =
  ifB (decide (p0 < (((List.length p3) : Nat) : Int)))
   (bindD ((ixAt p3 p0)) fun t114 =>
   bindD ((ixAt p7 p0)) fun t115 =>
   bindD (ancepsref06_Equal.f t114 t115) fun t116 =>
   ifB (!t116.1)
    (some (false, ()))
   (ancepsref06_SameDFA.l4 (Go.IntKind.wrap Go.IntKind.i64 (p0 + (1 : Int))) p1 p2 p3 p4 p5 p6 p7 p8))
  (ancepsref06_SameDFA.l9 (0 : Int) p1 p2 p3 p4 p5 p6 p7 p8) := (loopAt_step Go.Proofs.C07.ctx 17 4 _).trans (by kernel_rfl)
theorem ancepsref07_Word.l3_eq (p0 : (List Int)) (p1 : Int) (p2 : Int) (p3 : Int) (p4 : (List Int)) (p5 : (List (Int × (Int × Int)))) (p6 : (List Int)) (p7 : (List Int)) : ancepsref07_Word.l3 p0 p1 p2 p3 p4 p5 p6 p7 =
  ifB (decide (p1 < (((List.length p0) : Nat) : Int)))
   (bindD ((ixAt p0 p1)) fun t117 =>
   ifB (p2 == (0 : Int))
    (none)
   (bindD ((Go.Proofs.R.grow ((List.length p7) + (List.length ((Int.tmod (Go.IntKind.wrap Go.IntKind.i64 t117) p2) :: ([] : (List Int))))))) fun t118 =>
    ancepsref07_Word.l3 p0 (Go.IntKind.wrap Go.IntKind.i64 (p1 + (1 : Int))) p2 p3 p4 p5 p6 (p7 ++ ((Int.tmod (Go.IntKind.wrap Go.IntKind.i64 t117) p2) :: ([] : (List Int))))))
  (some (p7, ())) := (loopAt_step Go.Proofs.C07.ctx 18 3 _).trans (by kernel_rfl)
theorem slices_ContainsFunc_int_int.f_eq (p0 : (List Int)) (p1 : Int) (p2 : Int) (p3 : (List Int)) (p4 : (List (Int × (Int × Int)))) (p5 : (List Int)) : slices_ContainsFunc_int_int.f p0 p1 p2 p3 p4 p5 =
  bindD (slices_IndexFunc_int_int.f p0 p1 p2 p3 p4 p5) fun t119 =>
  some ((decide (t119.1 ≥ (0 : Int))), ()) := (Einf_call Go.Proofs.C07.ctx 59 _).trans (by kernel_rfl)
theorem nondet_Accepts.l9_eq (p0 : (List Int)) (p1 : Int) (p2 : Int) (p3 : Int) (p4 : Int) (p5 : (List Int)) (p6 : (List (Int × (Int × Int)))) (p7 : (List Int)) (p8 : (List (List (Int × (Int × Int))))) (p9 : (List Bool)) : nondet_Accepts.l9 p0 p1 p2 p3 p4 p5 p6 p7 p8 p9 =
  ifB (decide (p2 < p1))
   (bindD ((ixAt p0 p2)) fun t120 =>
   bindD (nondet_graph_step.f p3 p4 p5 p6 p7 p8 p9 t120) fun t121 =>
   nondet_Accepts.l9 p0 p1 (Go.IntKind.wrap Go.IntKind.i64 (p2 + (1 : Int))) p3 p4 p5 p6 p7 p8 t121.1)
  (bindD (nondet_graph_accepts.f p3 p4 p5 p6 p7 p8 p9) fun t122 =>
   some (t122.1, ((0 : Int), ()))) := (loopAt_step Go.Proofs.C07.ctx 19 9 _).trans (by kernel_rfl)
theorem ancepsref06_Run.f_eq (p0 : Int) (p1 : Int) (p2 : (List (List Int))) (p3 : (List Bool)) (p4 : (List Int)) : ancepsref06_Run.f p0 p1 p2 p3 p4 =
  bindD (ancepsref06_Valid.f p0 p1 p2 p3) fun t123 =>
  ifB (t123.1 != (0 : Int))
   (some ((-(1 : Int)), ()))
  (bindD (ancepsref06_From.f p0 p1 p2 p3 p1 p4) fun t124 =>
   some (t124.1, ())) := (Einf_call Go.Proofs.C07.ctx 61 _).trans (by kernel_rfl)
theorem slices_ContainsFunc_int_int.f1_eq (p0 : (List Int)) (p1 : Int) (p2 : Int) (p3 : (List Int)) (p4 : (List (Int × (Int × Int)))) (p5 : (List Int)) : slices_ContainsFunc_int_int.f1 p0 p1 p2 p3 p4 p5 =
  bindD (slices_IndexFunc_int_int.f1 p0 p1 p2 p3 p4 p5) fun t125 =>
  some ((decide (t125.1 ≥ (0 : Int))), ()) := (Einf_call Go.Proofs.C07.ctx 59 _).trans (by kernel_rfl)
theorem nondet_set_list.f_eq (p0 : (List Bool)) : nondet_set_list.f p0 =
  nondet_set_list.l3 p0 (((List.length p0) : Nat) : Int) (0 : Int) ([] : (List Int)) := (Einf_call Go.Proofs.C07.ctx 63 _).trans (by kernel_rfl)
theorem ancepsref07_Closure.l5_eq (p0 : (List Int)) (p1 : Int) (p2 : Int) (p3 : Int) (p4 : (List Int)) (p5 : (List (Int × (Int × Int)))) (p6 : (List Int)) : ancepsref07_Closure.l5 p0 p1 p2 p3 p4 p5 p6 =
  ifB (decide (p1 < (((List.length p0) : Nat) : Int)))
   (bindD ((ixAt p0 p1)) fun t126 =>
   ifB (decide (t126 < (0 : Int)))
    (some (([] : (List Int)), ((6 : Int), ())))
   (bindD ((ixAt p0 p1)) fun t127 =>
    ifB (decide (t127 ≥ p3))
     (some (([] : (List Int)), ((6 : Int), ())))
    (ancepsref07_Closure.l5 p0 (Go.IntKind.wrap Go.IntKind.i64 (p1 + (1 : Int))) p2 p3 p4 p5 p6)))
  (bindD (ancepsref07_closed.f p2 p3 p4 p5 p6 p0) fun t128 =>
   some (t128.1, ((0 : Int), ()))) := (loopAt_step Go.Proofs.C07.ctx 23 5 _).trans (by kernel_rfl)
theorem ancepsref07_Accepts.l5_eq (p0 : (List Int)) (p1 : Int) (p2 : Int) (p3 : Int) (p4 : (List Int)) (p5 : (List (Int × (Int × Int)))) (p6 : (List Int)) : ancepsref07_Accepts.l5 p0 p1 p2 p3 p4 p5 p6 =
  ifB (decide (p1 < (((List.length p0) : Nat) : Int)))
   (bindD ((ixAt p0 p1)) fun t129 =>
   ifB (decide (t129 < (0 : Int)))
    (some (false, ((6 : Int), ())))
   (bindD ((ixAt p0 p1)) fun t130 =>
    ifB (decide (t130 ≥ p2))
     (some (false, ((6 : Int), ())))
    (ancepsref07_Accepts.l5 p0 (Go.IntKind.wrap Go.IntKind.i64 (p1 + (1 : Int))) p2 p3 p4 p5 p6)))
  (bindD (ancepsref07_closed.f p2 p3 p4 p5 p6 p4) fun t131 =>
   ancepsref07_Accepts.l11 p0 (0 : Int) p2 p3 p4 p5 p6 t131.1) := (loopAt_step Go.Proofs.C07.ctx 24 5 _).trans (by kernel_rfl)
theorem nondet_ascends.f_eq (p0 : (List Int)) (p1 : Int) : nondet_ascends.f p0 p1 =
  nondet_ascends.l2 p0 p1 p0 (((List.length p0) : Nat) : Int) (0 : Int) := (Einf_call Go.Proofs.C07.ctx 64 _).trans (by kernel_rfl)
theorem nondet_Valid.l6_eq (p0 : (List (Int × (Int × Int)))) (p1 : Int) (p2 : Int) (p3 : Int) (p4 : Int) (p5 : (List Int)) (p6 : (List (Int × (Int × Int)))) (p7 : (List Int)) : nondet_Valid.l6 p0 p1 p2 p3 p4 p5 p6 p7 =
  ifB (decide (p2 < p1))
   (bindD ((ixAt p0 p2)) fun t132 =>
   ifB (decide ((if (t132.2.2 < t132.1) then t132.2.2 else t132.1) < (0 : Int)))
    (some ((1 : Int), ()))
   (ifB (decide ((if (t132.1 < t132.2.2) then t132.2.2 else t132.1) ≥ p4))
     (some ((1 : Int), ()))
    (ifB (decide (t132.2.1 < (-(1 : Int))))
      (some ((1 : Int), ()))
     (ifB (decide (t132.2.1 ≥ p3))
       (some ((1 : Int), ()))
      (ifB (decide (p2 > (0 : Int)))
        (bindD ((ixAt p6 (Go.IntKind.wrap Go.IntKind.i64 (p2 - (1 : Int))))) fun t133 =>
        bindD (nondet_order.f t133.1 t133.2.1 t133.2.2 t132.1 t132.2.1 t132.2.2) fun t134 =>
        ifB (decide (t134.1 ≥ (0 : Int)))
         (some ((1 : Int), ()))
        (nondet_Valid.l6 p0 p1 (Go.IntKind.wrap Go.IntKind.i64 (p2 + (1 : Int))) p3 p4 p5 p6 p7))
       (nondet_Valid.l6 p0 p1 (Go.IntKind.wrap Go.IntKind.i64 (p2 + (1 : Int))) p3 p4 p5 p6 p7))))))
  (some ((0 : Int), ())) := (loopAt_step Go.Proofs.C07.ctx 25 6 _).trans (by kernel_rfl)
theorem slices_Equal_int_int.l4_eq (p0 : (List Int)) (p1 : (List Int)) (p2 : Int) (p3 : Int) : slices_Equal_int_int.l4 p0 p1 p2 p3 =
  ifB (decide (p3 < p2))
   (bindD ((ixAt p0 p3)) fun t135 =>
   bindD ((ixAt p1 p3)) fun t136 =>
   ifB (t135 != t136)
    (some (false, ()))
   (slices_Equal_int_int.l4 p0 p1 p2 (Go.IntKind.wrap Go.IntKind.i64 (p3 + (1 : Int)))))
  (some (true, ())) := (loopAt_step Go.Proofs.C07.ctx 26 4 _).trans (by kernel_rfl)
theorem ancepsref06_Few.l5_eq (p0 : Int) (p1 : Int) (p2 : Int) (p3 : Int) (p4 : (List (List Int))) (p5 : (List Bool)) : ancepsref06_Few.l5 p0 p1 p2 p3 p4 p5 =
  ifB (decide (p1 < (((List.length p4) : Nat) : Int)))
   (bindD ((ixAt p4 p1)) fun t137 =>
   ancepsref06_Few.l5 (Go.IntKind.wrap Go.IntKind.i64 (p0 + (((List.length t137) : Nat) : Int))) (Go.IntKind.wrap Go.IntKind.i64 (p1 + (1 : Int))) p2 p3 p4 p5)
  (some ((decide (p0 ≤ (1700 : Int))), ())) := (loopAt_step Go.Proofs.C07.ctx 27 5 _).trans (by kernel_rfl)
theorem ancepsref06_Valid.l7_eq (p0 : Int) (p1 : Int) (p2 : Int) (p3 : Int) (p4 : (List (List Int))) (p5 : (List Bool)) : ancepsref06_Valid.l7 p0 p1 p2 p3 p4 p5 =
  ifB (decide (p1 < p0))
   (bindD ((ixAt p4 p1)) fun t138 =>
   ifB ((((List.length t138) : Nat) : Int) != p2)
    (some ((1 : Int), ()))
   (ancepsref06_Valid.l12 p0 p1 (0 : Int) p2 p3 p4 p5))
  (some ((0 : Int), ())) := (loopAt_step Go.Proofs.C07.ctx 28 7 _).trans (by kernel_rfl)
theorem automaton_Valid.f_eq (p0 : Int) (p1 : Int) (p2 : (List (List Int))) (p3 : (List Bool)) : automaton_Valid.f p0 p1 p2 p3 =
  ifB (decide (p0 < (1 : Int)))
   (some ((1 : Int), ()))
  (ifB (decide (p0 > (8 : Int)))
    (some ((1 : Int), ()))
   (ifB (decide ((((List.length p2) : Nat) : Int) > (400 : Int)))
     (some ((1 : Int), ()))
    (ifB ((((List.length p3) : Nat) : Int) != (((List.length p2) : Nat) : Int))
      (some ((1 : Int), ()))
     (ifB (decide (p1 < (0 : Int)))
       (ifB (decide ((((List.length p2) : Nat) : Int) > (0 : Int)))
        (some ((1 : Int), ()))
       (ifB (p1 != (-(1 : Int)))
         (some ((1 : Int), ()))
        (ifB (decide (p1 ≥ (((List.length p2) : Nat) : Int)))
          (some ((1 : Int), ()))
         (automaton_Valid.l7 p2 (((List.length p2) : Nat) : Int) (0 : Int) p0 p1 p2 p3 (((List.length p2) : Nat) : Int)))))
      (ifB (decide (p1 ≥ (((List.length p2) : Nat) : Int)))
        (some ((1 : Int), ()))
       (automaton_Valid.l7 p2 (((List.length p2) : Nat) : Int) (0 : Int) p0 p1 p2 p3 (((List.length p2) : Nat) : Int))))))) := (Einf_call Go.Proofs.C07.ctx 66 _).trans (by kernel_rfl)
theorem nondet_Of.l8_eq (p0 : (List (List Int))) (p1 : Int) (p2 : Int) (p3 : Int) (p4 : Int) (p5 : (List (List Int))) (p6 : (List Bool)) (p7 : Int) (p8 : Int) (p9 : Int) (p10 : Int) (p11 : (List Int)) (p12 : (List (Int × (Int × Int)))) (p13 : (List Int)) (p14 : (List Int)) (p15 : (List (Int × (Int × Int)))) (p16 : (List Int)) : nondet_Of.l8 p0 p1 p2 p3 p4 p5 p6 p7 p8 p9 p10 p11 p12 p13 p14 p15 p16 =
  ifB (decide (p2 < p1))
   (bindD ((ixAt p0 p2)) fun t139 =>
   nondet_Of.l11 p2 p0 p1 p2 t139 (((List.length t139) : Nat) : Int) (0 : Int) p3 p4 p5 p6 p7 p8 p9 p10 p11 p12 p13 p14 p15 p16)
  (some (p9, (p10, (p14, (p15, (p16, ((0 : Int), ()))))))) := (loopAt_step Go.Proofs.C07.ctx 29 8 _).trans (by kernel_rfl)
theorem ancepsref06_minimal.f_eq (p0 : Int) (p1 : Int) (p2 : (List (List Int))) (p3 : (List Bool)) : ancepsref06_minimal.f p0 p1 p2 p3 =
  bindD (ancepsref06_classes.f p0 p1 p2 p3) fun t140 =>
  ifB (decide (p1 < (0 : Int)))
   (some (p0, ((-(1 : Int)), (([] : (List (List Int))), (([] : (List Bool)), ())))))
  (bindD ((ixAt t140.1 p1)) fun t141 =>
   bindD ((ixAt t140.1 p1)) fun t142 =>
   ifB (t142 == (0 : Int))
    (some (p0, ((-(1 : Int)), (([] : (List (List Int))), (([] : (List Bool)), ())))))
   (bindD ((ixAt t140.1 p1)) fun t143 =>
    bindD ((ixAt t140.1 p1)) fun t144 =>
    ancepsref06_minimal.l9 (0 : Int) p0 p1 p2 p3 (0 : Int) (0 : Int) p0 (0 : Int) t140.1 (p1 :: ([] : (List Int))) (Go.Proofs.R.mput (Go.Proofs.R.Ty.int Go.IntKind.i64) t144 (0 : Int) ([] : (List (Int × Int)))) ([] : (List (List Int))) ([] : (List Bool)) ([] : (List (List Int))) ([] : (List Bool)))) := (Einf_call Go.Proofs.C07.ctx 67 _).trans (by kernel_rfl)
theorem ancepsref07_ascending.l2_eq (p0 : (List Int)) (p1 : Int) (p2 : Int) : ancepsref07_ascending.l2 p0 p1 p2 =
  ifB (decide (p2 < (((List.length p0) : Nat) : Int)))
   (bindD ((ixAt p0 p2)) fun t145 =>
   ifB (decide (t145 < (0 : Int)))
    (some (false, ()))
   (bindD ((ixAt p0 p2)) fun t146 =>
    ifB (decide (t146 ≥ p1))
     (some (false, ()))
    (ifB (decide (p2 > (0 : Int)))
      (bindD ((ixAt p0 p2)) fun t147 =>
      bindD ((ixAt p0 (Go.IntKind.wrap Go.IntKind.i64 (p2 - (1 : Int))))) fun t148 =>
      ifB (decide (t147 ≤ t148))
       (some (false, ()))
      (ancepsref07_ascending.l2 p0 p1 (Go.IntKind.wrap Go.IntKind.i64 (p2 + (1 : Int)))))
     (ancepsref07_ascending.l2 p0 p1 (Go.IntKind.wrap Go.IntKind.i64 (p2 + (1 : Int)))))))
  (some (true, ())) := (loopAt_step Go.Proofs.C07.ctx 44 2 _).trans (by kernel_rfl)
theorem ancepsref07_ahead.f_eq (p0 : Int) (p1 : Int) (p2 : Int) (p3 : Int) (p4 : Int) (p5 : Int) : ancepsref07_ahead.f p0 p1 p2 p3 p4 p5 =
  ifB (p0 != p3)
   (some ((decide (p0 < p3)), ()))
  (ifB (p1 != p4)
    (some ((decide (p1 < p4)), ()))
   (some ((decide (p2 < p5)), ()))) := (Einf_call Go.Proofs.C07.ctx 45 _).trans (by kernel_rfl)
theorem nondet_open.l3_eq (p0 : (List (Int × (Int × Int)))) (p1 : Int) (p2 : Int) (p3 : Int) (p4 : Int) (p5 : Int) (p6 : Int) (p7 : (List Int)) (p8 : (List (Int × (Int × Int)))) (p9 : (List Int)) (p10 : (List Int)) (p11 : (List (Int × (Int × Int)))) (p12 : (List Int)) (p13 : (List (List (Int × (Int × Int))))) (p14 : (List (List (Int × (Int × Int))))) : nondet_open.l3 p0 p1 p2 p3 p4 p5 p6 p7 p8 p9 p10 p11 p12 p13 p14 =
  ifB (decide (p2 < p1))
   (bindD ((ixAt p0 p2)) fun t149 =>
   bindD ((ixAt p14 t149.1)) fun t150 =>
   bindD ((ixAt p14 t149.1)) fun t151 =>
   bindD ((ixAt p14 t149.1)) fun t152 =>
   bindD ((Go.Proofs.R.grow ((List.length t152) + (List.length ((t149.1, (t149.2.1, t149.2.2)) :: ([] : (List (Int × (Int × Int))))))))) fun t153 =>
   bindD ((ixAt p14 t149.1)) fun t154 =>
   ifB (decide (t149.1 = t149.1))
    (nondet_open.l3 p0 p1 (Go.IntKind.wrap Go.IntKind.i64 (p2 + (1 : Int))) p3 p4 p5 p6 p7 p8 p9 p10 p11 p12 p13 (setRow p14 t149.1 (t152 ++ ((t149.1, (t149.2.1, t149.2.2)) :: ([] : (List (Int × (Int × Int))))))))
   (none))
  (some (p5, (p6, (p7, (p8, (p9, (p14, ()))))))) := (loopAt_step Go.Proofs.C07.ctx 46 3 _).trans (by kernel_rfl)
theorem nondet_graph_closure.l4_eq (p0 : Int) (p1 : Int) (p2 : Int) (p3 : Int) (p4 : (List Int)) (p5 : (List (Int × (Int × Int)))) (p6 : (List Int)) (p7 : (List (List (Int × (Int × Int))))) (p8 : (List Bool)) (p9 : (List Int)) : nondet_graph_closure.l4 p0 p1 p2 p3 p4 p5 p6 p7 p8 p9 =
  ifB (decide (p1 < p0))
   (bindD ((ixAt p9 p1)) fun t155 =>
   bindD ((ixAt p9 p1)) fun t156 =>
   bindD ((ixAt p8 t156)) fun t157 =>
   bindD ((ixAt p8 t156)) fun t158 =>
   nondet_graph_closure.l4 p0 (Go.IntKind.wrap Go.IntKind.i64 (p1 + (1 : Int))) p2 p3 p4 p5 p6 p7 (setRow p8 t156 true) p9)
  (nondet_graph_closure.l8 p2 p3 p4 p5 p6 p7 p8 p9) := (loopAt_step Go.Proofs.C07.ctx 47 4 _).trans (by kernel_rfl)
theorem automaton_minimal.f_eq (p0 : Int) (p1 : Int) (p2 : (List (List Int))) (p3 : (List Bool)) : automaton_minimal.f p0 p1 p2 p3 =
  ifB (decide (p1 < (0 : Int)))
   (some (p0, ((-(1 : Int)), (([] : (List (List Int))), (([] : (List Bool)), ())))))
  (bindD (automaton_classes.f p0 p1 p2 p3) fun t159 =>
   bindD ((ixAt t159.1 p1)) fun t160 =>
   bindD ((ixAt t159.1 p1)) fun t161 =>
   ifB (t161 == (0 : Int))
    (some (p0, ((-(1 : Int)), (([] : (List (List Int))), (([] : (List Bool)), ())))))
   (bindD ((ixAt t159.1 p1)) fun t162 =>
    bindD ((ixAt t159.1 p1)) fun t163 =>
    automaton_minimal.l11 (0 : Int) p0 p1 p2 p3 (0 : Int) (0 : Int) p0 (0 : Int) t159.1 (Go.Proofs.R.mput (Go.Proofs.R.Ty.int Go.IntKind.i64) t163 (0 : Int) ([] : (List (Int × Int)))) (p1 :: ([] : (List Int))) ([] : (List (List Int))) ([] : (List Bool)) ([] : (List (List Int))) ([] : (List Bool)))) := (Einf_call Go.Proofs.C07.ctx 78 _).trans (by kernel_rfl)
theorem nondet_set_key.l3_eq (p0 : (List Bool)) (p1 : Int) (p2 : Int) (p3 : (List Int)) : nondet_set_key.l3 p0 p1 p2 p3 =
  ifB (decide (p2 < p1))
   (bindD ((ixAt p0 p2)) fun t164 =>
   ifB t164
    (bindD ((Go.Proofs.R.grow ((List.length p3) + (List.length ((49 : Int) :: ([] : (List Int))))))) fun t165 =>
    nondet_set_key.l3_1 p0 p1 (Go.IntKind.wrap Go.IntKind.i64 (p2 + (1 : Int))) (p3 ++ ((49 : Int) :: ([] : (List Int)))))
   (bindD ((Go.Proofs.R.grow ((List.length p3) + (List.length ((48 : Int) :: ([] : (List Int))))))) fun t166 =>
    nondet_set_key.l3_1 p0 p1 (Go.IntKind.wrap Go.IntKind.i64 (p2 + (1 : Int))) (p3 ++ ((48 : Int) :: ([] : (List Int))))))
  (bindD ((Go.Proofs.R.bytesOf p3)) fun t167 =>
   some (t167, ())) := (loopAt_step Go.Proofs.C07.ctx 49 3 _).trans (by kernel_rfl)
theorem nondet_Determine.l17_eq (p0 : Int) (p1 : Int) (p2 : Int) (p3 : Int) (p4 : Int) (p5 : (List Int)) (p6 : (List (Int × (Int × Int)))) (p7 : (List Int)) (p8 : Int) (p9 : Int) (p10 : Int) (p11 : Int) (p12 : (List Int)) (p13 : (List (Int × (Int × Int)))) (p14 : (List Int)) (p15 : (List (List (Int × (Int × Int))))) (p16 : Int) (p17 : Int) (p18 : (List (ByteArray × Int))) (p19 : (List (List Bool))) (p20 : (List Int)) (p21 : (List (List Int))) (p22 : (List Bool)) (p23 : (List (List Int))) (p24 : (List Bool)) : nondet_Determine.l17 p0 p1 p2 p3 p4 p5 p6 p7 p8 p9 p10 p11 p12 p13 p14 p15 p16 p17 p18 p19 p20 p21 p22 p23 p24 =
  ifB (decide (p2 < p1))
   (bindD ((ixAt p19 p0)) fun t168 =>
   bindD ((ixAt p19 p0)) fun t169 =>
   bindD (nondet_graph_step.f p10 p11 p12 p13 p14 p15 t169 p2) fun t170 =>
   bindD (nondet_set_bool.f t170.1 true) fun t171 =>
   ifB (!t171.1)
    (bindD ((ixAt p20 p2)) fun t172 =>
    bindD ((ixAt p20 p2)) fun t173 =>
    nondet_Determine.l17 p0 p1 (Go.IntKind.wrap Go.IntKind.i64 (p2 + (1 : Int))) p3 p4 p5 p6 p7 p8 p9 p10 p11 p12 p13 p14 p15 p16 p17 p18 p19 (setRow p20 p2 (-(1 : Int))) p21 p22 p23 p24)
   (bindD (nondet_set_key.f t170.1) fun t174 =>
    ifB (!(Go.Proofs.R.mget Go.Proofs.R.Ty.str (0 : Int) t174.1 p18).2)
     (ifB ((((List.length p19) : Nat) : Int) == (400 : Int))
      (some ((0 : Int), ((0 : Int), (([] : (List (List Int))), (([] : (List Bool)), ((3 : Int), ()))))))
     (bindD (nondet_set_key.f t170.1) fun t175 =>
      bindD ((Go.Proofs.R.grow ((List.length p19) + (List.length (t170.1 :: ([] : (List (List Bool)))))))) fun t176 =>
      bindD ((ixAt p20 p2)) fun t177 =>
      bindD ((ixAt p20 p2)) fun t178 =>
      nondet_Determine.l17 p0 p1 (Go.IntKind.wrap Go.IntKind.i64 (p2 + (1 : Int))) p3 p4 p5 p6 p7 p8 p9 p10 p11 p12 p13 p14 p15 p16 p17 (Go.Proofs.R.mput Go.Proofs.R.Ty.str t175.1 (((List.length p19) : Nat) : Int) p18) (p19 ++ (t170.1 :: ([] : (List (List Bool))))) (setRow p20 p2 (((List.length p19) : Nat) : Int)) p21 p22 p23 p24))
    (bindD ((ixAt p20 p2)) fun t179 =>
     bindD ((ixAt p20 p2)) fun t180 =>
     nondet_Determine.l17 p0 p1 (Go.IntKind.wrap Go.IntKind.i64 (p2 + (1 : Int))) p3 p4 p5 p6 p7 p8 p9 p10 p11 p12 p13 p14 p15 p16 p17 p18 p19 (setRow p20 p2 (Go.Proofs.R.mget Go.Proofs.R.Ty.str (0 : Int) t174.1 p18).1) p21 p22 p23 p24)))
  (bindD ((Go.Proofs.R.grow ((List.length p23) + (List.length (p20 :: ([] : (List (List Int)))))))) fun t181 =>
   bindD ((ixAt p19 p0)) fun t182 =>
   bindD ((ixAt p19 p0)) fun t183 =>
   bindD (nondet_graph_accepts.f p10 p11 p12 p13 p14 p15 t183) fun t184 =>
   bindD ((Go.Proofs.R.grow ((List.length p24) + (List.length (t184.1 :: ([] : (List Bool))))))) fun t185 =>
   nondet_Determine.l13 (Go.IntKind.wrap Go.IntKind.i64 (p0 + (1 : Int))) p3 p4 p5 p6 p7 p8 p9 p10 p11 p12 p13 p14 p15 p16 p17 p18 p19 p21 p22 (p23 ++ (p20 :: ([] : (List (List Int))))) (p24 ++ (t184.1 :: ([] : (List Bool))))) := (loopAt_step Go.Proofs.C07.ctx 14 17 _).trans (by kernel_rfl)
theorem ancepsref07_closed.l3_eq (p0 : (List Int)) (p1 : Int) (p2 : Int) (p3 : Int) (p4 : (List Int)) (p5 : (List (Int × (Int × Int)))) (p6 : (List Int)) (p7 : (List Bool)) : ancepsref07_closed.l3 p0 p1 p2 p3 p4 p5 p6 p7 =
  ifB (decide (p1 < (((List.length p0) : Nat) : Int)))
   (bindD ((ixAt p0 p1)) fun t186 =>
   bindD ((ixAt p7 t186)) fun t187 =>
   bindD ((ixAt p7 t186)) fun t188 =>
   ancepsref07_closed.l3 p0 (Go.IntKind.wrap Go.IntKind.i64 (p1 + (1 : Int))) p2 p3 p4 p5 p6 (setRow p7 t186 true))
  (ancepsref07_closed.l7 true p2 p3 p4 p5 p6 p7) := (loopAt_step Go.Proofs.C07.ctx 54 3 _).trans (by kernel_rfl)
theorem ancepsref07_Determine.l14_eq (p0 : Int) (p1 : Int) (p2 : Int) (p3 : Int) (p4 : (List Int)) (p5 : (List (Int × (Int × Int)))) (p6 : (List Int)) (p7 : Int) (p8 : Int) (p9 : Int) (p10 : Int) (p11 : (List (List Int))) (p12 : (List Int)) (p13 : (List (List Int))) (p14 : (List Bool)) (p15 : (List (List Int))) (p16 : (List Bool)) : ancepsref07_Determine.l14 p0 p1 p2 p3 p4 p5 p6 p7 p8 p9 p10 p11 p12 p13 p14 p15 p16 =
  ifB (decide (p1 < p2))
   (bindD ((ixAt p11 p0)) fun t189 =>
   bindD ((ixAt p11 p0)) fun t190 =>
   bindD (ancepsref07_next.f p2 p3 p4 p5 p6 t190 p1) fun t191 =>
   ifB (decide ((((List.length t191.1) : Nat) : Int) > (0 : Int)))
    (bindD (ancepsref07_find.f p11 t191.1) fun t192 =>
    ifB (decide ((((List.length t191.1) : Nat) : Int) > (0 : Int)))
     (ifB (decide (t192.1 < (0 : Int)))
      (bindD ((Go.Proofs.R.grow ((List.length p11) + (List.length (t191.1 :: ([] : (List (List Int)))))))) fun t193 =>
      ifB (decide ((((List.length (p11 ++ (t191.1 :: ([] : (List (List Int)))))) : Nat) : Int) > (400 : Int)))
       (some ((0 : Int), ((0 : Int), (([] : (List (List Int))), (([] : (List Bool)), ((3 : Int), ()))))))
      (bindD ((Go.Proofs.R.grow ((List.length p12) + (List.length ((((List.length p11) : Nat) : Int) :: ([] : (List Int))))))) fun t194 =>
       ancepsref07_Determine.l14 p0 (Go.IntKind.wrap Go.IntKind.i64 (p1 + (1 : Int))) p2 p3 p4 p5 p6 p7 p8 p9 p10 (p11 ++ (t191.1 :: ([] : (List (List Int))))) (p12 ++ ((((List.length p11) : Nat) : Int) :: ([] : (List Int)))) p13 p14 p15 p16))
     (bindD ((Go.Proofs.R.grow ((List.length p12) + (List.length (t192.1 :: ([] : (List Int))))))) fun t195 =>
      ancepsref07_Determine.l14 p0 (Go.IntKind.wrap Go.IntKind.i64 (p1 + (1 : Int))) p2 p3 p4 p5 p6 p7 p8 p9 p10 p11 (p12 ++ (t192.1 :: ([] : (List Int)))) p13 p14 p15 p16))
    (bindD ((Go.Proofs.R.grow ((List.length p12) + (List.length (t192.1 :: ([] : (List Int))))))) fun t196 =>
     ancepsref07_Determine.l14 p0 (Go.IntKind.wrap Go.IntKind.i64 (p1 + (1 : Int))) p2 p3 p4 p5 p6 p7 p8 p9 p10 p11 (p12 ++ (t192.1 :: ([] : (List Int)))) p13 p14 p15 p16))
   (ifB (decide ((((List.length t191.1) : Nat) : Int) > (0 : Int)))
     (bindD ((Go.Proofs.R.grow ((List.length p11) + (List.length (t191.1 :: ([] : (List (List Int)))))))) fun t197 =>
     ifB (decide ((((List.length (p11 ++ (t191.1 :: ([] : (List (List Int)))))) : Nat) : Int) > (400 : Int)))
      (some ((0 : Int), ((0 : Int), (([] : (List (List Int))), (([] : (List Bool)), ((3 : Int), ()))))))
     (bindD ((Go.Proofs.R.grow ((List.length p12) + (List.length ((((List.length p11) : Nat) : Int) :: ([] : (List Int))))))) fun t198 =>
      ancepsref07_Determine.l14 p0 (Go.IntKind.wrap Go.IntKind.i64 (p1 + (1 : Int))) p2 p3 p4 p5 p6 p7 p8 p9 p10 (p11 ++ (t191.1 :: ([] : (List (List Int))))) (p12 ++ ((((List.length p11) : Nat) : Int) :: ([] : (List Int)))) p13 p14 p15 p16))
    (bindD ((Go.Proofs.R.grow ((List.length p12) + (List.length ((-(1 : Int)) :: ([] : (List Int))))))) fun t199 =>
     ancepsref07_Determine.l14 p0 (Go.IntKind.wrap Go.IntKind.i64 (p1 + (1 : Int))) p2 p3 p4 p5 p6 p7 p8 p9 p10 p11 (p12 ++ ((-(1 : Int)) :: ([] : (List Int)))) p13 p14 p15 p16)))
  (bindD ((Go.Proofs.R.grow ((List.length p15) + (List.length (p12 :: ([] : (List (List Int)))))))) fun t200 =>
   bindD ((ixAt p11 p0)) fun t201 =>
   bindD ((ixAt p11 p0)) fun t202 =>
   bindD (ancepsref07_meets.f t202 p6) fun t203 =>
   bindD ((Go.Proofs.R.grow ((List.length p16) + (List.length (t203.1 :: ([] : (List Bool))))))) fun t204 =>
   ancepsref07_Determine.l10 (Go.IntKind.wrap Go.IntKind.i64 (p0 + (1 : Int))) p2 p3 p4 p5 p6 p7 p8 p9 p10 p11 p13 p14 (p15 ++ (p12 :: ([] : (List (List Int))))) (p16 ++ (t203.1 :: ([] : (List Bool))))) := (loopAt_step Go.Proofs.C07.ctx 16 14 _).trans (by kernel_rfl)
theorem ancepsref06_Equal.f_eq (p0 : (List Int)) (p1 : (List Int)) : ancepsref06_Equal.f p0 p1 =
  ifB ((((List.length p0) : Nat) : Int) != (((List.length p1) : Nat) : Int))
   (some (false, ()))
  (ancepsref06_Equal.l4 p0 p1 (0 : Int)) := (Einf_call Go.Proofs.C07.ctx 58 _).trans (by kernel_rfl)
theorem ancepsref06_SameDFA.l9_eq (p0 : Int) (p1 : Int) (p2 : Int) (p3 : (List (List Int))) (p4 : (List Bool)) (p5 : Int) (p6 : Int) (p7 : (List (List Int))) (p8 : (List Bool)) : ancepsref06_SameDFA.l9 p0 p1 p2 p3 p4 p5 p6 p7 p8 =
  ifB (decide (p0 < (((List.length p4) : Nat) : Int)))
   (bindD ((ixAt p4 p0)) fun t205 =>
   bindD ((ixAt p8 p0)) fun t206 =>
   ifB (!(t205 == t206))
    (some (false, ()))
   (ancepsref06_SameDFA.l9 (Go.IntKind.wrap Go.IntKind.i64 (p0 + (1 : Int))) p1 p2 p3 p4 p5 p6 p7 p8))
  (some (true, ())) := (loopAt_step Go.Proofs.C07.ctx 17 9 _).trans (by kernel_rfl)
theorem slices_IndexFunc_int_int.f_eq (p0 : (List Int)) (p1 : Int) (p2 : Int) (p3 : (List Int)) (p4 : (List (Int × (Int × Int)))) (p5 : (List Int)) : slices_IndexFunc_int_int.f p0 p1 p2 p3 p4 p5 =
  slices_IndexFunc_int_int.l2 p0 p1 p2 p3 p4 p5 (((List.length p0) : Nat) : Int) (0 : Int) := (Einf_call Go.Proofs.C07.ctx 84 _).trans (by kernel_rfl)
theorem nondet_graph_step.f_eq (p0 : Int) (p1 : Int) (p2 : (List Int)) (p3 : (List (Int × (Int × Int)))) (p4 : (List Int)) (p5 : (List (List (Int × (Int × Int))))) (p6 : (List Bool)) (p7 : Int) : nondet_graph_step.f p0 p1 p2 p3 p4 p5 p6 p7 =
  bindD (nondet_set_list.f p6) fun t207 =>
  nondet_graph_step.l3 p7 (((List.length t207.1) : Nat) : Int) (0 : Int) p0 p1 p2 p3 p4 p5 ([] : (List Int)) t207.1 := (Einf_call Go.Proofs.C07.ctx 50 _).trans (by kernel_rfl)
theorem nondet_graph_accepts.f_eq (p0 : Int) (p1 : Int) (p2 : (List Int)) (p3 : (List (Int × (Int × Int)))) (p4 : (List Int)) (p5 : (List (List (Int × (Int × Int))))) (p6 : (List Bool)) : nondet_graph_accepts.f p0 p1 p2 p3 p4 p5 p6 =
  bindD (slices_ContainsFunc_int_int.f2 p4 p6) fun t208 =>
  some (t208.1, ()) := (Einf_call Go.Proofs.C07.ctx 52 _).trans (by kernel_rfl)
theorem ancepsref06_From.f_eq (p0 : Int) (p1 : Int) (p2 : (List (List Int))) (p3 : (List Bool)) (p4 : Int) (p5 : (List Int)) : ancepsref06_From.f p0 p1 p2 p3 p4 p5 =
  ancepsref06_From.l2 p4 p5 (0 : Int) p0 p1 p2 p3 := (Einf_call Go.Proofs.C07.ctx 85 _).trans (by kernel_rfl)
theorem slices_IndexFunc_int_int.f1_eq (p0 : (List Int)) (p1 : Int) (p2 : Int) (p3 : (List Int)) (p4 : (List (Int × (Int × Int)))) (p5 : (List Int)) : slices_IndexFunc_int_int.f1 p0 p1 p2 p3 p4 p5 =
  slices_IndexFunc_int_int.l2_1 p0 p1 p2 p3 p4 p5 (((List.length p0) : Nat) : Int) (0 : Int) := (Einf_call Go.Proofs.C07.ctx 84 _).trans (by kernel_rfl)
theorem nondet_set_list.l3_eq (p0 : (List Bool)) (p1 : Int) (p2 : Int) (p3 : (List Int)) : nondet_set_list.l3 p0 p1 p2 p3 =
  ifB (decide (p2 < p1))
   (bindD ((ixAt p0 p2)) fun t209 =>
   ifB t209
    (bindD ((Go.Proofs.R.grow ((List.length p3) + (List.length (p2 :: ([] : (List Int))))))) fun t210 =>
    nondet_set_list.l3 p0 p1 (Go.IntKind.wrap Go.IntKind.i64 (p2 + (1 : Int))) (p3 ++ (p2 :: ([] : (List Int)))))
   (nondet_set_list.l3 p0 p1 (Go.IntKind.wrap Go.IntKind.i64 (p2 + (1 : Int))) p3))
  (some (p3, ())) := (loopAt_step Go.Proofs.C07.ctx 63 3 _).trans (by kernel_rfl)
theorem ancepsref07_Accepts.l11_eq (p0 : (List Int)) (p1 : Int) (p2 : Int) (p3 : Int) (p4 : (List Int)) (p5 : (List (Int × (Int × Int)))) (p6 : (List Int)) (p7 : (List Int)) : ancepsref07_Accepts.l11 p0 p1 p2 p3 p4 p5 p6 p7 =
  ifB (decide (p1 < (((List.length p0) : Nat) : Int)))
   (bindD ((ixAt p0 p1)) fun t211 =>
   bindD (ancepsref07_next.f p2 p3 p4 p5 p6 p7 t211) fun t212 =>
   ancepsref07_Accepts.l11 p0 (Go.IntKind.wrap Go.IntKind.i64 (p1 + (1 : Int))) p2 p3 p4 p5 p6 t212.1)
  (bindD (ancepsref07_meets.f p7 p6) fun t213 =>
   some (t213.1, ((0 : Int), ()))) := (loopAt_step Go.Proofs.C07.ctx 24 11 _).trans (by kernel_rfl)
theorem nondet_ascends.l2_eq (p0 : (List Int)) (p1 : Int) (p2 : (List Int)) (p3 : Int) (p4 : Int) : nondet_ascends.l2 p0 p1 p2 p3 p4 =
  ifB (decide (p4 < p3))
   (bindD ((ixAt p2 p4)) fun t214 =>
   ifB (decide (t214 < (0 : Int)))
    (some (false, ()))
   (ifB (decide (t214 ≥ p1))
     (some (false, ()))
    (ifB (decide (p4 > (0 : Int)))
      (bindD ((ixAt p0 (Go.IntKind.wrap Go.IntKind.i64 (p4 - (1 : Int))))) fun t215 =>
      ifB (decide (t215 ≥ t214))
       (some (false, ()))
      (nondet_ascends.l2 p0 p1 p2 p3 (Go.IntKind.wrap Go.IntKind.i64 (p4 + (1 : Int)))))
     (nondet_ascends.l2 p0 p1 p2 p3 (Go.IntKind.wrap Go.IntKind.i64 (p4 + (1 : Int)))))))
  (some (true, ())) := (loopAt_step Go.Proofs.C07.ctx 64 2 _).trans (by kernel_rfl)
theorem nondet_order.f_eq (p0 : Int) (p1 : Int) (p2 : Int) (p3 : Int) (p4 : Int) (p5 : Int) : nondet_order.f p0 p1 p2 p3 p4 p5 =
  bindD (cmp_Compare_int.f p0 p3) fun t216 =>
  bindD (cmp_Compare_int.f p1 p4) fun t217 =>
  bindD (cmp_Compare_int.f p2 p5) fun t218 =>
  bindD (cmp_Or_int.f (t216.1 :: (t217.1 :: (t218.1 :: ([] : (List Int)))))) fun t219 =>
  some (t219.1, ()) := (Einf_call Go.Proofs.C07.ctx 65 _).trans (by kernel_rfl)
theorem ancepsref06_Valid.l12_eq (p0 : Int) (p1 : Int) (p2 : Int) (p3 : Int) (p4 : Int) (p5 : (List (List Int))) (p6 : (List Bool)) : ancepsref06_Valid.l12 p0 p1 p2 p3 p4 p5 p6 =
  ifB (decide (p2 < p3))
   (bindD ((ixAt p5 p1)) fun t220 =>
   bindD ((ixAt t220 p2)) fun t221 =>
   ifB (decide (t221 < (-(1 : Int))))
    (some ((1 : Int), ()))
   (bindD ((ixAt p5 p1)) fun t222 =>
    bindD ((ixAt t222 p2)) fun t223 =>
    ifB (decide (t223 ≥ p0))
     (some ((1 : Int), ()))
    (ancepsref06_Valid.l12 p0 p1 (Go.IntKind.wrap Go.IntKind.i64 (p2 + (1 : Int))) p3 p4 p5 p6)))
  (ancepsref06_Valid.l7 p0 (Go.IntKind.wrap Go.IntKind.i64 (p1 + (1 : Int))) p3 p4 p5 p6) := (loopAt_step Go.Proofs.C07.ctx 28 12 _).trans (by kernel_rfl)
theorem automaton_Valid.l7_eq (p0 : (List (List Int))) (p1 : Int) (p2 : Int) (p3 : Int) (p4 : Int) (p5 : (List (List Int))) (p6 : (List Bool)) (p7 : Int) : automaton_Valid.l7 p0 p1 p2 p3 p4 p5 p6 p7 =
  ifB (decide (p2 < p1))
   (bindD ((ixAt p0 p2)) fun t224 =>
   ifB ((((List.length t224) : Nat) : Int) != p3)
    (some ((1 : Int), ()))
   (bindD (slices_ContainsFunc_int_int.f3 t224 p7) fun t225 =>
    ifB t225.1
     (some ((1 : Int), ()))
    (automaton_Valid.l7 p0 p1 (Go.IntKind.wrap Go.IntKind.i64 (p2 + (1 : Int))) p3 p4 p5 p6 p7)))
  (some ((0 : Int), ())) := (loopAt_step Go.Proofs.C07.ctx 66 7 _).trans (by kernel_rfl)
theorem nondet_Of.l11_eq (p0 : Int) (p1 : (List (List Int))) (p2 : Int) (p3 : Int) (p4 : (List Int)) (p5 : Int) (p6 : Int) (p7 : Int) (p8 : Int) (p9 : (List (List Int))) (p10 : (List Bool)) (p11 : Int) (p12 : Int) (p13 : Int) (p14 : Int) (p15 : (List Int)) (p16 : (List (Int × (Int × Int)))) (p17 : (List Int)) (p18 : (List Int)) (p19 : (List (Int × (Int × Int)))) (p20 : (List Int)) : nondet_Of.l11 p0 p1 p2 p3 p4 p5 p6 p7 p8 p9 p10 p11 p12 p13 p14 p15 p16 p17 p18 p19 p20 =
  ifB (decide (p6 < p5))
   (bindD ((ixAt p4 p6)) fun t226 =>
   ifB (decide (t226 ≥ (0 : Int)))
    (bindD ((Go.Proofs.R.grow ((List.length p19) + (List.length ((p0, (p6, t226)) :: ([] : (List (Int × (Int × Int))))))))) fun t227 =>
    nondet_Of.l11 p0 p1 p2 p3 p4 p5 (Go.IntKind.wrap Go.IntKind.i64 (p6 + (1 : Int))) p7 p8 p9 p10 p11 p12 p13 p14 p15 p16 p17 p18 (p19 ++ ((p0, (p6, t226)) :: ([] : (List (Int × (Int × Int)))))) p20)
   (nondet_Of.l11 p0 p1 p2 p3 p4 p5 (Go.IntKind.wrap Go.IntKind.i64 (p6 + (1 : Int))) p7 p8 p9 p10 p11 p12 p13 p14 p15 p16 p17 p18 p19 p20))
  (bindD ((ixAt p10 p0)) fun t228 =>
   ifB t228
    (bindD ((Go.Proofs.R.grow ((List.length p20) + (List.length (p0 :: ([] : (List Int))))))) fun t229 =>
    nondet_Of.l8 p1 p2 (Go.IntKind.wrap Go.IntKind.i64 (p3 + (1 : Int))) p7 p8 p9 p10 p11 p12 p13 p14 p15 p16 p17 p18 p19 (p20 ++ (p0 :: ([] : (List Int)))))
   (nondet_Of.l8 p1 p2 (Go.IntKind.wrap Go.IntKind.i64 (p3 + (1 : Int))) p7 p8 p9 p10 p11 p12 p13 p14 p15 p16 p17 p18 p19 p20)) := (loopAt_step Go.Proofs.C07.ctx 29 11 _).trans (by kernel_rfl)
theorem ancepsref06_classes.f_eq (p0 : Int) (p1 : Int) (p2 : (List (List Int))) (p3 : (List Bool)) : ancepsref06_classes.f p0 p1 p2 p3 =
  bindD (ancepsref06_Live.f p0 p1 p2 p3) fun t230 =>
  bindD ((Go.Proofs.R.mkLen (((List.length p2) : Nat) : Int) (((List.length p2) : Nat) : Int))) fun t231 =>
  ancepsref06_classes.l4 (0 : Int) p0 p1 p2 p3 t230.1 (List.replicate t231 (0 : Int)) := (Einf_call Go.Proofs.C07.ctx 89 _).trans (by kernel_rfl)
theorem ancepsref06_minimal.l9_eq (p0 : Int) (p1 : Int) (p2 : Int) (p3 : (List (List Int))) (p4 : (List Bool)) (p5 : Int) (p6 : Int) (p7 : Int) (p8 : Int) (p9 : (List Int)) (p10 : (List Int)) (p11 : (List (Int × Int))) (p12 : (List (List Int))) (p13 : (List Bool)) (p14 : (List (List Int))) (p15 : (List Bool)) : ancepsref06_minimal.l9 p0 p1 p2 p3 p4 p5 p6 p7 p8 p9 p10 p11 p12 p13 p14 p15 =
  ifB (decide (p0 < (((List.length p10) : Nat) : Int)))
   (ancepsref06_minimal.l13 p0 (0 : Int) p1 p2 p3 p4 p5 p6 p7 p8 p9 p10 p11 ([] : (List Int)) p12 p13 p14 p15)
  (some (p7, (p8, (p14, (p15, ()))))) := (loopAt_step Go.Proofs.C07.ctx 67 9 _).trans (by kernel_rfl)
theorem nondet_graph_closure.l8_eq (p0 : Int) (p1 : Int) (p2 : (List Int)) (p3 : (List (Int × (Int × Int)))) (p4 : (List Int)) (p5 : (List (List (Int × (Int × Int))))) (p6 : (List Bool)) (p7 : (List Int)) : nondet_graph_closure.l8 p0 p1 p2 p3 p4 p5 p6 p7 =
  ifB (decide ((((List.length p7) : Nat) : Int) > (0 : Int)))
   (bindD ((ixAt p7 (Go.IntKind.wrap Go.IntKind.i64 ((((List.length p7) : Nat) : Int) - (1 : Int))))) fun t232 =>
   bindD ((ixAt p7 (Go.IntKind.wrap Go.IntKind.i64 ((((List.length p7) : Nat) : Int) - (1 : Int))))) fun t233 =>
   bindD ((subL p7 (0 : Int) (Go.IntKind.wrap Go.IntKind.i64 ((((List.length p7) : Nat) : Int) - (1 : Int))))) fun t234 =>
   bindD ((ixAt p5 t233)) fun t235 =>
   nondet_graph_closure.l12 t235 (((List.length t235) : Nat) : Int) (0 : Int) p0 p1 p2 p3 p4 p5 p6 t234)
  (some (p6, ())) := (loopAt_step Go.Proofs.C07.ctx 47 8 _).trans (by kernel_rfl)
theorem automaton_classes.f_eq (p0 : Int) (p1 : Int) (p2 : (List (List Int))) (p3 : (List Bool)) : automaton_classes.f p0 p1 p2 p3 =
  bindD (automaton_useful.f p0 p1 p2 p3) fun t236 =>
  bindD ((Go.Proofs.R.mkLen (((List.length p2) : Nat) : Int) (((List.length p2) : Nat) : Int))) fun t237 =>
  automaton_classes.l4 (((List.length (List.replicate t237 (0 : Int))) : Nat) : Int) (0 : Int) p0 p1 p2 p3 t236.1 (List.replicate t237 (0 : Int)) := (Einf_call Go.Proofs.C07.ctx 91 _).trans (by kernel_rfl)
theorem automaton_minimal.l11_eq (p0 : Int) (p1 : Int) (p2 : Int) (p3 : (List (List Int))) (p4 : (List Bool)) (p5 : Int) (p6 : Int) (p7 : Int) (p8 : Int) (p9 : (List Int)) (p10 : (List (Int × Int))) (p11 : (List Int)) (p12 : (List (List Int))) (p13 : (List Bool)) (p14 : (List (List Int))) (p15 : (List Bool)) : automaton_minimal.l11 p0 p1 p2 p3 p4 p5 p6 p7 p8 p9 p10 p11 p12 p13 p14 p15 =
  ifB (decide (p0 < (((List.length p11) : Nat) : Int)))
   (bindD ((ixAt p11 p0)) fun t238 =>
   bindD ((ixAt p11 p0)) fun t239 =>
   bindD ((Go.Proofs.R.mkLen p1 p1)) fun t240 =>
   bindD ((ixAt p3 t239)) fun t241 =>
   automaton_minimal.l16 p0 t239 t241 (((List.length t241) : Nat) : Int) (0 : Int) p1 p2 p3 p4 p5 p6 p7 p8 p9 p10 p11 (List.replicate t240 (0 : Int)) p12 p13 p14 p15)
  (some (p7, (p8, (p14, (p15, ()))))) := (loopAt_step Go.Proofs.C07.ctx 78 11 _).trans (by kernel_rfl)
theorem nondet_set_key.l3_1_eq (p0 : (List Bool)) (p1 : Int) (p2 : Int) (p3 : (List Int)) : nondet_set_key.l3_1 p0 p1 p2 p3 =
  ifB (decide (p2 < p1))
   (bindD ((ixAt p0 p2)) fun t242 =>
   ifB t242
    (bindD ((Go.Proofs.R.grow ((List.length p3) + (List.length ((49 : Int) :: ([] : (List Int))))))) fun t243 =>
    nondet_set_key.l3_1 p0 p1 (Go.IntKind.wrap Go.IntKind.i64 (p2 + (1 : Int))) (p3 ++ ((49 : Int) :: ([] : (List Int)))))
   (bindD ((Go.Proofs.R.grow ((List.length p3) + (List.length ((48 : Int) :: ([] : (List Int))))))) fun t244 =>
    nondet_set_key.l3_1 p0 p1 (Go.IntKind.wrap Go.IntKind.i64 (p2 + (1 : Int))) (p3 ++ ((48 : Int) :: ([] : (List Int))))))
  (bindD ((Go.Proofs.R.bytesOf p3)) fun t245 =>
   some (t245, ())) := (loopAt_step Go.Proofs.C07.ctx 49 3 _).trans (by kernel_rfl)
theorem nondet_set_bool.f_eq (p0 : (List Bool)) (p1 : Bool) : nondet_set_bool.f p0 p1 =
  bindD (nondet_set_bool_81.f p0 p1) fun t246 =>
  some ((decide (t246.1 ≥ (0 : Int))), ()) := (Einf_call Go.Proofs.C07.ctx 51 _).trans (by kernel_rfl)
theorem ancepsref07_closed.l7_eq (p0 : Bool) (p1 : Int) (p2 : Int) (p3 : (List Int)) (p4 : (List (Int × (Int × Int)))) (p5 : (List Int)) (p6 : (List Bool)) : ancepsref07_closed.l7 p0 p1 p2 p3 p4 p5 p6 =
  ifB p0
   (ancepsref07_closed.l10 false (0 : Int) p1 p2 p3 p4 p5 p6)
  (bindD (ancepsref07_members.f p6) fun t247 =>
   some (t247.1, ())) := (loopAt_step Go.Proofs.C07.ctx 54 7 _).trans (by kernel_rfl)
theorem ancepsref07_next.f_eq (p0 : Int) (p1 : Int) (p2 : (List Int)) (p3 : (List (Int × (Int × Int)))) (p4 : (List Int)) (p5 : (List Int)) (p6 : Int) : ancepsref07_next.f p0 p1 p2 p3 p4 p5 p6 =
  bindD ((Go.Proofs.R.mkLen p1 p1)) fun t248 =>
  ancepsref07_next.l3 p5 p6 (0 : Int) p0 p1 p2 p3 p4 (List.replicate t248 false) := (Einf_call Go.Proofs.C07.ctx 55 _).trans (by kernel_rfl)
theorem ancepsref07_find.f_eq (p0 : (List (List Int))) (p1 : (List Int)) : ancepsref07_find.f p0 p1 =
  ancepsref07_find.l2 p0 p1 (0 : Int) := (Einf_call Go.Proofs.C07.ctx 56 _).trans (by kernel_rfl)
theorem ancepsref07_meets.f_eq (p0 : (List Int)) (p1 : (List Int)) : ancepsref07_meets.f p0 p1 =
  ancepsref07_meets.l2 p0 p1 (0 : Int) := (Einf_call Go.Proofs.C07.ctx 57 _).trans (by kernel_rfl)
theorem ancepsref06_Equal.l4_eq (p0 : (List Int)) (p1 : (List Int)) (p2 : Int) : ancepsref06_Equal.l4 p0 p1 p2 =
  ifB (decide (p2 < (((List.length p0) : Nat) : Int)))
   (bindD ((ixAt p0 p2)) fun t249 =>
   bindD ((ixAt p1 p2)) fun t250 =>
   ifB (t249 != t250)
    (some (false, ()))
   (ancepsref06_Equal.l4 p0 p1 (Go.IntKind.wrap Go.IntKind.i64 (p2 + (1 : Int)))))
  (some (true, ())) := (loopAt_step Go.Proofs.C07.ctx 58 4 _).trans (by kernel_rfl)
theorem slices_IndexFunc_int_int.l2_eq (p0 : (List Int)) (p1 : Int) (p2 : Int) (p3 : (List Int)) (p4 : (List (Int × (Int × Int)))) (p5 : (List Int)) (p6 : Int) (p7 : Int) : slices_IndexFunc_int_int.l2 p0 p1 p2 p3 p4 p5 p6 p7 =
  ifB (decide (p7 < p6))
   (bindD ((ixAt p0 p7)) fun t251 =>
   bindD (nondet_Accepts_1.f t251 p1 p2 p3 p4 p5) fun t252 =>
   ifB t252.1
    (some (p7, ()))
   (slices_IndexFunc_int_int.l2 p0 p1 p2 p3 p4 p5 p6 (Go.IntKind.wrap Go.IntKind.i64 (p7 + (1 : Int)))))
  (some ((-(1 : Int)), ())) := (loopAt_step Go.Proofs.C07.ctx 84 2 _).trans (by kernel_rfl)
theorem nondet_graph_step.l3_eq (p0 : Int) (p1 : Int) (p2 : Int) (p3 : Int) (p4 : Int) (p5 : (List Int)) (p6 : (List (Int × (Int × Int)))) (p7 : (List Int)) (p8 : (List (List (Int × (Int × Int))))) (p9 : (List Int)) (p10 : (List Int)) : nondet_graph_step.l3 p0 p1 p2 p3 p4 p5 p6 p7 p8 p9 p10 =
  ifB (decide (p2 < p1))
   (bindD ((ixAt p10 p2)) fun t253 =>
   bindD ((ixAt p10 p2)) fun t254 =>
   bindD ((ixAt p8 t254)) fun t255 =>
   nondet_graph_step.l6 p0 p1 p2 t255 (((List.length t255) : Nat) : Int) (0 : Int) p3 p4 p5 p6 p7 p8 p9 p10)
  (bindD (nondet_graph_closure.f p3 p4 p5 p6 p7 p8 p9) fun t256 =>
   some (t256.1, ())) := (loopAt_step Go.Proofs.C07.ctx 50 3 _).trans (by kernel_rfl)
theorem slices_ContainsFunc_int_int.f2_eq (p0 : (List Int)) (p1 : (List Bool)) : slices_ContainsFunc_int_int.f2 p0 p1 =
  bindD (slices_IndexFunc_int_int.f2 p0 p1) fun t257 =>
  some ((decide (t257.1 ≥ (0 : Int))), ()) := (Einf_call Go.Proofs.C07.ctx 59 _).trans (by kernel_rfl)
theorem ancepsref06_From.l2_eq (p0 : Int) (p1 : (List Int)) (p2 : Int) (p3 : Int) (p4 : Int) (p5 : (List (List Int))) (p6 : (List Bool)) : ancepsref06_From.l2 p0 p1 p2 p3 p4 p5 p6 =
  ifB (decide (p2 < (((List.length p1) : Nat) : Int)))
   (bindD ((ixAt p1 p2)) fun t258 =>
   bindD (ancepsref06_step.f p3 p4 p5 p6 p0 t258) fun t259 =>
   ancepsref06_From.l2 t259.1 p1 (Go.IntKind.wrap Go.IntKind.i64 (p2 + (1 : Int))) p3 p4 p5 p6)
  (some (p0, ())) := (loopAt_step Go.Proofs.C07.ctx 85 2 _).trans (by kernel_rfl)
theorem slices_IndexFunc_int_int.l2_1_eq (p0 : (List Int)) (p1 : Int) (p2 : Int) (p3 : (List Int)) (p4 : (List (Int × (Int × Int)))) (p5 : (List Int)) (p6 : Int) (p7 : Int) : slices_IndexFunc_int_int.l2_1 p0 p1 p2 p3 p4 p5 p6 p7 =
  ifB (decide (p7 < p6))
   (bindD ((ixAt p0 p7)) fun t260 =>
   bindD (nondet_Closure_1.f t260 p1 p2 p3 p4 p5) fun t261 =>
   ifB t261.1
    (some (p7, ()))
   (slices_IndexFunc_int_int.l2_1 p0 p1 p2 p3 p4 p5 p6 (Go.IntKind.wrap Go.IntKind.i64 (p7 + (1 : Int)))))
  (some ((-(1 : Int)), ())) := (loopAt_step Go.Proofs.C07.ctx 84 2 _).trans (by kernel_rfl)
theorem cmp_Compare_int.f_eq (p0 : Int) (p1 : Int) : cmp_Compare_int.f p0 p1 =
  bindD (cmp_isNaN_int.f p0) fun t262 =>
  bindD (cmp_isNaN_int.f p1) fun t263 =>
  ifB t262.1
   (ifB t263.1
    (some ((0 : Int), ()))
   (some ((-(1 : Int)), ())))
  (ifB t263.1
    (some ((1 : Int), ()))
   (ifB (decide (p0 < p1))
     (some ((-(1 : Int)), ()))
    (ifB (decide (p0 > p1))
      (some ((1 : Int), ()))
     (some ((0 : Int), ()))))) := (Einf_call Go.Proofs.C07.ctx 87 _).trans (by kernel_rfl)
theorem cmp_Or_int.f_eq (p0 : (List Int)) : cmp_Or_int.f p0 =
  cmp_Or_int.l3 (0 : Int) p0 (((List.length p0) : Nat) : Int) (0 : Int) := (Einf_call Go.Proofs.C07.ctx 86 _).trans (by kernel_rfl)
theorem slices_ContainsFunc_int_int.f3_eq (p0 : (List Int)) (p1 : Int) : slices_ContainsFunc_int_int.f3 p0 p1 =
  bindD (slices_IndexFunc_int_int.f3 p0 p1) fun t264 =>
  some ((decide (t264.1 ≥ (0 : Int))), ()) := (Einf_call Go.Proofs.C07.ctx 59 _).trans (by kernel_rfl)
theorem ancepsref06_Live.f_eq (p0 : Int) (p1 : Int) (p2 : (List (List Int))) (p3 : (List Bool)) : ancepsref06_Live.f p0 p1 p2 p3 =
  bindD ((Go.Proofs.R.grow ((List.length ([] : (List Bool))) + (List.length p3)))) fun t265 =>
  ancepsref06_Live.l3 true p0 p1 p2 p3 (([] : (List Bool)) ++ p3) := (Einf_call Go.Proofs.C07.ctx 95 _).trans (by kernel_rfl)
theorem ancepsref06_classes.l4_eq (p0 : Int) (p1 : Int) (p2 : Int) (p3 : (List (List Int))) (p4 : (List Bool)) (p5 : (List Bool)) (p6 : (List Int)) : ancepsref06_classes.l4 p0 p1 p2 p3 p4 p5 p6 =
  ifB (decide (p0 < (((List.length p6) : Nat) : Int)))
   (bindD ((ixAt p5 p0)) fun t266 =>
   bindD ((ixAt p5 p0)) fun t267 =>
   ifB t267
    (bindD ((ixAt p6 p0)) fun t268 =>
    bindD ((ixAt p6 p0)) fun t269 =>
    bindD ((ixAt p4 p0)) fun t270 =>
    ifB t270
     (bindD ((ixAt (setRow p6 p0 (1 : Int)) p0)) fun t271 =>
     bindD ((ixAt (setRow p6 p0 (1 : Int)) p0)) fun t272 =>
     ancepsref06_classes.l4 (Go.IntKind.wrap Go.IntKind.i64 (p0 + (1 : Int))) p1 p2 p3 p4 p5 (setRow (setRow p6 p0 (1 : Int)) p0 (2 : Int)))
    (ancepsref06_classes.l4 (Go.IntKind.wrap Go.IntKind.i64 (p0 + (1 : Int))) p1 p2 p3 p4 p5 (setRow p6 p0 (1 : Int))))
   (ancepsref06_classes.l4 (Go.IntKind.wrap Go.IntKind.i64 (p0 + (1 : Int))) p1 p2 p3 p4 p5 p6))
  (ancepsref06_classes.l11 (0 : Int) p1 p2 p3 p4 p5 p6) := (loopAt_step Go.Proofs.C07.ctx 89 4 _).trans (by kernel_rfl)
theorem ancepsref06_minimal.l13_eq (p0 : Int) (p1 : Int) (p2 : Int) (p3 : Int) (p4 : (List (List Int))) (p5 : (List Bool)) (p6 : Int) (p7 : Int) (p8 : Int) (p9 : Int) (p10 : (List Int)) (p11 : (List Int)) (p12 : (List (Int × Int))) (p13 : (List Int)) (p14 : (List (List Int))) (p15 : (List Bool)) (p16 : (List (List Int))) (p17 : (List Bool)) : ancepsref06_minimal.l13 p0 p1 p2 p3 p4 p5 p6 p7 p8 p9 p10 p11 p12 p13 p14 p15 p16 p17 =
  ifB (decide (p1 < p2))
   (bindD ((ixAt p11 p0)) fun t273 =>
   bindD ((ixAt p11 p0)) fun t274 =>
   bindD ((ixAt p4 t274)) fun t275 =>
   bindD ((ixAt t275 p1)) fun t276 =>
   ifB (decide (t276 < (0 : Int)))
    (bindD ((Go.Proofs.R.grow ((List.length p13) + (List.length ((-(1 : Int)) :: ([] : (List Int))))))) fun t277 =>
    ancepsref06_minimal.l13 p0 (Go.IntKind.wrap Go.IntKind.i64 (p1 + (1 : Int))) p2 p3 p4 p5 p6 p7 p8 p9 p10 p11 p12 (p13 ++ ((-(1 : Int)) :: ([] : (List Int)))) p14 p15 p16 p17)
   (bindD ((ixAt p10 t276)) fun t278 =>
    bindD ((ixAt p10 t276)) fun t279 =>
    ifB (t279 == (0 : Int))
     (bindD ((Go.Proofs.R.grow ((List.length p13) + (List.length ((-(1 : Int)) :: ([] : (List Int))))))) fun t280 =>
     ancepsref06_minimal.l13 p0 (Go.IntKind.wrap Go.IntKind.i64 (p1 + (1 : Int))) p2 p3 p4 p5 p6 p7 p8 p9 p10 p11 p12 (p13 ++ ((-(1 : Int)) :: ([] : (List Int)))) p14 p15 p16 p17)
    (bindD ((ixAt p10 t276)) fun t281 =>
     bindD ((ixAt p10 t276)) fun t282 =>
     ifB (!(Go.Proofs.R.mget (Go.Proofs.R.Ty.int Go.IntKind.i64) (0 : Int) t282 p12).2)
      (bindD ((ixAt p10 t276)) fun t283 =>
      bindD ((ixAt p10 t276)) fun t284 =>
      bindD ((Go.Proofs.R.grow ((List.length p11) + (List.length (t276 :: ([] : (List Int))))))) fun t285 =>
      bindD ((Go.Proofs.R.grow ((List.length p13) + (List.length ((((List.length p11) : Nat) : Int) :: ([] : (List Int))))))) fun t286 =>
      ancepsref06_minimal.l13 p0 (Go.IntKind.wrap Go.IntKind.i64 (p1 + (1 : Int))) p2 p3 p4 p5 p6 p7 p8 p9 p10 (p11 ++ (t276 :: ([] : (List Int)))) (Go.Proofs.R.mput (Go.Proofs.R.Ty.int Go.IntKind.i64) t284 (((List.length p11) : Nat) : Int) p12) (p13 ++ ((((List.length p11) : Nat) : Int) :: ([] : (List Int)))) p14 p15 p16 p17)
     (bindD ((Go.Proofs.R.grow ((List.length p13) + (List.length ((Go.Proofs.R.mget (Go.Proofs.R.Ty.int Go.IntKind.i64) (0 : Int) t282 p12).1 :: ([] : (List Int))))))) fun t287 =>
      ancepsref06_minimal.l13 p0 (Go.IntKind.wrap Go.IntKind.i64 (p1 + (1 : Int))) p2 p3 p4 p5 p6 p7 p8 p9 p10 p11 p12 (p13 ++ ((Go.Proofs.R.mget (Go.Proofs.R.Ty.int Go.IntKind.i64) (0 : Int) t282 p12).1 :: ([] : (List Int)))) p14 p15 p16 p17))))
  (bindD ((Go.Proofs.R.grow ((List.length p16) + (List.length (p13 :: ([] : (List (List Int)))))))) fun t288 =>
   bindD ((ixAt p11 p0)) fun t289 =>
   bindD ((ixAt p11 p0)) fun t290 =>
   bindD ((ixAt p5 t290)) fun t291 =>
   bindD ((Go.Proofs.R.grow ((List.length p17) + (List.length (t291 :: ([] : (List Bool))))))) fun t292 =>
   ancepsref06_minimal.l9 (Go.IntKind.wrap Go.IntKind.i64 (p0 + (1 : Int))) p2 p3 p4 p5 p6 p7 p8 p9 p10 p11 p12 p14 p15 (p16 ++ (p13 :: ([] : (List (List Int))))) (p17 ++ (t291 :: ([] : (List Bool))))) := (loopAt_step Go.Proofs.C07.ctx 67 13 _).trans (by kernel_rfl)
theorem nondet_graph_closure.l12_eq (p0 : (List (Int × (Int × Int)))) (p1 : Int) (p2 : Int) (p3 : Int) (p4 : Int) (p5 : (List Int)) (p6 : (List (Int × (Int × Int)))) (p7 : (List Int)) (p8 : (List (List (Int × (Int × Int))))) (p9 : (List Bool)) (p10 : (List Int)) : nondet_graph_closure.l12 p0 p1 p2 p3 p4 p5 p6 p7 p8 p9 p10 =
  ifB (decide (p2 < p1))
   (bindD ((ixAt p0 p2)) fun t293 =>
   ifB (decide (t293.2.1 < (0 : Int)))
    (bindD ((ixAt p9 t293.2.2)) fun t294 =>
    bindD ((ixAt p9 t293.2.2)) fun t295 =>
    ifB (!t295)
     (bindD ((ixAt p9 t293.2.2)) fun t296 =>
     bindD ((ixAt p9 t293.2.2)) fun t297 =>
     bindD ((Go.Proofs.R.grow ((List.length p10) + (List.length (t293.2.2 :: ([] : (List Int))))))) fun t298 =>
     nondet_graph_closure.l12 p0 p1 (Go.IntKind.wrap Go.IntKind.i64 (p2 + (1 : Int))) p3 p4 p5 p6 p7 p8 (setRow p9 t293.2.2 true) (p10 ++ (t293.2.2 :: ([] : (List Int)))))
    (nondet_graph_closure.l12 p0 p1 (Go.IntKind.wrap Go.IntKind.i64 (p2 + (1 : Int))) p3 p4 p5 p6 p7 p8 p9 p10))
   (nondet_graph_closure.l12 p0 p1 (Go.IntKind.wrap Go.IntKind.i64 (p2 + (1 : Int))) p3 p4 p5 p6 p7 p8 p9 p10))
  (nondet_graph_closure.l8 p3 p4 p5 p6 p7 p8 p9 p10) := (loopAt_step Go.Proofs.C07.ctx 47 12 _).trans (by kernel_rfl)
theorem automaton_useful.f_eq (p0 : Int) (p1 : Int) (p2 : (List (List Int))) (p3 : (List Bool)) : automaton_useful.f p0 p1 p2 p3 =
  bindD ((Go.Proofs.R.mkLen (((List.length p2) : Nat) : Int) (((List.length p2) : Nat) : Int))) fun t299 =>
  automaton_useful.l3 p2 (((List.length p2) : Nat) : Int) (0 : Int) p0 p1 p2 p3 (List.replicate t299 ([] : (List Int))) := (Einf_call Go.Proofs.C07.ctx 99 _).trans (by kernel_rfl)
theorem automaton_classes.l4_eq (p0 : Int) (p1 : Int) (p2 : Int) (p3 : Int) (p4 : (List (List Int))) (p5 : (List Bool)) (p6 : (List Bool)) (p7 : (List Int)) : automaton_classes.l4 p0 p1 p2 p3 p4 p5 p6 p7 =
  ifB (decide (p1 < p0))
   (bindD ((ixAt p6 p1)) fun t300 =>
   bindD ((ixAt p6 p1)) fun t301 =>
   ifB t301
    (bindD ((ixAt p7 p1)) fun t302 =>
    bindD ((ixAt p7 p1)) fun t303 =>
    bindD ((ixAt p5 p1)) fun t304 =>
    ifB t304
     (bindD ((ixAt (setRow p7 p1 (1 : Int)) p1)) fun t305 =>
     bindD ((ixAt (setRow p7 p1 (1 : Int)) p1)) fun t306 =>
     automaton_classes.l4 p0 (Go.IntKind.wrap Go.IntKind.i64 (p1 + (1 : Int))) p2 p3 p4 p5 p6 (setRow (setRow p7 p1 (1 : Int)) p1 (2 : Int)))
    (automaton_classes.l4 p0 (Go.IntKind.wrap Go.IntKind.i64 (p1 + (1 : Int))) p2 p3 p4 p5 p6 (setRow p7 p1 (1 : Int))))
   (bindD ((ixAt p5 p1)) fun t307 =>
    ifB t307
     (bindD ((ixAt p7 p1)) fun t308 =>
     bindD ((ixAt p7 p1)) fun t309 =>
     automaton_classes.l4 p0 (Go.IntKind.wrap Go.IntKind.i64 (p1 + (1 : Int))) p2 p3 p4 p5 p6 (setRow p7 p1 (2 : Int)))
    (automaton_classes.l4 p0 (Go.IntKind.wrap Go.IntKind.i64 (p1 + (1 : Int))) p2 p3 p4 p5 p6 p7)))
  (automaton_classes.l12 (0 : Int) p2 p3 p4 p5 p7) := (loopAt_step Go.Proofs.C07.ctx 91 4 _).trans (by kernel_rfl)
theorem automaton_minimal.l16_eq (p0 : Int) (p1 : Int) (p2 : (List Int)) (p3 : Int) (p4 : Int) (p5 : Int) (p6 : Int) (p7 : (List (List Int))) (p8 : (List Bool)) (p9 : Int) (p10 : Int) (p11 : Int) (p12 : Int) (p13 : (List Int)) (p14 : (List (Int × Int))) (p15 : (List Int)) (p16 : (List Int)) (p17 : (List (List Int))) (p18 : (List Bool)) (p19 : (List (List Int))) (p20 : (List Bool)) : automaton_minimal.l16 p0 p1 p2 p3 p4 p5 p6 p7 p8 p9 p10 p11 p12 p13 p14 p15 p16 p17 p18 p19 p20 =
  ifB (decide (p4 < p3))
   (bindD ((ixAt p2 p4)) fun t310 =>
   ifB (decide (t310 < (0 : Int)))
    (bindD ((ixAt p16 p4)) fun t311 =>
    bindD ((ixAt p16 p4)) fun t312 =>
    automaton_minimal.l16 p0 p1 p2 p3 (Go.IntKind.wrap Go.IntKind.i64 (p4 + (1 : Int))) p5 p6 p7 p8 p9 p10 p11 p12 p13 p14 p15 (setRow p16 p4 (-(1 : Int))) p17 p18 p19 p20)
   (bindD ((ixAt p13 t310)) fun t313 =>
    bindD ((ixAt p13 t310)) fun t314 =>
    ifB (t314 == (0 : Int))
     (bindD ((ixAt p16 p4)) fun t315 =>
     bindD ((ixAt p16 p4)) fun t316 =>
     automaton_minimal.l16 p0 p1 p2 p3 (Go.IntKind.wrap Go.IntKind.i64 (p4 + (1 : Int))) p5 p6 p7 p8 p9 p10 p11 p12 p13 p14 p15 (setRow p16 p4 (-(1 : Int))) p17 p18 p19 p20)
    (bindD ((ixAt p13 t310)) fun t317 =>
     bindD ((ixAt p13 t310)) fun t318 =>
     ifB (!(Go.Proofs.R.mget (Go.Proofs.R.Ty.int Go.IntKind.i64) (0 : Int) t318 p14).2)
      (bindD ((ixAt p13 t310)) fun t319 =>
      bindD ((ixAt p13 t310)) fun t320 =>
      bindD ((Go.Proofs.R.grow ((List.length p15) + (List.length (t310 :: ([] : (List Int))))))) fun t321 =>
      bindD ((ixAt p16 p4)) fun t322 =>
      bindD ((ixAt p16 p4)) fun t323 =>
      automaton_minimal.l16 p0 p1 p2 p3 (Go.IntKind.wrap Go.IntKind.i64 (p4 + (1 : Int))) p5 p6 p7 p8 p9 p10 p11 p12 p13 (Go.Proofs.R.mput (Go.Proofs.R.Ty.int Go.IntKind.i64) t320 (((List.length p15) : Nat) : Int) p14) (p15 ++ (t310 :: ([] : (List Int)))) (setRow p16 p4 (((List.length p15) : Nat) : Int)) p17 p18 p19 p20)
     (bindD ((ixAt p16 p4)) fun t324 =>
      bindD ((ixAt p16 p4)) fun t325 =>
      automaton_minimal.l16 p0 p1 p2 p3 (Go.IntKind.wrap Go.IntKind.i64 (p4 + (1 : Int))) p5 p6 p7 p8 p9 p10 p11 p12 p13 p14 p15 (setRow p16 p4 (Go.Proofs.R.mget (Go.Proofs.R.Ty.int Go.IntKind.i64) (0 : Int) t318 p14).1) p17 p18 p19 p20))))
  (bindD ((Go.Proofs.R.grow ((List.length p19) + (List.length (p16 :: ([] : (List (List Int)))))))) fun t326 =>
   bindD ((ixAt p8 p1)) fun t327 =>
   bindD ((Go.Proofs.R.grow ((List.length p20) + (List.length (t327 :: ([] : (List Bool))))))) fun t328 =>
   automaton_minimal.l11 (Go.IntKind.wrap Go.IntKind.i64 (p0 + (1 : Int))) p5 p6 p7 p8 p9 p10 p11 p12 p13 p14 p15 p17 p18 (p19 ++ (p16 :: ([] : (List (List Int))))) (p20 ++ (t327 :: ([] : (List Bool))))) := (loopAt_step Go.Proofs.C07.ctx 78 16 _).trans (by kernel_rfl)
theorem nondet_set_bool_81.f_eq (p0 : (List Bool)) (p1 : Bool) : nondet_set_bool_81.f p0 p1 =
  nondet_set_bool_81.l2 p0 p1 (((List.length p0) : Nat) : Int) (0 : Int) := (Einf_call Go.Proofs.C07.ctx 81 _).trans (by kernel_rfl)
theorem ancepsref07_closed.l10_eq (p0 : Bool) (p1 : Int) (p2 : Int) (p3 : Int) (p4 : (List Int)) (p5 : (List (Int × (Int × Int)))) (p6 : (List Int)) (p7 : (List Bool)) : ancepsref07_closed.l10 p0 p1 p2 p3 p4 p5 p6 p7 =
  ifB (decide (p1 < (((List.length p5) : Nat) : Int)))
   (bindD ((ixAt p5 p1)) fun t329 =>
   ifB (t329.2.1 == (-(1 : Int)))
    (bindD ((ixAt p7 t329.1)) fun t330 =>
    bindD ((ixAt p7 t329.1)) fun t331 =>
    ifB t331
     (bindD ((ixAt p7 t329.2.2)) fun t332 =>
     bindD ((ixAt p7 t329.2.2)) fun t333 =>
     ifB (!t333)
      (bindD ((ixAt p7 t329.2.2)) fun t334 =>
      bindD ((ixAt p7 t329.2.2)) fun t335 =>
      ancepsref07_closed.l10 true (Go.IntKind.wrap Go.IntKind.i64 (p1 + (1 : Int))) p2 p3 p4 p5 p6 (setRow p7 t329.2.2 true))
     (ancepsref07_closed.l10 p0 (Go.IntKind.wrap Go.IntKind.i64 (p1 + (1 : Int))) p2 p3 p4 p5 p6 p7))
    (ancepsref07_closed.l10 p0 (Go.IntKind.wrap Go.IntKind.i64 (p1 + (1 : Int))) p2 p3 p4 p5 p6 p7))
   (ancepsref07_closed.l10 p0 (Go.IntKind.wrap Go.IntKind.i64 (p1 + (1 : Int))) p2 p3 p4 p5 p6 p7))
  (ancepsref07_closed.l7 p0 p2 p3 p4 p5 p6 p7) := (loopAt_step Go.Proofs.C07.ctx 54 10 _).trans (by kernel_rfl)
theorem ancepsref07_members.f_eq (p0 : (List Bool)) : ancepsref07_members.f p0 =
  ancepsref07_members.l3 p0 (0 : Int) ([] : (List Int)) := (Einf_call Go.Proofs.C07.ctx 83 _).trans (by kernel_rfl)
theorem ancepsref07_next.l3_eq (p0 : (List Int)) (p1 : Int) (p2 : Int) (p3 : Int) (p4 : Int) (p5 : (List Int)) (p6 : (List (Int × (Int × Int)))) (p7 : (List Int)) (p8 : (List Bool)) : ancepsref07_next.l3 p0 p1 p2 p3 p4 p5 p6 p7 p8 =
  ifB (decide (p2 < (((List.length p0) : Nat) : Int)))
   (bindD ((ixAt p0 p2)) fun t336 =>
   bindD ((ixAt p8 t336)) fun t337 =>
   bindD ((ixAt p8 t336)) fun t338 =>
   ancepsref07_next.l3 p0 p1 (Go.IntKind.wrap Go.IntKind.i64 (p2 + (1 : Int))) p3 p4 p5 p6 p7 (setRow p8 t336 true))
  (bindD ((Go.Proofs.R.mkLen p4 p4)) fun t339 =>
   ancepsref07_next.l8 p1 (0 : Int) p3 p4 p5 p6 p7 p8 (List.replicate t339 false)) := (loopAt_step Go.Proofs.C07.ctx 55 3 _).trans (by kernel_rfl)
theorem ancepsref07_find.l2_eq (p0 : (List (List Int))) (p1 : (List Int)) (p2 : Int) : ancepsref07_find.l2 p0 p1 p2 =
  ifB (decide (p2 < (((List.length p0) : Nat) : Int)))
   (bindD ((ixAt p0 p2)) fun t340 =>
   bindD (ancepsref06_Equal.f t340 p1) fun t341 =>
   ifB t341.1
    (some (p2, ()))
   (ancepsref07_find.l2 p0 p1 (Go.IntKind.wrap Go.IntKind.i64 (p2 + (1 : Int)))))
  (some ((-(1 : Int)), ())) := (loopAt_step Go.Proofs.C07.ctx 56 2 _).trans (by kernel_rfl)
theorem ancepsref07_meets.l2_eq (p0 : (List Int)) (p1 : (List Int)) (p2 : Int) : ancepsref07_meets.l2 p0 p1 p2 =
  ifB (decide (p2 < (((List.length p0) : Nat) : Int)))
   (ancepsref07_meets.l5 p0 p1 p2 (0 : Int))
  (some (false, ())) := (loopAt_step Go.Proofs.C07.ctx 57 2 _).trans (by kernel_rfl)
theorem nondet_Accepts_1.f_eq (p0 : Int) (p1 : Int) (p2 : Int) (p3 : (List Int)) (p4 : (List (Int × (Int × Int)))) (p5 : (List Int)) : nondet_Accepts_1.f p0 p1 p2 p3 p4 p5 =
  ifB (decide (p0 < (0 : Int)))
   (some (true, ()))
  (some ((decide (p0 ≥ p1)), ())) := (Einf_call Go.Proofs.C07.ctx 60 _).trans (by kernel_rfl)
theorem nondet_graph_step.l6_eq (p0 : Int) (p1 : Int) (p2 : Int) (p3 : (List (Int × (Int × Int)))) (p4 : Int) (p5 : Int) (p6 : Int) (p7 : Int) (p8 : (List Int)) (p9 : (List (Int × (Int × Int)))) (p10 : (List Int)) (p11 : (List (List (Int × (Int × Int))))) (p12 : (List Int)) (p13 : (List Int)) : nondet_graph_step.l6 p0 p1 p2 p3 p4 p5 p6 p7 p8 p9 p10 p11 p12 p13 =
  ifB (decide (p5 < p4))
   (bindD ((ixAt p3 p5)) fun t342 =>
   ifB (t342.2.1 == p0)
    (bindD ((Go.Proofs.R.grow ((List.length p12) + (List.length (t342.2.2 :: ([] : (List Int))))))) fun t343 =>
    nondet_graph_step.l6 p0 p1 p2 p3 p4 (Go.IntKind.wrap Go.IntKind.i64 (p5 + (1 : Int))) p6 p7 p8 p9 p10 p11 (p12 ++ (t342.2.2 :: ([] : (List Int)))) p13)
   (nondet_graph_step.l6 p0 p1 p2 p3 p4 (Go.IntKind.wrap Go.IntKind.i64 (p5 + (1 : Int))) p6 p7 p8 p9 p10 p11 p12 p13))
  (nondet_graph_step.l3 p0 p1 (Go.IntKind.wrap Go.IntKind.i64 (p2 + (1 : Int))) p6 p7 p8 p9 p10 p11 p12 p13) := (loopAt_step Go.Proofs.C07.ctx 50 6 _).trans (by kernel_rfl)
theorem slices_IndexFunc_int_int.f2_eq (p0 : (List Int)) (p1 : (List Bool)) : slices_IndexFunc_int_int.f2 p0 p1 =
  slices_IndexFunc_int_int.l2_2 p0 p1 (((List.length p0) : Nat) : Int) (0 : Int) := (Einf_call Go.Proofs.C07.ctx 84 _).trans (by kernel_rfl)
theorem ancepsref06_step.f_eq (p0 : Int) (p1 : Int) (p2 : (List (List Int))) (p3 : (List Bool)) (p4 : Int) (p5 : Int) : ancepsref06_step.f p0 p1 p2 p3 p4 p5 =
  ifB (decide (p4 < (0 : Int)))
   (some ((-(1 : Int)), ()))
  (ifB (decide (p5 < (0 : Int)))
    (some ((-(1 : Int)), ()))
   (ifB (decide (p5 ≥ p0))
     (some ((-(1 : Int)), ()))
    (bindD ((ixAt p2 p4)) fun t344 =>
     bindD ((ixAt t344 p5)) fun t345 =>
     some (t345, ())))) := (Einf_call Go.Proofs.C07.ctx 93 _).trans (by kernel_rfl)
theorem nondet_Closure_1.f_eq (p0 : Int) (p1 : Int) (p2 : Int) (p3 : (List Int)) (p4 : (List (Int × (Int × Int)))) (p5 : (List Int)) : nondet_Closure_1.f p0 p1 p2 p3 p4 p5 =
  ifB (decide (p0 < (0 : Int)))
   (some (true, ()))
  (some ((decide (p0 ≥ p2)), ())) := (Einf_call Go.Proofs.C07.ctx 62 _).trans (by kernel_rfl)
theorem cmp_isNaN_int.f_eq (p0 : Int) : cmp_isNaN_int.f p0 =
  some ((p0 != p0), ()) := (Einf_call Go.Proofs.C07.ctx 94 _).trans (by kernel_rfl)
theorem cmp_Or_int.l3_eq (p0 : Int) (p1 : (List Int)) (p2 : Int) (p3 : Int) : cmp_Or_int.l3 p0 p1 p2 p3 =
  ifB (decide (p3 < p2))
   (bindD ((ixAt p1 p3)) fun t346 =>
   ifB (t346 != p0)
    (some (t346, ()))
   (cmp_Or_int.l3 p0 p1 p2 (Go.IntKind.wrap Go.IntKind.i64 (p3 + (1 : Int)))))
  (some (p0, ())) := (loopAt_step Go.Proofs.C07.ctx 86 3 _).trans (by kernel_rfl)
theorem slices_IndexFunc_int_int.f3_eq (p0 : (List Int)) (p1 : Int) : slices_IndexFunc_int_int.f3 p0 p1 =
  slices_IndexFunc_int_int.l2_3 p0 p1 (((List.length p0) : Nat) : Int) (0 : Int) := (Einf_call Go.Proofs.C07.ctx 84 _).trans (by kernel_rfl)
theorem ancepsref06_Live.l3_eq (p0 : Bool) (p1 : Int) (p2 : Int) (p3 : (List (List Int))) (p4 : (List Bool)) (p5 : (List Bool)) : ancepsref06_Live.l3 p0 p1 p2 p3 p4 p5 =
  ifB p0
   (ancepsref06_Live.l6 false (0 : Int) p1 p2 p3 p4 p5)
  (some (p5, ())) := (loopAt_step Go.Proofs.C07.ctx 95 3 _).trans (by kernel_rfl)
theorem ancepsref06_classes.l11_eq (p0 : Int) (p1 : Int) (p2 : Int) (p3 : (List (List Int))) (p4 : (List Bool)) (p5 : (List Bool)) (p6 : (List Int)) : ancepsref06_classes.l11 p0 p1 p2 p3 p4 p5 p6 =
  bindD ((Go.Proofs.R.mkLen (((List.length p6) : Nat) : Int) (((List.length p6) : Nat) : Int))) fun t347 =>
  ancepsref06_classes.l14 p0 (0 : Int) p1 p2 p3 p4 p5 p6 (List.replicate t347 (0 : Int)) ([] : (List (List Int))) := (loopAt_step Go.Proofs.C07.ctx 89 11 _).trans (by kernel_rfl)
theorem automaton_useful.l3_eq (p0 : (List (List Int))) (p1 : Int) (p2 : Int) (p3 : Int) (p4 : Int) (p5 : (List (List Int))) (p6 : (List Bool)) (p7 : (List (List Int))) : automaton_useful.l3 p0 p1 p2 p3 p4 p5 p6 p7 =
  ifB (decide (p2 < p1))
   (bindD ((ixAt p0 p2)) fun t348 =>
   automaton_useful.l6 p2 p0 p1 p2 t348 (((List.length t348) : Nat) : Int) (0 : Int) p3 p4 p5 p6 p7)
  (bindD ((Go.Proofs.R.mkLen (((List.length p5) : Nat) : Int) (((List.length p5) : Nat) : Int))) fun t349 =>
   automaton_useful.l15 p6 (((List.length p6) : Nat) : Int) (0 : Int) p7 (List.replicate t349 false) ([] : (List Int))) := (loopAt_step Go.Proofs.C07.ctx 99 3 _).trans (by kernel_rfl)
theorem automaton_classes.l12_eq (p0 : Int) (p1 : Int) (p2 : Int) (p3 : (List (List Int))) (p4 : (List Bool)) (p5 : (List Int)) : automaton_classes.l12 p0 p1 p2 p3 p4 p5 =
  bindD ((Go.Proofs.R.mkLen (((List.length p5) : Nat) : Int) (((List.length p5) : Nat) : Int))) fun t350 =>
  automaton_classes.l15 p0 p3 (((List.length p3) : Nat) : Int) (0 : Int) p1 p2 p3 p4 p5 ([] : (List ((List Int) × Int))) (List.replicate t350 (0 : Int)) := (loopAt_step Go.Proofs.C07.ctx 91 12 _).trans (by kernel_rfl)
theorem nondet_set_bool_81.l2_eq (p0 : (List Bool)) (p1 : Bool) (p2 : Int) (p3 : Int) : nondet_set_bool_81.l2 p0 p1 p2 p3 =
  ifB (decide (p3 < p2))
   (bindD ((ixAt p0 p3)) fun t351 =>
   ifB (p1 == t351)
    (some (p3, ()))
   (nondet_set_bool_81.l2 p0 p1 p2 (Go.IntKind.wrap Go.IntKind.i64 (p3 + (1 : Int)))))
  (some ((-(1 : Int)), ())) := (loopAt_step Go.Proofs.C07.ctx 81 2 _).trans (by kernel_rfl)
theorem ancepsref07_members.l3_eq (p0 : (List Bool)) (p1 : Int) (p2 : (List Int)) : ancepsref07_members.l3 p0 p1 p2 =
  ifB (decide (p1 < (((List.length p0) : Nat) : Int)))
   (bindD ((ixAt p0 p1)) fun t352 =>
   ifB t352
    (bindD ((Go.Proofs.R.grow ((List.length p2) + (List.length (p1 :: ([] : (List Int))))))) fun t353 =>
    ancepsref07_members.l3 p0 (Go.IntKind.wrap Go.IntKind.i64 (p1 + (1 : Int))) (p2 ++ (p1 :: ([] : (List Int)))))
   (ancepsref07_members.l3 p0 (Go.IntKind.wrap Go.IntKind.i64 (p1 + (1 : Int))) p2))
  (some (p2, ())) := (loopAt_step Go.Proofs.C07.ctx 83 3 _).trans (by kernel_rfl)
theorem ancepsref07_next.l8_eq (p0 : Int) (p1 : Int) (p2 : Int) (p3 : Int) (p4 : (List Int)) (p5 : (List (Int × (Int × Int)))) (p6 : (List Int)) (p7 : (List Bool)) (p8 : (List Bool)) : ancepsref07_next.l8 p0 p1 p2 p3 p4 p5 p6 p7 p8 =
  ifB (decide (p1 < (((List.length p5) : Nat) : Int)))
   (bindD ((ixAt p5 p1)) fun t354 =>
   ifB (t354.2.1 == p0)
    (bindD ((ixAt p7 t354.1)) fun t355 =>
    bindD ((ixAt p7 t354.1)) fun t356 =>
    ifB t356
     (bindD ((ixAt p8 t354.2.2)) fun t357 =>
     bindD ((ixAt p8 t354.2.2)) fun t358 =>
     ancepsref07_next.l8 p0 (Go.IntKind.wrap Go.IntKind.i64 (p1 + (1 : Int))) p2 p3 p4 p5 p6 p7 (setRow p8 t354.2.2 true))
    (ancepsref07_next.l8 p0 (Go.IntKind.wrap Go.IntKind.i64 (p1 + (1 : Int))) p2 p3 p4 p5 p6 p7 p8))
   (ancepsref07_next.l8 p0 (Go.IntKind.wrap Go.IntKind.i64 (p1 + (1 : Int))) p2 p3 p4 p5 p6 p7 p8))
  (bindD (ancepsref07_members.f p8) fun t359 =>
   bindD (ancepsref07_closed.f p2 p3 p4 p5 p6 t359.1) fun t360 =>
   some (t360.1, ())) := (loopAt_step Go.Proofs.C07.ctx 55 8 _).trans (by kernel_rfl)
theorem ancepsref07_meets.l5_eq (p0 : (List Int)) (p1 : (List Int)) (p2 : Int) (p3 : Int) : ancepsref07_meets.l5 p0 p1 p2 p3 =
  ifB (decide (p3 < (((List.length p1) : Nat) : Int)))
   (bindD ((ixAt p0 p2)) fun t361 =>
   bindD ((ixAt p1 p3)) fun t362 =>
   ifB (t361 == t362)
    (some (true, ()))
   (ancepsref07_meets.l5 p0 p1 p2 (Go.IntKind.wrap Go.IntKind.i64 (p3 + (1 : Int)))))
  (ancepsref07_meets.l2 p0 p1 (Go.IntKind.wrap Go.IntKind.i64 (p2 + (1 : Int)))) := (loopAt_step Go.Proofs.C07.ctx 57 5 _).trans (by kernel_rfl)
theorem slices_IndexFunc_int_int.l2_2_eq (p0 : (List Int)) (p1 : (List Bool)) (p2 : Int) (p3 : Int) : slices_IndexFunc_int_int.l2_2 p0 p1 p2 p3 =
  ifB (decide (p3 < p2))
   (bindD ((ixAt p0 p3)) fun t363 =>
   bindD (nondet_graph_accepts_1.f t363 p1) fun t364 =>
   ifB t364.1
    (some (p3, ()))
   (slices_IndexFunc_int_int.l2_2 p0 p1 p2 (Go.IntKind.wrap Go.IntKind.i64 (p3 + (1 : Int)))))
  (some ((-(1 : Int)), ())) := (loopAt_step Go.Proofs.C07.ctx 84 2 _).trans (by kernel_rfl)
theorem slices_IndexFunc_int_int.l2_3_eq (p0 : (List Int)) (p1 : Int) (p2 : Int) (p3 : Int) : slices_IndexFunc_int_int.l2_3 p0 p1 p2 p3 =
  ifB (decide (p3 < p2))
   (bindD ((ixAt p0 p3)) fun t365 =>
   bindD (automaton_Valid_1.f t365 p1) fun t366 =>
   ifB t366.1
    (some (p3, ()))
   (slices_IndexFunc_int_int.l2_3 p0 p1 p2 (Go.IntKind.wrap Go.IntKind.i64 (p3 + (1 : Int)))))
  (some ((-(1 : Int)), ())) := (loopAt_step Go.Proofs.C07.ctx 84 2 _).trans (by kernel_rfl)
theorem ancepsref06_Live.l6_eq (p0 : Bool) (p1 : Int) (p2 : Int) (p3 : Int) (p4 : (List (List Int))) (p5 : (List Bool)) (p6 : (List Bool)) : ancepsref06_Live.l6 p0 p1 p2 p3 p4 p5 p6 =
  ifB (decide (p1 < (((List.length p4) : Nat) : Int)))
   (ancepsref06_Live.l9 p0 p1 (0 : Int) p2 p3 p4 p5 p6)
  (ancepsref06_Live.l3 p0 p2 p3 p4 p5 p6) := (loopAt_step Go.Proofs.C07.ctx 95 6 _).trans (by kernel_rfl)
theorem ancepsref06_classes.l14_eq (p0 : Int) (p1 : Int) (p2 : Int) (p3 : Int) (p4 : (List (List Int))) (p5 : (List Bool)) (p6 : (List Bool)) (p7 : (List Int)) (p8 : (List Int)) (p9 : (List (List Int))) : ancepsref06_classes.l14 p0 p1 p2 p3 p4 p5 p6 p7 p8 p9 =
  ifB (decide (p1 < (((List.length p7) : Nat) : Int)))
   (bindD ((ixAt p6 p1)) fun t367 =>
   bindD ((ixAt p6 p1)) fun t368 =>
   ifB (!t368)
    (ancepsref06_classes.l14 p0 (Go.IntKind.wrap Go.IntKind.i64 (p1 + (1 : Int))) p2 p3 p4 p5 p6 p7 p8 p9)
   (bindD ((ixAt p7 p1)) fun t369 =>
    bindD ((ixAt p7 p1)) fun t370 =>
    ancepsref06_classes.l19 p0 p1 (0 : Int) p2 p3 p4 p5 p6 p7 p8 p9 (t370 :: ([] : (List Int)))))
  (ifB ((((List.length p9) : Nat) : Int) == p0)
    (some (p8, ()))
   (ancepsref06_classes.l11 (((List.length p9) : Nat) : Int) p2 p3 p4 p5 p6 p8)) := (loopAt_step Go.Proofs.C07.ctx 89 14 _).trans (by kernel_rfl)
theorem automaton_useful.l6_eq (p0 : Int) (p1 : (List (List Int))) (p2 : Int) (p3 : Int) (p4 : (List Int)) (p5 : Int) (p6 : Int) (p7 : Int) (p8 : Int) (p9 : (List (List Int))) (p10 : (List Bool)) (p11 : (List (List Int))) : automaton_useful.l6 p0 p1 p2 p3 p4 p5 p6 p7 p8 p9 p10 p11 =
  ifB (decide (p6 < p5))
   (bindD ((ixAt p4 p6)) fun t371 =>
   ifB (decide (t371 ≥ (0 : Int)))
    (bindD ((ixAt p11 t371)) fun t372 =>
    bindD ((ixAt p11 t371)) fun t373 =>
    bindD ((ixAt p11 t371)) fun t374 =>
    bindD ((Go.Proofs.R.grow ((List.length t374) + (List.length (p0 :: ([] : (List Int))))))) fun t375 =>
    bindD ((ixAt p11 t371)) fun t376 =>
    ifB (decide (t371 = t371))
     (automaton_useful.l6 p0 p1 p2 p3 p4 p5 (Go.IntKind.wrap Go.IntKind.i64 (p6 + (1 : Int))) p7 p8 p9 p10 (setRow p11 t371 (t374 ++ (p0 :: ([] : (List Int))))))
    (none))
   (automaton_useful.l6 p0 p1 p2 p3 p4 p5 (Go.IntKind.wrap Go.IntKind.i64 (p6 + (1 : Int))) p7 p8 p9 p10 p11))
  (automaton_useful.l3 p1 p2 (Go.IntKind.wrap Go.IntKind.i64 (p3 + (1 : Int))) p7 p8 p9 p10 p11) := (loopAt_step Go.Proofs.C07.ctx 99 6 _).trans (by kernel_rfl)
theorem automaton_useful.l15_eq (p0 : (List Bool)) (p1 : Int) (p2 : Int) (p3 : (List (List Int))) (p4 : (List Bool)) (p5 : (List Int)) : automaton_useful.l15 p0 p1 p2 p3 p4 p5 =
  ifB (decide (p2 < p1))
   (bindD ((ixAt p0 p2)) fun t377 =>
   ifB t377
    (bindD ((ixAt p4 p2)) fun t378 =>
    bindD ((ixAt p4 p2)) fun t379 =>
    bindD ((Go.Proofs.R.grow ((List.length p5) + (List.length (p2 :: ([] : (List Int))))))) fun t380 =>
    automaton_useful.l15 p0 p1 (Go.IntKind.wrap Go.IntKind.i64 (p2 + (1 : Int))) p3 (setRow p4 p2 true) (p5 ++ (p2 :: ([] : (List Int)))))
   (automaton_useful.l15 p0 p1 (Go.IntKind.wrap Go.IntKind.i64 (p2 + (1 : Int))) p3 p4 p5))
  (automaton_useful.l21 p3 p4 p5) := (loopAt_step Go.Proofs.C07.ctx 99 15 _).trans (by kernel_rfl)
theorem automaton_classes.l15_eq (p0 : Int) (p1 : (List (List Int))) (p2 : Int) (p3 : Int) (p4 : Int) (p5 : Int) (p6 : (List (List Int))) (p7 : (List Bool)) (p8 : (List Int)) (p9 : (List ((List Int) × Int))) (p10 : (List Int)) : automaton_classes.l15 p0 p1 p2 p3 p4 p5 p6 p7 p8 p9 p10 =
  ifB (decide (p3 < p2))
   (bindD ((ixAt p1 p3)) fun t381 =>
   bindD ((ixAt p8 p3)) fun t382 =>
   bindD ((ixAt p8 p3)) fun t383 =>
   ifB (t383 == (0 : Int))
    (automaton_classes.l15 p0 p1 p2 (Go.IntKind.wrap Go.IntKind.i64 (p3 + (1 : Int))) p4 p5 p6 p7 p8 p9 p10)
   (bindD ((ixAt p8 p3)) fun t384 =>
    bindD ((ixAt p8 p3)) fun t385 =>
    automaton_classes.l20 p0 p3 p1 p2 p3 t381 (((List.length t381) : Nat) : Int) (0 : Int) p4 p5 p6 p7 p8 p9 p10 (List.set (List.replicate (9 : Nat) (0 : Int)) (0 : Nat) t385)))
  (ifB ((((List.length p9) : Nat) : Int) == p0)
    (some (p10, ()))
   (automaton_classes.l12 (((List.length p9) : Nat) : Int) p4 p5 p6 p7 p10)) := (loopAt_step Go.Proofs.C07.ctx 91 15 _).trans (by kernel_rfl)
theorem nondet_graph_accepts_1.f_eq (p0 : Int) (p1 : (List Bool)) : nondet_graph_accepts_1.f p0 p1 =
  bindD ((ixAt p1 p0)) fun t386 =>
  some (t386, ()) := (Einf_call Go.Proofs.C07.ctx 82 _).trans (by kernel_rfl)
theorem automaton_Valid_1.f_eq (p0 : Int) (p1 : Int) : automaton_Valid_1.f p0 p1 =
  ifB (decide (p0 < (-(1 : Int))))
   (some (true, ()))
  (some ((decide (p0 ≥ p1)), ())) := (Einf_call Go.Proofs.C07.ctx 88 _).trans (by kernel_rfl)
theorem ancepsref06_Live.l9_eq (p0 : Bool) (p1 : Int) (p2 : Int) (p3 : Int) (p4 : Int) (p5 : (List (List Int))) (p6 : (List Bool)) (p7 : (List Bool)) : ancepsref06_Live.l9 p0 p1 p2 p3 p4 p5 p6 p7 =
  ifB (decide (p2 < p3))
   (bindD ((ixAt p7 p1)) fun t387 =>
   bindD ((ixAt p7 p1)) fun t388 =>
   ifB (!t388)
    (bindD ((ixAt p5 p1)) fun t389 =>
    bindD ((ixAt t389 p2)) fun t390 =>
    ifB (decide (t390 ≥ (0 : Int)))
     (bindD ((ixAt p7 t390)) fun t391 =>
     bindD ((ixAt p7 t390)) fun t392 =>
     ifB t392
      (bindD ((ixAt p7 p1)) fun t393 =>
      bindD ((ixAt p7 p1)) fun t394 =>
      ancepsref06_Live.l9 true p1 (Go.IntKind.wrap Go.IntKind.i64 (p2 + (1 : Int))) p3 p4 p5 p6 (setRow p7 p1 true))
     (ancepsref06_Live.l9 p0 p1 (Go.IntKind.wrap Go.IntKind.i64 (p2 + (1 : Int))) p3 p4 p5 p6 p7))
    (ancepsref06_Live.l9 p0 p1 (Go.IntKind.wrap Go.IntKind.i64 (p2 + (1 : Int))) p3 p4 p5 p6 p7))
   (ancepsref06_Live.l6 p0 (Go.IntKind.wrap Go.IntKind.i64 (p1 + (1 : Int))) p3 p4 p5 p6 p7))
  (ancepsref06_Live.l6 p0 (Go.IntKind.wrap Go.IntKind.i64 (p1 + (1 : Int))) p3 p4 p5 p6 p7) := (loopAt_step Go.Proofs.C07.ctx 95 9 _).trans (by kernel_rfl)
theorem ancepsref06_classes.l19_eq (p0 : Int) (p1 : Int) (p2 : Int) (p3 : Int) (p4 : Int) (p5 : (List (List Int))) (p6 : (List Bool)) (p7 : (List Bool)) (p8 : (List Int)) (p9 : (List Int)) (p10 : (List (List Int))) (p11 : (List Int)) : ancepsref06_classes.l19 p0 p1 p2 p3 p4 p5 p6 p7 p8 p9 p10 p11 =
  ifB (decide (p2 < p3))
   (bindD ((ixAt p5 p1)) fun t395 =>
   bindD ((ixAt t395 p2)) fun t396 =>
   ifB (decide (t396 ≥ (0 : Int)))
    (bindD ((ixAt p5 p1)) fun t397 =>
    bindD ((ixAt t397 p2)) fun t398 =>
    bindD ((ixAt p8 t398)) fun t399 =>
    bindD ((ixAt p8 t398)) fun t400 =>
    bindD ((Go.Proofs.R.grow ((List.length p11) + (List.length (t400 :: ([] : (List Int))))))) fun t401 =>
    ancepsref06_classes.l19 p0 p1 (Go.IntKind.wrap Go.IntKind.i64 (p2 + (1 : Int))) p3 p4 p5 p6 p7 p8 p9 p10 (p11 ++ (t400 :: ([] : (List Int)))))
   (bindD ((Go.Proofs.R.grow ((List.length p11) + (List.length ((0 : Int) :: ([] : (List Int))))))) fun t402 =>
    ancepsref06_classes.l19 p0 p1 (Go.IntKind.wrap Go.IntKind.i64 (p2 + (1 : Int))) p3 p4 p5 p6 p7 p8 p9 p10 (p11 ++ ((0 : Int) :: ([] : (List Int))))))
  (bindD (ancepsref06_index.f p10 p11) fun t403 =>
   ifB (decide (t403.1 < (0 : Int)))
    (bindD ((Go.Proofs.R.grow ((List.length p10) + (List.length (p11 :: ([] : (List (List Int)))))))) fun t404 =>
    bindD ((ixAt p9 p1)) fun t405 =>
    bindD ((ixAt p9 p1)) fun t406 =>
    ancepsref06_classes.l14 p0 (Go.IntKind.wrap Go.IntKind.i64 (p1 + (1 : Int))) p3 p4 p5 p6 p7 p8 (setRow p9 p1 (Go.IntKind.wrap Go.IntKind.i64 ((Go.IntKind.wrap Go.IntKind.i64 ((((List.length (p10 ++ (p11 :: ([] : (List (List Int)))))) : Nat) : Int) - (1 : Int))) + (1 : Int)))) (p10 ++ (p11 :: ([] : (List (List Int))))))
   (bindD ((ixAt p9 p1)) fun t407 =>
    bindD ((ixAt p9 p1)) fun t408 =>
    ancepsref06_classes.l14 p0 (Go.IntKind.wrap Go.IntKind.i64 (p1 + (1 : Int))) p3 p4 p5 p6 p7 p8 (setRow p9 p1 (Go.IntKind.wrap Go.IntKind.i64 (t403.1 + (1 : Int)))) p10)) := (loopAt_step Go.Proofs.C07.ctx 89 19 _).trans (by kernel_rfl)
theorem automaton_useful.l21_eq (p0 : (List (List Int))) (p1 : (List Bool)) (p2 : (List Int)) : automaton_useful.l21 p0 p1 p2 =
  ifB (decide ((((List.length p2) : Nat) : Int) > (0 : Int)))
   (bindD ((ixAt p2 (0 : Int))) fun t409 =>
   bindD ((ixAt p2 (0 : Int))) fun t410 =>
   bindD ((subL p2 (1 : Int) (((List.length p2) : Nat) : Int))) fun t411 =>
   bindD ((ixAt p0 t410)) fun t412 =>
   bindD ((ixAt p0 t410)) fun t413 =>
   automaton_useful.l25 t413 (((List.length t413) : Nat) : Int) (0 : Int) p0 p1 t411)
  (some (p1, ())) := (loopAt_step Go.Proofs.C07.ctx 99 21 _).trans (by kernel_rfl)
theorem automaton_classes.l20_eq (p0 : Int) (p1 : Int) (p2 : (List (List Int))) (p3 : Int) (p4 : Int) (p5 : (List Int)) (p6 : Int) (p7 : Int) (p8 : Int) (p9 : Int) (p10 : (List (List Int))) (p11 : (List Bool)) (p12 : (List Int)) (p13 : (List ((List Int) × Int))) (p14 : (List Int)) (p15 : (List Int)) : automaton_classes.l20 p0 p1 p2 p3 p4 p5 p6 p7 p8 p9 p10 p11 p12 p13 p14 p15 =
  ifB (decide (p7 < p6))
   (bindD ((ixAt p5 p7)) fun t414 =>
   ifB (decide (t414 ≥ (0 : Int)))
    (bindD ((ixAt p12 t414)) fun t415 =>
    bindD ((ixAt p12 t414)) fun t416 =>
    bindD ((ixAt p15 (Go.IntKind.wrap Go.IntKind.i64 (p7 + (1 : Int))))) fun t417 =>
    bindD ((ixAt p15 (Go.IntKind.wrap Go.IntKind.i64 (p7 + (1 : Int))))) fun t418 =>
    automaton_classes.l20 p0 p1 p2 p3 p4 p5 p6 (Go.IntKind.wrap Go.IntKind.i64 (p7 + (1 : Int))) p8 p9 p10 p11 p12 p13 p14 (setRow p15 (Go.IntKind.wrap Go.IntKind.i64 (p7 + (1 : Int))) t416))
   (automaton_classes.l20 p0 p1 p2 p3 p4 p5 p6 (Go.IntKind.wrap Go.IntKind.i64 (p7 + (1 : Int))) p8 p9 p10 p11 p12 p13 p14 p15))
  (ifB ((Go.Proofs.R.mget (Go.Proofs.R.Ty.arr (9 : Nat) (Go.Proofs.R.Ty.int Go.IntKind.i64)) (0 : Int) p15 p13).1 == (0 : Int))
    (bindD ((ixAt p14 p1)) fun t419 =>
    bindD ((ixAt p14 p1)) fun t420 =>
    automaton_classes.l15 p0 p2 p3 (Go.IntKind.wrap Go.IntKind.i64 (p4 + (1 : Int))) p8 p9 p10 p11 p12 (Go.Proofs.R.mput (Go.Proofs.R.Ty.arr (9 : Nat) (Go.Proofs.R.Ty.int Go.IntKind.i64)) p15 (Go.IntKind.wrap Go.IntKind.i64 ((((List.length p13) : Nat) : Int) + (1 : Int))) p13) (setRow p14 p1 (Go.Proofs.R.mget (Go.Proofs.R.Ty.arr (9 : Nat) (Go.Proofs.R.Ty.int Go.IntKind.i64)) (0 : Int) p15 (Go.Proofs.R.mput (Go.Proofs.R.Ty.arr (9 : Nat) (Go.Proofs.R.Ty.int Go.IntKind.i64)) p15 (Go.IntKind.wrap Go.IntKind.i64 ((((List.length p13) : Nat) : Int) + (1 : Int))) p13)).1))
   (bindD ((ixAt p14 p1)) fun t421 =>
    bindD ((ixAt p14 p1)) fun t422 =>
    automaton_classes.l15 p0 p2 p3 (Go.IntKind.wrap Go.IntKind.i64 (p4 + (1 : Int))) p8 p9 p10 p11 p12 p13 (setRow p14 p1 (Go.Proofs.R.mget (Go.Proofs.R.Ty.arr (9 : Nat) (Go.Proofs.R.Ty.int Go.IntKind.i64)) (0 : Int) p15 p13).1))) := (loopAt_step Go.Proofs.C07.ctx 91 20 _).trans (by kernel_rfl)
theorem ancepsref06_index.f_eq (p0 : (List (List Int))) (p1 : (List Int)) : ancepsref06_index.f p0 p1 =
  ancepsref06_index.l2 p0 p1 (0 : Int) := (Einf_call Go.Proofs.C07.ctx 96 _).trans (by kernel_rfl)
theorem automaton_useful.l25_eq (p0 : (List Int)) (p1 : Int) (p2 : Int) (p3 : (List (List Int))) (p4 : (List Bool)) (p5 : (List Int)) : automaton_useful.l25 p0 p1 p2 p3 p4 p5 =
  ifB (decide (p2 < p1))
   (bindD ((ixAt p0 p2)) fun t423 =>
   bindD ((ixAt p4 t423)) fun t424 =>
   bindD ((ixAt p4 t423)) fun t425 =>
   ifB (!t425)
    (bindD ((ixAt p4 t423)) fun t426 =>
    bindD ((ixAt p4 t423)) fun t427 =>
    bindD ((Go.Proofs.R.grow ((List.length p5) + (List.length (t423 :: ([] : (List Int))))))) fun t428 =>
    automaton_useful.l25 p0 p1 (Go.IntKind.wrap Go.IntKind.i64 (p2 + (1 : Int))) p3 (setRow p4 t423 true) (p5 ++ (t423 :: ([] : (List Int)))))
   (automaton_useful.l25 p0 p1 (Go.IntKind.wrap Go.IntKind.i64 (p2 + (1 : Int))) p3 p4 p5))
  (automaton_useful.l21 p3 p4 p5) := (loopAt_step Go.Proofs.C07.ctx 99 25 _).trans (by kernel_rfl)
theorem ancepsref06_index.l2_eq (p0 : (List (List Int))) (p1 : (List Int)) (p2 : Int) : ancepsref06_index.l2 p0 p1 p2 =
  ifB (decide (p2 < (((List.length p0) : Nat) : Int)))
   (bindD ((ixAt p0 p2)) fun t429 =>
   bindD (ancepsref06_Equal.f t429 p1) fun t430 =>
   ifB t430.1
    (some (p2, ()))
   (ancepsref06_index.l2 p0 p1 (Go.IntKind.wrap Go.IntKind.i64 (p2 + (1 : Int)))))
  (some ((-(1 : Int)), ())) := (loopAt_step Go.Proofs.C07.ctx 96 2 _).trans (by kernel_rfl)
end Go.Proofs.C07
