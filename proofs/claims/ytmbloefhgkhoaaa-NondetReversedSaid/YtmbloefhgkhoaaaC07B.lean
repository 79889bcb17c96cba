/- C07B: what the row's functions are, as the evaluator tells them. No condition. -/
import Derived.Test.YtmbloefhgkhoaaaC07
set_option linter.unusedVariables false
set_option linter.unusedSimpArgs false
set_option maxRecDepth 100000
set_option linter.unusedVariables false
namespace Go.Proofs.C07
open Go Go.Proofs.R
noncomputable def ancepslaw07_NondetReversed.f (p0 : Int) (p1 : Int) (p2 : Int) (p3 : Int) (p4 : (List (List Int))) (p5 : (List Int)) : Option (Bool × Unit) := (Go.Proofs.R.Einf Go.Proofs.C07.ctx).call 6 [(.agg [(.v (.int .u8) p0), (.v (.int .u8) p1), (.v (.int .u8) p2), (.v (.int .u8) p3), (.v (.sl (.arr 3 (.int .u8))) p4)]), (.one (.v (.sl (.int .u8)) p5))]
noncomputable def ancepslaw07_awake.f : Option (Bool × Unit) := (Go.Proofs.R.Einf Go.Proofs.C07.ctx).call 11 []
noncomputable def ancepsref07_Valid.f (p0 : Int) (p1 : Int) (p2 : (List Int)) (p3 : (List (Int × (Int × Int)))) (p4 : (List Int)) : Option (Int × Unit) := (Go.Proofs.R.Einf Go.Proofs.C07.ctx).call 13 [(.agg [(.v (.int .i64) p0), (.v (.int .i64) p1), (.v (.sl (.int .i64)) p2), (.v (.sl (.pair (.int .i64) (.pair (.int .i64) (.int .i64)))) p3), (.v (.sl (.int .i64)) p4)])]
noncomputable def ancepsref07_Word.f (p0 : Int) (p1 : Int) (p2 : (List Int)) (p3 : (List (Int × (Int × Int)))) (p4 : (List Int)) (p5 : (List Int)) : Option ((List Int) × Unit) := (Go.Proofs.R.Einf Go.Proofs.C07.ctx).call 18 [(.agg [(.v (.int .i64) p0), (.v (.int .i64) p1), (.v (.sl (.int .i64)) p2), (.v (.sl (.pair (.int .i64) (.pair (.int .i64) (.int .i64)))) p3), (.v (.sl (.int .i64)) p4)]), (.one (.v (.sl (.int .u8)) p5))]
noncomputable def nondet_Accepts.f (p0 : Int) (p1 : Int) (p2 : (List Int)) (p3 : (List (Int × (Int × Int)))) (p4 : (List Int)) (p5 : (List Int)) : Option (Bool × (Int × Unit)) := (Go.Proofs.R.Einf Go.Proofs.C07.ctx).call 19 [(.agg [(.v (.int .i64) p0), (.v (.int .i64) p1), (.v (.sl (.int .i64)) p2), (.v (.sl (.pair (.int .i64) (.pair (.int .i64) (.int .i64)))) p3), (.v (.sl (.int .i64)) p4)]), (.one (.v (.sl (.int .i64)) p5))]
noncomputable def slices_Clone_int_int.f (p0 : (List Int)) : Option ((List Int) × Unit) := (Go.Proofs.R.Einf Go.Proofs.C07.ctx).call 22 [(.one (.v (.sl (.int .i64)) p0))]
noncomputable def nondet_Valid.f (p0 : Int) (p1 : Int) (p2 : (List Int)) (p3 : (List (Int × (Int × Int)))) (p4 : (List Int)) : Option (Int × Unit) := (Go.Proofs.R.Einf Go.Proofs.C07.ctx).call 25 [(.agg [(.v (.int .i64) p0), (.v (.int .i64) p1), (.v (.sl (.int .i64)) p2), (.v (.sl (.pair (.int .i64) (.pair (.int .i64) (.int .i64)))) p3), (.v (.sl (.int .i64)) p4)])]
noncomputable def nondet_Reverse.f (p0 : Int) (p1 : Int) (p2 : (List Int)) (p3 : (List (Int × (Int × Int)))) (p4 : (List Int)) : Option (Int × (Int × ((List Int) × ((List (Int × (Int × Int))) × ((List Int) × (Int × Unit)))))) := (Go.Proofs.R.Einf Go.Proofs.C07.ctx).call 32 [(.agg [(.v (.int .i64) p0), (.v (.int .i64) p1), (.v (.sl (.int .i64)) p2), (.v (.sl (.pair (.int .i64) (.pair (.int .i64) (.int .i64)))) p3), (.v (.sl (.int .i64)) p4)])]
noncomputable def ancepsref07_Reverse.f (p0 : Int) (p1 : Int) (p2 : (List Int)) (p3 : (List (Int × (Int × Int)))) (p4 : (List Int)) : Option (Int × (Int × ((List Int) × ((List (Int × (Int × Int))) × ((List Int) × (Int × Unit)))))) := (Go.Proofs.R.Einf Go.Proofs.C07.ctx).call 38 [(.agg [(.v (.int .i64) p0), (.v (.int .i64) p1), (.v (.sl (.int .i64)) p2), (.v (.sl (.pair (.int .i64) (.pair (.int .i64) (.int .i64)))) p3), (.v (.sl (.int .i64)) p4)])]
noncomputable def ancepsref07_Made.f (p0 : Int) (p1 : Int) (p2 : Int) (p3 : Int) (p4 : (List (List Int))) : Option (Int × (Int × ((List Int) × ((List (Int × (Int × Int))) × ((List Int) × Unit))))) := (Go.Proofs.R.Einf Go.Proofs.C07.ctx).call 31 [(.agg [(.v (.int .u8) p0), (.v (.int .u8) p1), (.v (.int .u8) p2), (.v (.int .u8) p3), (.v (.sl (.arr 3 (.int .u8))) p4)])]
noncomputable def ancepsref07_ascending.f (p0 : (List Int)) (p1 : Int) : Option (Bool × Unit) := (Go.Proofs.R.Einf Go.Proofs.C07.ctx).call 44 [(.one (.v (.sl (.int .i64)) p0)), (.one (.v (.int .i64) p1))]
noncomputable def ancepsref07_Valid.l6 (p0 : Int) (p1 : Int) (p2 : Int) (p3 : (List Int)) (p4 : (List (Int × (Int × Int)))) (p5 : (List Int)) : Option (Int × Unit) := Go.Proofs.R.loopAt Go.Proofs.C07.ctx (Go.Proofs.R.Einf Go.Proofs.C07.ctx) 13 6 (.mk [(1, (.one (.ref 7 0))), (3, (.one (.v (.int .i64) p0)))] [(7, (.box 25 [(.v (.int .i64) p1), (.v (.int .i64) p2), (.v (.sl (.int .i64)) p3), (.v (.sl (.pair (.int .i64) (.pair (.int .i64) (.int .i64)))) p4), (.v (.sl (.int .i64)) p5)]))])
noncomputable def nondet_open.f (p0 : Int) (p1 : Int) (p2 : (List Int)) (p3 : (List (Int × (Int × Int)))) (p4 : (List Int)) : Option (Int × (Int × ((List Int) × ((List (Int × (Int × Int))) × ((List Int) × ((List (List (Int × (Int × Int)))) × Unit)))))) := (Go.Proofs.R.Einf Go.Proofs.C07.ctx).call 46 [(.agg [(.v (.int .i64) p0), (.v (.int .i64) p1), (.v (.sl (.int .i64)) p2), (.v (.sl (.pair (.int .i64) (.pair (.int .i64) (.int .i64)))) p3), (.v (.sl (.int .i64)) p4)])]
noncomputable def nondet_graph_closure.f (p0 : Int) (p1 : Int) (p2 : (List Int)) (p3 : (List (Int × (Int × Int)))) (p4 : (List Int)) (p5 : (List (List (Int × (Int × Int))))) (p6 : (List Int)) : Option ((List Bool) × Unit) := (Go.Proofs.R.Einf Go.Proofs.C07.ctx).call 47 [(.agg [(.v (.int .i64) p0), (.v (.int .i64) p1), (.v (.sl (.int .i64)) p2), (.v (.sl (.pair (.int .i64) (.pair (.int .i64) (.int .i64)))) p3), (.v (.sl (.int .i64)) p4), (.v (.sl (.sl (.pair (.int .i64) (.pair (.int .i64) (.int .i64))))) p5)]), (.one (.v (.sl (.int .i64)) p6))]
noncomputable def ancepsref07_Word.l3 (p0 : (List Int)) (p1 : Int) (p2 : Int) (p3 : Int) (p4 : (List Int)) (p5 : (List (Int × (Int × Int)))) (p6 : (List Int)) (p7 : (List Int)) : Option ((List Int) × Unit) := Go.Proofs.R.loopAt Go.Proofs.C07.ctx (Go.Proofs.R.Einf Go.Proofs.C07.ctx) 18 3 (.mk [(1, (.one (.v (.sl (.int .u8)) p0))), (2, (.one (.ref 7 0))), (5, (.one (.row 15))), (6, (.one (.v (.int .i64) p1)))] [(7, (.box 25 [(.v (.int .i64) p2), (.v (.int .i64) p3), (.v (.sl (.int .i64)) p4), (.v (.sl (.pair (.int .i64) (.pair (.int .i64) (.int .i64)))) p5), (.v (.sl (.int .i64)) p6)])), (15, (.row 3 (.int .i64) p7 false))])
noncomputable def slices_ContainsFunc_int_int.f (p0 : (List Int)) (p1 : Int) (p2 : Int) (p3 : (List Int)) (p4 : (List (Int × (Int × Int)))) (p5 : (List Int)) : Option (Bool × Unit) := (Go.Proofs.R.Einf Go.Proofs.C07.ctx).call 59 [(.one (.v (.sl (.int .i64)) p0)), (.one (.clo 60 [(.pref [(.v (.int .i64) p1), (.v (.int .i64) p2), (.v (.sl (.int .i64)) p3), (.v (.sl (.pair (.int .i64) (.pair (.int .i64) (.int .i64)))) p4), (.v (.sl (.int .i64)) p5)] 0)]))]
noncomputable def nondet_Accepts.l9 (p0 : (List Int)) (p1 : Int) (p2 : Int) (p3 : Int) (p4 : Int) (p5 : (List Int)) (p6 : (List (Int × (Int × Int)))) (p7 : (List Int)) (p8 : (List (List (Int × (Int × Int))))) (p9 : (List Bool)) : Option (Bool × (Int × Unit)) := Go.Proofs.R.loopAt Go.Proofs.C07.ctx (Go.Proofs.R.Einf Go.Proofs.C07.ctx) 19 9 (.mk [(7, (.one (.ref 7 0))), (8, (.one (.row 15))), (25, (.one (.v (.sl (.int .i64)) p0))), (26, (.one (.v (.int .i64) p1))), (27, (.one (.v (.int .i64) p2)))] [(7, (.box 78 [(.v (.int .i64) p3), (.v (.int .i64) p4), (.v (.sl (.int .i64)) p5), (.v (.sl (.pair (.int .i64) (.pair (.int .i64) (.int .i64)))) p6), (.v (.sl (.int .i64)) p7), (.v (.sl (.sl (.pair (.int .i64) (.pair (.int .i64) (.int .i64))))) p8)])), (15, (.row 4 .bool p9 false))])
noncomputable def nondet_set_list.f (p0 : (List Bool)) : Option ((List Int) × Unit) := (Go.Proofs.R.Einf Go.Proofs.C07.ctx).call 63 [(.one (.v (.sl .bool) p0))]
noncomputable def nondet_ascends.f (p0 : (List Int)) (p1 : Int) : Option (Bool × Unit) := (Go.Proofs.R.Einf Go.Proofs.C07.ctx).call 64 [(.one (.v (.sl (.int .i64)) p0)), (.one (.v (.int .i64) p1))]
noncomputable def nondet_Valid.l6 (p0 : (List (Int × (Int × Int)))) (p1 : Int) (p2 : Int) (p3 : Int) (p4 : Int) (p5 : (List Int)) (p6 : (List (Int × (Int × Int)))) (p7 : (List Int)) : Option (Int × Unit) := Go.Proofs.R.loopAt Go.Proofs.C07.ctx (Go.Proofs.R.Einf Go.Proofs.C07.ctx) 25 6 (.mk [(1, (.one (.ref 7 0))), (44, (.one (.v (.sl (.pair (.int .i64) (.pair (.int .i64) (.int .i64)))) p0))), (45, (.one (.v (.int .i64) p1))), (46, (.one (.v (.int .i64) p2)))] [(7, (.box 25 [(.v (.int .i64) p3), (.v (.int .i64) p4), (.v (.sl (.int .i64)) p5), (.v (.sl (.pair (.int .i64) (.pair (.int .i64) (.int .i64)))) p6), (.v (.sl (.int .i64)) p7)]))])
noncomputable def nondet_Reverse.l6 (p0 : (List (Int × (Int × Int)))) (p1 : Int) (p2 : Int) (p3 : Int) (p4 : Int) (p5 : Int) (p6 : Int) (p7 : (List Int)) (p8 : (List (Int × (Int × Int)))) (p9 : (List Int)) (p10 : (List Int)) (p11 : (List (Int × (Int × Int)))) (p12 : (List Int)) : Option (Int × (Int × ((List Int) × ((List (Int × (Int × Int))) × ((List Int) × (Int × Unit)))))) := Go.Proofs.R.loopAt Go.Proofs.C07.ctx (Go.Proofs.R.Einf Go.Proofs.C07.ctx) 32 6 (.mk [(2, (.one (.ref 7 0))), (5, (.one (.ref 15 0))), (26, (.one (.v (.sl (.pair (.int .i64) (.pair (.int .i64) (.int .i64)))) p0))), (27, (.one (.v (.int .i64) p1))), (28, (.one (.v (.int .i64) p2)))] [(7, (.box 25 [(.v (.int .i64) p3), (.v (.int .i64) p4), (.row 23), (.row 31), (.row 39)])), (15, (.box 25 [(.v (.int .i64) p5), (.v (.int .i64) p6), (.row 47), (.row 55), (.row 63)])), (23, (.row 3 (.int .i64) p7 false)), (31, (.row 74 (.pair (.int .i64) (.pair (.int .i64) (.int .i64))) p8 false)), (39, (.row 3 (.int .i64) p9 false)), (47, (.row 3 (.int .i64) p10 false)), (55, (.row 74 (.pair (.int .i64) (.pair (.int .i64) (.int .i64))) p11 false)), (63, (.row 3 (.int .i64) p12 false))])
noncomputable def ancepsref07_Reverse.l6 (p0 : Int) (p1 : Int) (p2 : Int) (p3 : (List Int)) (p4 : (List (Int × (Int × Int)))) (p5 : (List Int)) (p6 : Int) (p7 : Int) (p8 : Int) (p9 : Int) (p10 : (List Int)) (p11 : (List (Int × (Int × Int)))) (p12 : (List Int)) (p13 : (List Int)) (p14 : (List (Int × (Int × Int)))) (p15 : (List Int)) : Option (Int × (Int × ((List Int) × ((List (Int × (Int × Int))) × ((List Int) × (Int × Unit)))))) := Go.Proofs.R.loopAt Go.Proofs.C07.ctx (Go.Proofs.R.Einf Go.Proofs.C07.ctx) 38 6 (.mk [(1, (.one (.ref 7 0))), (2, (.one (.ref 15 0))), (5, (.one (.ref 23 0))), (6, (.one (.v (.int .i64) p0)))] [(7, (.box 25 [(.v (.int .i64) p1), (.v (.int .i64) p2), (.v (.sl (.int .i64)) p3), (.v (.sl (.pair (.int .i64) (.pair (.int .i64) (.int .i64)))) p4), (.v (.sl (.int .i64)) p5)])), (15, (.box 25 [(.v (.int .i64) p6), (.v (.int .i64) p7), (.row 31), (.row 39), (.row 47)])), (23, (.box 25 [(.v (.int .i64) p8), (.v (.int .i64) p9), (.row 55), (.row 63), (.row 71)])), (31, (.row 3 (.int .i64) p10 false)), (39, (.row 74 (.pair (.int .i64) (.pair (.int .i64) (.int .i64))) p11 false)), (47, (.row 3 (.int .i64) p12 false)), (55, (.row 3 (.int .i64) p13 false)), (63, (.row 74 (.pair (.int .i64) (.pair (.int .i64) (.int .i64))) p14 false)), (71, (.row 3 (.int .i64) p15 false))])
noncomputable def nondet_order.f (p0 : Int) (p1 : Int) (p2 : Int) (p3 : Int) (p4 : Int) (p5 : Int) : Option (Int × Unit) := (Go.Proofs.R.Einf Go.Proofs.C07.ctx).call 65 [(.agg [(.v (.int .i64) p0), (.v (.int .i64) p1), (.v (.int .i64) p2)]), (.agg [(.v (.int .i64) p3), (.v (.int .i64) p4), (.v (.int .i64) p5)])]
noncomputable def ancepsref07_bits.f (p0 : Int) (p1 : Int) : Option ((List Int) × Unit) := (Go.Proofs.R.Einf Go.Proofs.C07.ctx).call 68 [(.one (.v (.int .u8) p0)), (.one (.v (.int .i64) p1))]
noncomputable def ancepsref07_Made.l5 (p0 : Int) (p1 : Int) (p2 : Int) (p3 : Int) (p4 : Int) (p5 : (List (List Int))) (p6 : Int) (p7 : Int) (p8 : Int) (p9 : Int) (p10 : (List (Int × (Int × Int)))) (p11 : (List Int)) (p12 : (List (Int × (Int × Int)))) (p13 : (List Int)) (p14 : (List Int)) (p15 : (List (Int × (Int × Int)))) (p16 : (List Int)) : Option (Int × (Int × ((List Int) × ((List (Int × (Int × Int))) × ((List Int) × Unit))))) := Go.Proofs.R.loopAt Go.Proofs.C07.ctx (Go.Proofs.R.Einf Go.Proofs.C07.ctx) 31 5 (.mk [(1, (.one (.ref 7 0))), (2, (.one (.ref 15 0))), (3, (.one (.ref 23 0))), (4, (.one (.row 31))), (5, (.one (.v (.int .i64) p0)))] [(7, (.box 56 [(.v (.int .u8) p1), (.v (.int .u8) p2), (.v (.int .u8) p3), (.v (.int .u8) p4), (.v (.sl (.arr 3 (.int .u8))) p5)])), (15, (.box 25 [(.v (.int .i64) p6), (.v (.int .i64) p7), (.row 39), (.row 47), (.row 55)])), (23, (.box 25 [(.v (.int .i64) p8), (.v (.int .i64) p9), (.row 63), (.row 71), (.row 79)])), (31, (.row 74 (.pair (.int .i64) (.pair (.int .i64) (.int .i64))) p10 false)), (39, (.row 3 (.int .i64) p11 false)), (47, (.row 74 (.pair (.int .i64) (.pair (.int .i64) (.int .i64))) p12 false)), (55, (.row 3 (.int .i64) p13 false)), (63, (.row 3 (.int .i64) p14 false)), (71, (.row 74 (.pair (.int .i64) (.pair (.int .i64) (.int .i64))) p15 false)), (79, (.row 3 (.int .i64) p16 false))])
noncomputable def ancepsref07_ascending.l2 (p0 : (List Int)) (p1 : Int) (p2 : Int) : Option (Bool × Unit) := Go.Proofs.R.loopAt Go.Proofs.C07.ctx (Go.Proofs.R.Einf Go.Proofs.C07.ctx) 44 2 (.mk [(0, (.one (.v (.sl (.int .i64)) p0))), (1, (.one (.v (.int .i64) p1))), (5, (.one (.v (.int .i64) p2)))] [])
noncomputable def ancepsref07_ahead.f (p0 : Int) (p1 : Int) (p2 : Int) (p3 : Int) (p4 : Int) (p5 : Int) : Option (Bool × Unit) := (Go.Proofs.R.Einf Go.Proofs.C07.ctx).call 45 [(.agg [(.v (.int .i64) p0), (.v (.int .i64) p1), (.v (.int .i64) p2)]), (.agg [(.v (.int .i64) p3), (.v (.int .i64) p4), (.v (.int .i64) p5)])]
noncomputable def nondet_open.l3 (p0 : (List (Int × (Int × Int)))) (p1 : Int) (p2 : Int) (p3 : Int) (p4 : Int) (p5 : Int) (p6 : Int) (p7 : (List Int)) (p8 : (List (Int × (Int × Int)))) (p9 : (List Int)) (p10 : (List Int)) (p11 : (List (Int × (Int × Int)))) (p12 : (List Int)) (p13 : (List (List (Int × (Int × Int))))) (p14 : (List (List (Int × (Int × Int))))) : Option (Int × (Int × ((List Int) × ((List (Int × (Int × Int))) × ((List Int) × ((List (List (Int × (Int × Int)))) × Unit)))))) := Go.Proofs.R.loopAt Go.Proofs.C07.ctx (Go.Proofs.R.Einf Go.Proofs.C07.ctx) 46 3 (.mk [(2, (.one (.ref 7 0))), (3, (.one (.ref 15 0))), (12, (.one (.v (.sl (.pair (.int .i64) (.pair (.int .i64) (.int .i64)))) p0))), (13, (.one (.v (.int .i64) p1))), (14, (.one (.v (.int .i64) p2)))] [(7, (.box 78 [(.v (.int .i64) p3), (.v (.int .i64) p4), (.row 23), (.row 31), (.row 39), (.row 47)])), (15, (.box 78 [(.v (.int .i64) p5), (.v (.int .i64) p6), (.v (.sl (.int .i64)) p7), (.v (.sl (.pair (.int .i64) (.pair (.int .i64) (.int .i64)))) p8), (.v (.sl (.int .i64)) p9), (.row 55)])), (23, (.row 3 (.int .i64) p10 false)), (31, (.row 74 (.pair (.int .i64) (.pair (.int .i64) (.int .i64))) p11 false)), (39, (.row 3 (.int .i64) p12 false)), (47, (.row 23 (.sl (.pair (.int .i64) (.pair (.int .i64) (.int .i64)))) p13 false)), (55, (.rows 23 74 (.pair (.int .i64) (.pair (.int .i64) (.int .i64))) p14 .full))])
noncomputable def nondet_graph_closure.l4 (p0 : Int) (p1 : Int) (p2 : Int) (p3 : Int) (p4 : (List Int)) (p5 : (List (Int × (Int × Int)))) (p6 : (List Int)) (p7 : (List (List (Int × (Int × Int))))) (p8 : (List Bool)) (p9 : (List Int)) : Option ((List Bool) × Unit) := Go.Proofs.R.loopAt Go.Proofs.C07.ctx (Go.Proofs.R.Einf Go.Proofs.C07.ctx) 47 4 (.mk [(2, (.one (.ref 7 0))), (5, (.one (.row 15))), (6, (.one (.row 23))), (18, (.one (.row 23))), (19, (.one (.v (.int .i64) p0))), (20, (.one (.v (.int .i64) p1)))] [(7, (.box 78 [(.v (.int .i64) p2), (.v (.int .i64) p3), (.v (.sl (.int .i64)) p4), (.v (.sl (.pair (.int .i64) (.pair (.int .i64) (.int .i64)))) p5), (.v (.sl (.int .i64)) p6), (.v (.sl (.sl (.pair (.int .i64) (.pair (.int .i64) (.int .i64))))) p7)])), (15, (.row 4 .bool p8 false)), (23, (.row 3 (.int .i64) p9 false))])
noncomputable def slices_IndexFunc_int_int.f (p0 : (List Int)) (p1 : Int) (p2 : Int) (p3 : (List Int)) (p4 : (List (Int × (Int × Int)))) (p5 : (List Int)) : Option (Int × Unit) := (Go.Proofs.R.Einf Go.Proofs.C07.ctx).call 84 [(.one (.v (.sl (.int .i64)) p0)), (.one (.clo 60 [(.pref [(.v (.int .i64) p1), (.v (.int .i64) p2), (.v (.sl (.int .i64)) p3), (.v (.sl (.pair (.int .i64) (.pair (.int .i64) (.int .i64)))) p4), (.v (.sl (.int .i64)) p5)] 0)]))]
noncomputable def nondet_graph_step.f (p0 : Int) (p1 : Int) (p2 : (List Int)) (p3 : (List (Int × (Int × Int)))) (p4 : (List Int)) (p5 : (List (List (Int × (Int × Int))))) (p6 : (List Bool)) (p7 : Int) : Option ((List Bool) × Unit) := (Go.Proofs.R.Einf Go.Proofs.C07.ctx).call 50 [(.agg [(.v (.int .i64) p0), (.v (.int .i64) p1), (.v (.sl (.int .i64)) p2), (.v (.sl (.pair (.int .i64) (.pair (.int .i64) (.int .i64)))) p3), (.v (.sl (.int .i64)) p4), (.v (.sl (.sl (.pair (.int .i64) (.pair (.int .i64) (.int .i64))))) p5)]), (.one (.v (.sl .bool) p6)), (.one (.v (.int .i64) p7))]
noncomputable def nondet_graph_accepts.f (p0 : Int) (p1 : Int) (p2 : (List Int)) (p3 : (List (Int × (Int × Int)))) (p4 : (List Int)) (p5 : (List (List (Int × (Int × Int))))) (p6 : (List Bool)) : Option (Bool × Unit) := (Go.Proofs.R.Einf Go.Proofs.C07.ctx).call 52 [(.agg [(.v (.int .i64) p0), (.v (.int .i64) p1), (.v (.sl (.int .i64)) p2), (.v (.sl (.pair (.int .i64) (.pair (.int .i64) (.int .i64)))) p3), (.v (.sl (.int .i64)) p4), (.v (.sl (.sl (.pair (.int .i64) (.pair (.int .i64) (.int .i64))))) p5)]), (.one (.v (.sl .bool) p6))]
noncomputable def nondet_set_list.l3 (p0 : (List Bool)) (p1 : Int) (p2 : Int) (p3 : (List Int)) : Option ((List Int) × Unit) := Go.Proofs.R.loopAt Go.Proofs.C07.ctx (Go.Proofs.R.Einf Go.Proofs.C07.ctx) 63 3 (.mk [(3, (.one (.row 7))), (6, (.one (.v (.sl .bool) p0))), (7, (.one (.v (.int .i64) p1))), (8, (.one (.v (.int .i64) p2)))] [(7, (.row 3 (.int .i64) p3 false))])
noncomputable def nondet_ascends.l2 (p0 : (List Int)) (p1 : Int) (p2 : (List Int)) (p3 : Int) (p4 : Int) : Option (Bool × Unit) := Go.Proofs.R.loopAt Go.Proofs.C07.ctx (Go.Proofs.R.Einf Go.Proofs.C07.ctx) 64 2 (.mk [(0, (.one (.v (.sl (.int .i64)) p0))), (1, (.one (.v (.int .i64) p1))), (7, (.one (.v (.sl (.int .i64)) p2))), (8, (.one (.v (.int .i64) p3))), (9, (.one (.v (.int .i64) p4)))] [])
noncomputable def ancepsref07_sorted.f (p0 : (List (Int × (Int × Int)))) : Option ((List (Int × (Int × Int))) × Unit) := (Go.Proofs.R.Einf Go.Proofs.C07.ctx).call 69 [(.one (.v (.sl (.pair (.int .i64) (.pair (.int .i64) (.int .i64)))) p0))]
noncomputable def cmp_Compare_int.f (p0 : Int) (p1 : Int) : Option (Int × Unit) := (Go.Proofs.R.Einf Go.Proofs.C07.ctx).call 87 [(.one (.v (.int .i64) p0)), (.one (.v (.int .i64) p1))]
noncomputable def cmp_Or_int.f (p0 : (List Int)) : Option (Int × Unit) := (Go.Proofs.R.Einf Go.Proofs.C07.ctx).call 86 [(.one (.v (.sl (.int .i64)) p0))]
noncomputable def ancepsref07_bits.l3 (p0 : Int) (p1 : Int) (p2 : Int) (p3 : (List Int)) : Option ((List Int) × Unit) := Go.Proofs.R.loopAt Go.Proofs.C07.ctx (Go.Proofs.R.Einf Go.Proofs.C07.ctx) 68 3 (.mk [(0, (.one (.v (.int .u8) p0))), (1, (.one (.v (.int .i64) p1))), (5, (.one (.row 7))), (6, (.one (.v (.int .i64) p2)))] [(7, (.row 3 (.int .i64) p3 false))])
noncomputable def nondet_graph_closure.l8 (p0 : Int) (p1 : Int) (p2 : (List Int)) (p3 : (List (Int × (Int × Int)))) (p4 : (List Int)) (p5 : (List (List (Int × (Int × Int))))) (p6 : (List Bool)) (p7 : (List Int)) : Option ((List Bool) × Unit) := Go.Proofs.R.loopAt Go.Proofs.C07.ctx (Go.Proofs.R.Einf Go.Proofs.C07.ctx) 47 8 (.mk [(2, (.one (.ref 7 0))), (5, (.one (.row 15))), (6, (.one (.row 23)))] [(7, (.box 78 [(.v (.int .i64) p0), (.v (.int .i64) p1), (.v (.sl (.int .i64)) p2), (.v (.sl (.pair (.int .i64) (.pair (.int .i64) (.int .i64)))) p3), (.v (.sl (.int .i64)) p4), (.v (.sl (.sl (.pair (.int .i64) (.pair (.int .i64) (.int .i64))))) p5)])), (15, (.row 4 .bool p6 false)), (23, (.row 3 (.int .i64) p7 false))])
noncomputable def slices_IndexFunc_int_int.l2 (p0 : (List Int)) (p1 : Int) (p2 : Int) (p3 : (List Int)) (p4 : (List (Int × (Int × Int)))) (p5 : (List Int)) (p6 : Int) (p7 : Int) : Option (Int × Unit) := Go.Proofs.R.loopAt Go.Proofs.C07.ctx (Go.Proofs.R.Einf Go.Proofs.C07.ctx) 84 2 (.mk [(0, (.one (.v (.sl (.int .i64)) p0))), (1, (.one (.clo 60 [(.pref [(.v (.int .i64) p1), (.v (.int .i64) p2), (.v (.sl (.int .i64)) p3), (.v (.sl (.pair (.int .i64) (.pair (.int .i64) (.int .i64)))) p4), (.v (.sl (.int .i64)) p5)] 0)]))), (7, (.one (.v (.int .i64) p6))), (8, (.one (.v (.int .i64) p7)))] [])
noncomputable def nondet_graph_step.l3 (p0 : Int) (p1 : Int) (p2 : Int) (p3 : Int) (p4 : Int) (p5 : (List Int)) (p6 : (List (Int × (Int × Int)))) (p7 : (List Int)) (p8 : (List (List (Int × (Int × Int))))) (p9 : (List Int)) (p10 : (List Int)) : Option ((List Bool) × Unit) := Go.Proofs.R.loopAt Go.Proofs.C07.ctx (Go.Proofs.R.Einf Go.Proofs.C07.ctx) 50 3 (.mk [(2, (.one (.v (.int .i64) p0))), (3, (.one (.ref 7 0))), (7, (.one (.row 15))), (13, (.one (.row 23))), (14, (.one (.v (.int .i64) p1))), (15, (.one (.v (.int .i64) p2)))] [(7, (.box 78 [(.v (.int .i64) p3), (.v (.int .i64) p4), (.v (.sl (.int .i64)) p5), (.v (.sl (.pair (.int .i64) (.pair (.int .i64) (.int .i64)))) p6), (.v (.sl (.int .i64)) p7), (.v (.sl (.sl (.pair (.int .i64) (.pair (.int .i64) (.int .i64))))) p8)])), (15, (.row 3 (.int .i64) p9 false)), (23, (.row 3 (.int .i64) p10 false))])
noncomputable def slices_ContainsFunc_int_int.f2 (p0 : (List Int)) (p1 : (List Bool)) : Option (Bool × Unit) := (Go.Proofs.R.Einf Go.Proofs.C07.ctx).call 59 [(.one (.v (.sl (.int .i64)) p0)), (.one (.clo 82 [(.pref [(.v (.sl .bool) p1)] 0)]))]
noncomputable def ancepsref07_sorted.l3 (p0 : (List (Int × (Int × Int)))) (p1 : Int) (p2 : (List (Int × (Int × Int)))) : Option ((List (Int × (Int × Int))) × Unit) := Go.Proofs.R.loopAt Go.Proofs.C07.ctx (Go.Proofs.R.Einf Go.Proofs.C07.ctx) 69 3 (.mk [(0, (.one (.v (.sl (.pair (.int .i64) (.pair (.int .i64) (.int .i64)))) p0))), (3, (.one (.row 7))), (4, (.one (.v (.int .i64) p1)))] [(7, (.row 74 (.pair (.int .i64) (.pair (.int .i64) (.int .i64))) p2 false))])
noncomputable def cmp_isNaN_int.f (p0 : Int) : Option (Bool × Unit) := (Go.Proofs.R.Einf Go.Proofs.C07.ctx).call 94 [(.one (.v (.int .i64) p0))]
noncomputable def cmp_Or_int.l3 (p0 : Int) (p1 : (List Int)) (p2 : Int) (p3 : Int) : Option (Int × Unit) := Go.Proofs.R.loopAt Go.Proofs.C07.ctx (Go.Proofs.R.Einf Go.Proofs.C07.ctx) 86 3 (.mk [(3, (.one (.v (.int .i64) p0))), (6, (.one (.v (.sl (.int .i64)) p1))), (7, (.one (.v (.int .i64) p2))), (8, (.one (.v (.int .i64) p3)))] [])
noncomputable def nondet_graph_closure.l12 (p0 : (List (Int × (Int × Int)))) (p1 : Int) (p2 : Int) (p3 : Int) (p4 : Int) (p5 : (List Int)) (p6 : (List (Int × (Int × Int)))) (p7 : (List Int)) (p8 : (List (List (Int × (Int × Int))))) (p9 : (List Bool)) (p10 : (List Int)) : Option ((List Bool) × Unit) := Go.Proofs.R.loopAt Go.Proofs.C07.ctx (Go.Proofs.R.Einf Go.Proofs.C07.ctx) 47 12 (.mk [(2, (.one (.ref 7 0))), (5, (.one (.row 15))), (6, (.one (.row 23))), (46, (.one (.v (.sl (.pair (.int .i64) (.pair (.int .i64) (.int .i64)))) p0))), (47, (.one (.v (.int .i64) p1))), (48, (.one (.v (.int .i64) p2)))] [(7, (.box 78 [(.v (.int .i64) p3), (.v (.int .i64) p4), (.v (.sl (.int .i64)) p5), (.v (.sl (.pair (.int .i64) (.pair (.int .i64) (.int .i64)))) p6), (.v (.sl (.int .i64)) p7), (.v (.sl (.sl (.pair (.int .i64) (.pair (.int .i64) (.int .i64))))) p8)])), (15, (.row 4 .bool p9 false)), (23, (.row 3 (.int .i64) p10 false))])
noncomputable def nondet_Accepts_1.f (p0 : Int) (p1 : Int) (p2 : Int) (p3 : (List Int)) (p4 : (List (Int × (Int × Int)))) (p5 : (List Int)) : Option (Bool × Unit) := (Go.Proofs.R.Einf Go.Proofs.C07.ctx).call 60 [(.one (.v (.int .i64) p0)), (.one (.pref [(.v (.int .i64) p1), (.v (.int .i64) p2), (.v (.sl (.int .i64)) p3), (.v (.sl (.pair (.int .i64) (.pair (.int .i64) (.int .i64)))) p4), (.v (.sl (.int .i64)) p5)] 0))]
noncomputable def nondet_graph_step.l6 (p0 : Int) (p1 : Int) (p2 : Int) (p3 : (List (Int × (Int × Int)))) (p4 : Int) (p5 : Int) (p6 : Int) (p7 : Int) (p8 : (List Int)) (p9 : (List (Int × (Int × Int)))) (p10 : (List Int)) (p11 : (List (List (Int × (Int × Int))))) (p12 : (List Int)) (p13 : (List Int)) : Option ((List Bool) × Unit) := Go.Proofs.R.loopAt Go.Proofs.C07.ctx (Go.Proofs.R.Einf Go.Proofs.C07.ctx) 50 6 (.mk [(2, (.one (.v (.int .i64) p0))), (3, (.one (.ref 7 0))), (7, (.one (.row 15))), (13, (.one (.row 23))), (14, (.one (.v (.int .i64) p1))), (15, (.one (.v (.int .i64) p2))), (23, (.one (.v (.sl (.pair (.int .i64) (.pair (.int .i64) (.int .i64)))) p3))), (24, (.one (.v (.int .i64) p4))), (25, (.one (.v (.int .i64) p5)))] [(7, (.box 78 [(.v (.int .i64) p6), (.v (.int .i64) p7), (.v (.sl (.int .i64)) p8), (.v (.sl (.pair (.int .i64) (.pair (.int .i64) (.int .i64)))) p9), (.v (.sl (.int .i64)) p10), (.v (.sl (.sl (.pair (.int .i64) (.pair (.int .i64) (.int .i64))))) p11)])), (15, (.row 3 (.int .i64) p12 false)), (23, (.row 3 (.int .i64) p13 false))])
noncomputable def slices_IndexFunc_int_int.f2 (p0 : (List Int)) (p1 : (List Bool)) : Option (Int × Unit) := (Go.Proofs.R.Einf Go.Proofs.C07.ctx).call 84 [(.one (.v (.sl (.int .i64)) p0)), (.one (.clo 82 [(.pref [(.v (.sl .bool) p1)] 0)]))]
noncomputable def ancepsref07_sorted.l6 (p0 : (List (Int × (Int × Int)))) (p1 : Int) (p2 : Int) (p3 : (List (Int × (Int × Int)))) : Option ((List (Int × (Int × Int))) × Unit) := Go.Proofs.R.loopAt Go.Proofs.C07.ctx (Go.Proofs.R.Einf Go.Proofs.C07.ctx) 69 6 (.mk [(0, (.one (.v (.sl (.pair (.int .i64) (.pair (.int .i64) (.int .i64)))) p0))), (3, (.one (.row 7))), (4, (.one (.v (.int .i64) p1))), (5, (.one (.v (.int .i64) p2)))] [(7, (.row 74 (.pair (.int .i64) (.pair (.int .i64) (.int .i64))) p3 false))])
noncomputable def slices_IndexFunc_int_int.l2_2 (p0 : (List Int)) (p1 : (List Bool)) (p2 : Int) (p3 : Int) : Option (Int × Unit) := Go.Proofs.R.loopAt Go.Proofs.C07.ctx (Go.Proofs.R.Einf Go.Proofs.C07.ctx) 84 2 (.mk [(0, (.one (.v (.sl (.int .i64)) p0))), (1, (.one (.clo 82 [(.pref [(.v (.sl .bool) p1)] 0)]))), (7, (.one (.v (.int .i64) p2))), (8, (.one (.v (.int .i64) p3)))] [])
noncomputable def ancepsref07_sorted.l11 (p0 : (List (Int × (Int × Int)))) (p1 : Int) (p2 : Int) (p3 : Int) (p4 : (List (Int × (Int × Int)))) : Option ((List (Int × (Int × Int))) × Unit) := Go.Proofs.R.loopAt Go.Proofs.C07.ctx (Go.Proofs.R.Einf Go.Proofs.C07.ctx) 69 11 (.mk [(0, (.one (.v (.sl (.pair (.int .i64) (.pair (.int .i64) (.int .i64)))) p0))), (3, (.one (.row 7))), (4, (.one (.v (.int .i64) p1))), (5, (.one (.v (.int .i64) p2))), (6, (.one (.v (.int .i64) p3)))] [(7, (.row 74 (.pair (.int .i64) (.pair (.int .i64) (.int .i64))) p4 false))])
noncomputable def nondet_graph_accepts_1.f (p0 : Int) (p1 : (List Bool)) : Option (Bool × Unit) := (Go.Proofs.R.Einf Go.Proofs.C07.ctx).call 82 [(.one (.v (.int .i64) p0)), (.one (.pref [(.v (.sl .bool) p1)] 0))]
theorem ancepslaw07_NondetReversed.f_eq (p0 : Int) (p1 : Int) (p2 : Int) (p3 : Int) (p4 : (List (List Int))) (p5 : (List Int)) : ancepslaw07_NondetReversed.f p0 p1 p2 p3 p4 p5 =
  bindD (ancepslaw07_awake.f) fun t148 =>
  ifB (!t148.1)
   (bindD (ancepslaw07_awake.f) fun t149 =>
   some (t149.1, ()))
  (ifB (decide ((((List.length p5) : Nat) : Int) > (20 : Int)))
    (bindD (ancepslaw07_awake.f) fun t150 =>
    some (t150.1, ()))
   (bindD (ancepsref07_Made.f p0 p1 p2 p3 p4) fun t151 =>
    bindD (nondet_Reverse.f t151.1 t151.2.1 t151.2.2.1 t151.2.2.2.1 t151.2.2.2.2.1) fun t152 =>
    bindD (ancepsref07_Word.f t151.1 t151.2.1 t151.2.2.1 t151.2.2.2.1 t151.2.2.2.2.1 p5) fun t153 =>
    bindD (nondet_Accepts.f t151.1 t151.2.1 t151.2.2.1 t151.2.2.2.1 t151.2.2.2.2.1 t153.1) fun t154 =>
    bindD ((Go.Proofs.R.grow (List.length t153.1))) fun t155 =>
    bindD (nondet_Accepts.f t152.1 t152.2.1 t152.2.2.1 t152.2.2.2.1 t152.2.2.2.2.1 (Go.Proofs.R.revL t153.1)) fun t156 =>
    ifB (t152.2.2.2.2.2.1 == (0 : Int))
     (ifB (t154.2.1 == (0 : Int))
      (ifB (t156.2.1 == (0 : Int))
       (some ((t154.1 == t156.1), ()))
      (some (false, ())))
     (some (false, ())))
    (some (false, ())))) := (Einf_call Go.Proofs.C07.ctx 6 _).trans (by kernel_rfl)
theorem ancepsref07_Valid.f_eq (p0 : Int) (p1 : Int) (p2 : (List Int)) (p3 : (List (Int × (Int × Int)))) (p4 : (List Int)) : ancepsref07_Valid.f p0 p1 p2 p3 p4 =
  ifB (decide (p0 < (1 : Int)))
   (some ((1 : Int), ()))
  (ifB (decide (p0 > (8 : Int)))
    (some ((1 : Int), ()))
   (ifB (decide (p1 < (0 : Int)))
     (some ((1 : Int), ()))
    (ifB (decide (p1 > (400 : Int)))
      (some ((1 : Int), ()))
     (ifB (decide ((((List.length p3) : Nat) : Int) > (4000 : Int)))
       (some ((1 : Int), ()))
      (bindD (ancepsref07_ascending.f p2 p1) fun t181 =>
       ifB (!t181.1)
        (some ((1 : Int), ()))
       (bindD (ancepsref07_ascending.f p4 p1) fun t182 =>
        ifB (!t182.1)
         (some ((1 : Int), ()))
        (ancepsref07_Valid.l6 (0 : Int) p0 p1 p2 p3 p4))))))) := (Einf_call Go.Proofs.C07.ctx 13 _).trans (by kernel_rfl)
theorem ancepsref07_Word.f_eq (p0 : Int) (p1 : Int) (p2 : (List Int)) (p3 : (List (Int × (Int × Int)))) (p4 : (List Int)) (p5 : (List Int)) : ancepsref07_Word.f p0 p1 p2 p3 p4 p5 =
  ancepsref07_Word.l3 p5 (0 : Int) p0 p1 p2 p3 p4 ([] : (List Int)) := (Einf_call Go.Proofs.C07.ctx 18 _).trans (by kernel_rfl)
theorem nondet_Accepts.f_eq (p0 : Int) (p1 : Int) (p2 : (List Int)) (p3 : (List (Int × (Int × Int)))) (p4 : (List Int)) (p5 : (List Int)) : nondet_Accepts.f p0 p1 p2 p3 p4 p5 =
  bindD (nondet_Valid.f p0 p1 p2 p3 p4) fun t194 =>
  ifB (t194.1 != (0 : Int))
   (some (false, (t194.1, ())))
  (bindD (slices_ContainsFunc_int_int.f p5 p0 p1 p2 p3 p4) fun t195 =>
   ifB t195.1
    (some (false, ((6 : Int), ())))
   (bindD (nondet_open.f p0 p1 p2 p3 p4) fun t196 =>
    bindD (nondet_graph_closure.f t196.1 t196.2.1 t196.2.2.1 t196.2.2.2.1 t196.2.2.2.2.1 t196.2.2.2.2.2.1 p2) fun t197 =>
    nondet_Accepts.l9 p5 (((List.length p5) : Nat) : Int) (0 : Int) t196.1 t196.2.1 t196.2.2.1 t196.2.2.2.1 t196.2.2.2.2.1 t196.2.2.2.2.2.1 t197.1)) := (Einf_call Go.Proofs.C07.ctx 19 _).trans (by kernel_rfl)
theorem slices_Clone_int_int.f_eq (p0 : (List Int)) : slices_Clone_int_int.f p0 =
  bindD ((Go.Proofs.R.grow (List.length p0))) fun t200 =>
  some (p0, ()) := (Einf_call Go.Proofs.C07.ctx 22 _).trans (by kernel_rfl)
theorem nondet_Valid.f_eq (p0 : Int) (p1 : Int) (p2 : (List Int)) (p3 : (List (Int × (Int × Int)))) (p4 : (List Int)) : nondet_Valid.f p0 p1 p2 p3 p4 =
  ifB (decide (p0 < (1 : Int)))
   (some ((1 : Int), ()))
  (ifB (decide (p0 > (8 : Int)))
    (some ((1 : Int), ()))
   (ifB (decide (p1 < (0 : Int)))
     (some ((1 : Int), ()))
    (ifB (decide (p1 > (400 : Int)))
      (some ((1 : Int), ()))
     (ifB (decide ((((List.length p3) : Nat) : Int) > (4000 : Int)))
       (some ((1 : Int), ()))
      (bindD (nondet_ascends.f p2 p1) fun t208 =>
       ifB (!t208.1)
        (some ((1 : Int), ()))
       (bindD (nondet_ascends.f p4 p1) fun t209 =>
        ifB (!t209.1)
         (some ((1 : Int), ()))
        (nondet_Valid.l6 p3 (((List.length p3) : Nat) : Int) (0 : Int) p0 p1 p2 p3 p4))))))) := (Einf_call Go.Proofs.C07.ctx 25 _).trans (by kernel_rfl)
theorem nondet_Reverse.f_eq (p0 : Int) (p1 : Int) (p2 : (List Int)) (p3 : (List (Int × (Int × Int)))) (p4 : (List Int)) : nondet_Reverse.f p0 p1 p2 p3 p4 =
  bindD (nondet_Valid.f p0 p1 p2 p3 p4) fun t213 =>
  ifB (t213.1 != (0 : Int))
   (some ((0 : Int), ((0 : Int), (([] : (List Int)), (([] : (List (Int × (Int × Int)))), (([] : (List Int)), (t213.1, ())))))))
  (bindD (slices_Clone_int_int.f p4) fun t214 =>
   bindD (slices_Clone_int_int.f p2) fun t215 =>
   nondet_Reverse.l6 p3 (((List.length p3) : Nat) : Int) (0 : Int) (0 : Int) (0 : Int) p0 p1 ([] : (List Int)) ([] : (List (Int × (Int × Int)))) ([] : (List Int)) t214.1 ([] : (List (Int × (Int × Int)))) t215.1) := (Einf_call Go.Proofs.C07.ctx 32 _).trans (by kernel_rfl)
theorem ancepsref07_Reverse.f_eq (p0 : Int) (p1 : Int) (p2 : (List Int)) (p3 : (List (Int × (Int × Int)))) (p4 : (List Int)) : ancepsref07_Reverse.f p0 p1 p2 p3 p4 =
  bindD (ancepsref07_Valid.f p0 p1 p2 p3 p4) fun t216 =>
  ifB (t216.1 != (0 : Int))
   (some ((0 : Int), ((0 : Int), (([] : (List Int)), (([] : (List (Int × (Int × Int)))), (([] : (List Int)), (t216.1, ())))))))
  (bindD ((Go.Proofs.R.grow ((List.length ([] : (List Int))) + (List.length p4)))) fun t217 =>
   bindD ((Go.Proofs.R.grow ((List.length ([] : (List Int))) + (List.length p2)))) fun t218 =>
   ancepsref07_Reverse.l6 (0 : Int) p0 p1 p2 p3 p4 (0 : Int) (0 : Int) p0 p1 ([] : (List Int)) ([] : (List (Int × (Int × Int)))) ([] : (List Int)) (([] : (List Int)) ++ p4) ([] : (List (Int × (Int × Int)))) (([] : (List Int)) ++ p2)) := (Einf_call Go.Proofs.C07.ctx 38 _).trans (by kernel_rfl)
theorem ancepsref07_Made.f_eq (p0 : Int) (p1 : Int) (p2 : Int) (p3 : Int) (p4 : (List (List Int))) : ancepsref07_Made.f p0 p1 p2 p3 p4 =
  bindD (ancepsref07_bits.f p2 (Go.IntKind.wrap Go.IntKind.i64 ((1 : Int) + (Go.IntKind.wrap Go.IntKind.i64 (Int.tmod p1 (6 : Int)))))) fun t251 =>
  bindD (ancepsref07_bits.f p3 (Go.IntKind.wrap Go.IntKind.i64 ((1 : Int) + (Go.IntKind.wrap Go.IntKind.i64 (Int.tmod p1 (6 : Int)))))) fun t252 =>
  ancepsref07_Made.l5 (0 : Int) p0 p1 p2 p3 p4 (0 : Int) (0 : Int) (Go.IntKind.wrap Go.IntKind.i64 ((1 : Int) + (Go.IntKind.wrap Go.IntKind.i64 (Int.tmod p0 (4 : Int))))) (Go.IntKind.wrap Go.IntKind.i64 ((1 : Int) + (Go.IntKind.wrap Go.IntKind.i64 (Int.tmod p1 (6 : Int))))) ([] : (List (Int × (Int × Int)))) ([] : (List Int)) ([] : (List (Int × (Int × Int)))) ([] : (List Int)) t251.1 ([] : (List (Int × (Int × Int)))) t252.1 := (Einf_call Go.Proofs.C07.ctx 31 _).trans (by kernel_rfl)
theorem ancepsref07_ascending.f_eq (p0 : (List Int)) (p1 : Int) : ancepsref07_ascending.f p0 p1 =
  ancepsref07_ascending.l2 p0 p1 (0 : Int) := (Einf_call Go.Proofs.C07.ctx 44 _).trans (by kernel_rfl)
theorem ancepsref07_Valid.l6_eq (p0 : Int) (p1 : Int) (p2 : Int) (p3 : (List Int)) (p4 : (List (Int × (Int × Int)))) (p5 : (List Int)) : ancepsref07_Valid.l6 p0 p1 p2 p3 p4 p5 =
  ifB (decide (p0 < (((List.length p4) : Nat) : Int)))
   (bindD ((ixAt p4 p0)) fun t275 =>
   ifB (decide (t275.1 < (0 : Int)))
    (some ((1 : Int), ()))
   (ifB (decide (t275.1 ≥ p2))
     (some ((1 : Int), ()))
    (ifB (decide (t275.2.2 < (0 : Int)))
      (some ((1 : Int), ()))
     (ifB (decide (t275.2.2 ≥ p2))
       (some ((1 : Int), ()))
      (ifB (decide (t275.2.1 < (-(1 : Int))))
        (some ((1 : Int), ()))
       (ifB (decide (t275.2.1 ≥ p1))
         (some ((1 : Int), ()))
        (ifB (decide (p0 > (0 : Int)))
          (bindD ((ixAt p4 (Go.IntKind.wrap Go.IntKind.i64 (p0 - (1 : Int))))) fun t276 =>
          bindD (ancepsref07_ahead.f t276.1 t276.2.1 t276.2.2 t275.1 t275.2.1 t275.2.2) fun t277 =>
          ifB (!t277.1)
           (some ((1 : Int), ()))
          (ancepsref07_Valid.l6 (Go.IntKind.wrap Go.IntKind.i64 (p0 + (1 : Int))) p1 p2 p3 p4 p5))
         (ancepsref07_Valid.l6 (Go.IntKind.wrap Go.IntKind.i64 (p0 + (1 : Int))) p1 p2 p3 p4 p5))))))))
  (some ((0 : Int), ())) := (loopAt_step Go.Proofs.C07.ctx 13 6 _).trans (by kernel_rfl)
theorem nondet_open.f_eq (p0 : Int) (p1 : Int) (p2 : (List Int)) (p3 : (List (Int × (Int × Int)))) (p4 : (List Int)) : nondet_open.f p0 p1 p2 p3 p4 =
  bindD ((Go.Proofs.R.mkLen p1 p1)) fun t279 =>
  nondet_open.l3 p3 (((List.length p3) : Nat) : Int) (0 : Int) (0 : Int) (0 : Int) p0 p1 p2 p3 p4 ([] : (List Int)) ([] : (List (Int × (Int × Int)))) ([] : (List Int)) ([] : (List (List (Int × (Int × Int))))) (List.replicate t279 ([] : (List (Int × (Int × Int))))) := (Einf_call Go.Proofs.C07.ctx 46 _).trans (by kernel_rfl)
theorem nondet_graph_closure.f_eq (p0 : Int) (p1 : Int) (p2 : (List Int)) (p3 : (List (Int × (Int × Int)))) (p4 : (List Int)) (p5 : (List (List (Int × (Int × Int))))) (p6 : (List Int)) : nondet_graph_closure.f p0 p1 p2 p3 p4 p5 p6 =
  bindD ((Go.Proofs.R.mkLen p1 p1)) fun t280 =>
  bindD (slices_Clone_int_int.f p6) fun t281 =>
  nondet_graph_closure.l4 (((List.length t281.1) : Nat) : Int) (0 : Int) p0 p1 p2 p3 p4 p5 (List.replicate t280 false) t281.1 := (Einf_call Go.Proofs.C07.ctx 47 _).trans (by kernel_rfl)
theorem ancepsref07_Word.l3_eq (p0 : (List Int)) (p1 : Int) (p2 : Int) (p3 : Int) (p4 : (List Int)) (p5 : (List (Int × (Int × Int)))) (p6 : (List Int)) (p7 : (List Int)) : ancepsref07_Word.l3 p0 p1 p2 p3 p4 p5 p6 p7 =
  ifB (decide (p1 < (((List.length p0) : Nat) : Int)))
   (bindD ((ixAt p0 p1)) fun t291 =>
   ifB (p2 == (0 : Int))
    (none)
   (bindD ((Go.Proofs.R.grow ((List.length p7) + (List.length ((Int.tmod (Go.IntKind.wrap Go.IntKind.i64 t291) p2) :: ([] : (List Int))))))) fun t292 =>
    ancepsref07_Word.l3 p0 (Go.IntKind.wrap Go.IntKind.i64 (p1 + (1 : Int))) p2 p3 p4 p5 p6 (p7 ++ ((Int.tmod (Go.IntKind.wrap Go.IntKind.i64 t291) p2) :: ([] : (List Int))))))
  (some (p7, ())) := (loopAt_step Go.Proofs.C07.ctx 18 3 _).trans (by kernel_rfl)
theorem slices_ContainsFunc_int_int.f_eq (p0 : (List Int)) (p1 : Int) (p2 : Int) (p3 : (List Int)) (p4 : (List (Int × (Int × Int)))) (p5 : (List Int)) : slices_ContainsFunc_int_int.f p0 p1 p2 p3 p4 p5 =
  bindD (slices_IndexFunc_int_int.f p0 p1 p2 p3 p4 p5) fun t293 =>
  some ((decide (t293.1 ≥ (0 : Int))), ()) := (Einf_call Go.Proofs.C07.ctx 59 _).trans (by kernel_rfl)
theorem nondet_Accepts.l9_eq (p0 : (List Int)) (p1 : Int) (p2 : Int) (p3 : Int) (p4 : Int) (p5 : (List Int)) (p6 : (List (Int × (Int × Int)))) (p7 : (List Int)) (p8 : (List (List (Int × (Int × Int))))) (p9 : (List Bool)) : nondet_Accepts.l9 p0 p1 p2 p3 p4 p5 p6 p7 p8 p9 =
  ifB (decide (p2 < p1))
   (bindD ((ixAt p0 p2)) fun t294 =>
   bindD (nondet_graph_step.f p3 p4 p5 p6 p7 p8 p9 t294) fun t295 =>
   nondet_Accepts.l9 p0 p1 (Go.IntKind.wrap Go.IntKind.i64 (p2 + (1 : Int))) p3 p4 p5 p6 p7 p8 t295.1)
  (bindD (nondet_graph_accepts.f p3 p4 p5 p6 p7 p8 p9) fun t296 =>
   some (t296.1, ((0 : Int), ()))) := (loopAt_step Go.Proofs.C07.ctx 19 9 _).trans (by kernel_rfl)
theorem nondet_set_list.f_eq (p0 : (List Bool)) : nondet_set_list.f p0 =
  nondet_set_list.l3 p0 (((List.length p0) : Nat) : Int) (0 : Int) ([] : (List Int)) := (Einf_call Go.Proofs.C07.ctx 63 _).trans (by kernel_rfl)
theorem nondet_ascends.f_eq (p0 : (List Int)) (p1 : Int) : nondet_ascends.f p0 p1 =
  nondet_ascends.l2 p0 p1 p0 (((List.length p0) : Nat) : Int) (0 : Int) := (Einf_call Go.Proofs.C07.ctx 64 _).trans (by kernel_rfl)
theorem nondet_Valid.l6_eq (p0 : (List (Int × (Int × Int)))) (p1 : Int) (p2 : Int) (p3 : Int) (p4 : Int) (p5 : (List Int)) (p6 : (List (Int × (Int × Int)))) (p7 : (List Int)) : nondet_Valid.l6 p0 p1 p2 p3 p4 p5 p6 p7 =
  ifB (decide (p2 < p1))
   (bindD ((ixAt p0 p2)) fun t306 =>
   ifB (decide ((if (t306.2.2 < t306.1) then t306.2.2 else t306.1) < (0 : Int)))
    (some ((1 : Int), ()))
   (ifB (decide ((if (t306.1 < t306.2.2) then t306.2.2 else t306.1) ≥ p4))
     (some ((1 : Int), ()))
    (ifB (decide (t306.2.1 < (-(1 : Int))))
      (some ((1 : Int), ()))
     (ifB (decide (t306.2.1 ≥ p3))
       (some ((1 : Int), ()))
      (ifB (decide (p2 > (0 : Int)))
        (bindD ((ixAt p6 (Go.IntKind.wrap Go.IntKind.i64 (p2 - (1 : Int))))) fun t307 =>
        bindD (nondet_order.f t307.1 t307.2.1 t307.2.2 t306.1 t306.2.1 t306.2.2) fun t308 =>
        ifB (decide (t308.1 ≥ (0 : Int)))
         (some ((1 : Int), ()))
        (nondet_Valid.l6 p0 p1 (Go.IntKind.wrap Go.IntKind.i64 (p2 + (1 : Int))) p3 p4 p5 p6 p7))
       (nondet_Valid.l6 p0 p1 (Go.IntKind.wrap Go.IntKind.i64 (p2 + (1 : Int))) p3 p4 p5 p6 p7))))))
  (some ((0 : Int), ())) := (loopAt_step Go.Proofs.C07.ctx 25 6 _).trans (by kernel_rfl)
theorem nondet_Reverse.l6_eq (p0 : (List (Int × (Int × Int)))) (p1 : Int) (p2 : Int) (p3 : Int) (p4 : Int) (p5 : Int) (p6 : Int) (p7 : (List Int)) (p8 : (List (Int × (Int × Int)))) (p9 : (List Int)) (p10 : (List Int)) (p11 : (List (Int × (Int × Int)))) (p12 : (List Int)) : nondet_Reverse.l6 p0 p1 p2 p3 p4 p5 p6 p7 p8 p9 p10 p11 p12 =
  ifB (decide (p2 < p1))
   (bindD ((ixAt p0 p2)) fun t319 =>
   bindD ((Go.Proofs.R.grow ((List.length p11) + (List.length ((t319.2.2, (t319.2.1, t319.1)) :: ([] : (List (Int × (Int × Int))))))))) fun t320 =>
   nondet_Reverse.l6 p0 p1 (Go.IntKind.wrap Go.IntKind.i64 (p2 + (1 : Int))) p3 p4 p5 p6 p7 p8 p9 p10 (p11 ++ ((t319.2.2, (t319.2.1, t319.1)) :: ([] : (List (Int × (Int × Int)))))) p12)
  (bindD ((Go.Proofs.R.grow (List.length p11))) fun t321 =>
   bindD (sortB false (fun t322 t323 => bindD (nondet_order.f t322.1 t322.2.1 t322.2.2 t323.1 t323.2.1 t323.2.2) fun t324 =>
    some t324.1) p11) fun t325 =>
   some (p5, (p6, (p10, (t325, (p12, ((0 : Int), ()))))))) := (loopAt_step Go.Proofs.C07.ctx 32 6 _).trans (by kernel_rfl)
theorem ancepsref07_Reverse.l6_eq (p0 : Int) (p1 : Int) (p2 : Int) (p3 : (List Int)) (p4 : (List (Int × (Int × Int)))) (p5 : (List Int)) (p6 : Int) (p7 : Int) (p8 : Int) (p9 : Int) (p10 : (List Int)) (p11 : (List (Int × (Int × Int)))) (p12 : (List Int)) (p13 : (List Int)) (p14 : (List (Int × (Int × Int)))) (p15 : (List Int)) : ancepsref07_Reverse.l6 p0 p1 p2 p3 p4 p5 p6 p7 p8 p9 p10 p11 p12 p13 p14 p15 =
  ifB (decide (p0 < (((List.length p4) : Nat) : Int)))
   (bindD ((ixAt p4 p0)) fun t326 =>
   bindD ((Go.Proofs.R.grow ((List.length p14) + (List.length ((t326.2.2, (t326.2.1, t326.1)) :: ([] : (List (Int × (Int × Int))))))))) fun t327 =>
   ancepsref07_Reverse.l6 (Go.IntKind.wrap Go.IntKind.i64 (p0 + (1 : Int))) p1 p2 p3 p4 p5 p6 p7 p8 p9 p10 p11 p12 p13 (p14 ++ ((t326.2.2, (t326.2.1, t326.1)) :: ([] : (List (Int × (Int × Int)))))) p15)
  (bindD (ancepsref07_sorted.f p14) fun t328 =>
   some (p8, (p9, (p13, (t328.1, (p15, ((0 : Int), ()))))))) := (loopAt_step Go.Proofs.C07.ctx 38 6 _).trans (by kernel_rfl)
theorem nondet_order.f_eq (p0 : Int) (p1 : Int) (p2 : Int) (p3 : Int) (p4 : Int) (p5 : Int) : nondet_order.f p0 p1 p2 p3 p4 p5 =
  bindD (cmp_Compare_int.f p0 p3) fun t332 =>
  bindD (cmp_Compare_int.f p1 p4) fun t333 =>
  bindD (cmp_Compare_int.f p2 p5) fun t334 =>
  bindD (cmp_Or_int.f (t332.1 :: (t333.1 :: (t334.1 :: ([] : (List Int)))))) fun t335 =>
  some (t335.1, ()) := (Einf_call Go.Proofs.C07.ctx 65 _).trans (by kernel_rfl)
theorem ancepsref07_bits.f_eq (p0 : Int) (p1 : Int) : ancepsref07_bits.f p0 p1 =
  ancepsref07_bits.l3 p0 p1 (0 : Int) ([] : (List Int)) := (Einf_call Go.Proofs.C07.ctx 68 _).trans (by kernel_rfl)
theorem ancepsref07_Made.l5_eq (p0 : Int) (p1 : Int) (p2 : Int) (p3 : Int) (p4 : Int) (p5 : (List (List Int))) (p6 : Int) (p7 : Int) (p8 : Int) (p9 : Int) (p10 : (List (Int × (Int × Int)))) (p11 : (List Int)) (p12 : (List (Int × (Int × Int)))) (p13 : (List Int)) (p14 : (List Int)) (p15 : (List (Int × (Int × Int)))) (p16 : (List Int)) : ancepsref07_Made.l5 p0 p1 p2 p3 p4 p5 p6 p7 p8 p9 p10 p11 p12 p13 p14 p15 p16 =
  ifB (decide (p0 < (((List.length p5) : Nat) : Int)))
   (ifB (decide (p0 < (40 : Int)))
    (bindD ((ixAt p5 p0)) fun t352 =>
    bindD ((ixAt t352 (0 : Int))) fun t353 =>
    bindD ((ixAt t352 (0 : Int))) fun t354 =>
    ifB (p9 == (0 : Int))
     (none)
    (bindD ((ixAt t352 (1 : Int))) fun t355 =>
     bindD ((ixAt t352 (1 : Int))) fun t356 =>
     ifB ((Go.IntKind.wrap Go.IntKind.i64 (p8 + (1 : Int))) == (0 : Int))
      (none)
     (bindD ((ixAt t352 (2 : Int))) fun t357 =>
      bindD ((ixAt t352 (2 : Int))) fun t358 =>
      ifB (p9 == (0 : Int))
       (none)
      (bindD ((Go.Proofs.R.grow ((List.length p10) + (List.length (((Int.tmod (Go.IntKind.wrap Go.IntKind.i64 t354) p9), ((Go.IntKind.wrap Go.IntKind.i64 ((Int.tmod (Go.IntKind.wrap Go.IntKind.i64 t356) (Go.IntKind.wrap Go.IntKind.i64 (p8 + (1 : Int)))) - (1 : Int))), (Int.tmod (Go.IntKind.wrap Go.IntKind.i64 t358) p9))) :: ([] : (List (Int × (Int × Int))))))))) fun t359 =>
       ancepsref07_Made.l5 (Go.IntKind.wrap Go.IntKind.i64 (p0 + (1 : Int))) p1 p2 p3 p4 p5 p6 p7 p8 p9 (p10 ++ (((Int.tmod (Go.IntKind.wrap Go.IntKind.i64 t354) p9), ((Go.IntKind.wrap Go.IntKind.i64 ((Int.tmod (Go.IntKind.wrap Go.IntKind.i64 t356) (Go.IntKind.wrap Go.IntKind.i64 (p8 + (1 : Int)))) - (1 : Int))), (Int.tmod (Go.IntKind.wrap Go.IntKind.i64 t358) p9))) :: ([] : (List (Int × (Int × Int)))))) p11 p12 p13 p14 p15 p16))))
   (bindD (ancepsref07_sorted.f p10) fun t360 =>
    some (p8, (p9, (p14, (t360.1, (p16, ())))))))
  (bindD (ancepsref07_sorted.f p10) fun t361 =>
   some (p8, (p9, (p14, (t361.1, (p16, ())))))) := (loopAt_step Go.Proofs.C07.ctx 31 5 _).trans (by kernel_rfl)
theorem ancepsref07_ascending.l2_eq (p0 : (List Int)) (p1 : Int) (p2 : Int) : ancepsref07_ascending.l2 p0 p1 p2 =
  ifB (decide (p2 < (((List.length p0) : Nat) : Int)))
   (bindD ((ixAt p0 p2)) fun t383 =>
   ifB (decide (t383 < (0 : Int)))
    (some (false, ()))
   (bindD ((ixAt p0 p2)) fun t384 =>
    ifB (decide (t384 ≥ p1))
     (some (false, ()))
    (ifB (decide (p2 > (0 : Int)))
      (bindD ((ixAt p0 p2)) fun t385 =>
      bindD ((ixAt p0 (Go.IntKind.wrap Go.IntKind.i64 (p2 - (1 : Int))))) fun t386 =>
      ifB (decide (t385 ≤ t386))
       (some (false, ()))
      (ancepsref07_ascending.l2 p0 p1 (Go.IntKind.wrap Go.IntKind.i64 (p2 + (1 : Int)))))
     (ancepsref07_ascending.l2 p0 p1 (Go.IntKind.wrap Go.IntKind.i64 (p2 + (1 : Int)))))))
  (some (true, ())) := (loopAt_step Go.Proofs.C07.ctx 44 2 _).trans (by kernel_rfl)
theorem ancepsref07_ahead.f_eq (p0 : Int) (p1 : Int) (p2 : Int) (p3 : Int) (p4 : Int) (p5 : Int) : ancepsref07_ahead.f p0 p1 p2 p3 p4 p5 =
  ifB (p0 != p3)
   (some ((decide (p0 < p3)), ()))
  (ifB (p1 != p4)
    (some ((decide (p1 < p4)), ()))
   (some ((decide (p2 < p5)), ()))) := (Einf_call Go.Proofs.C07.ctx 45 _).trans (by kernel_rfl)
theorem nondet_open.l3_eq (p0 : (List (Int × (Int × Int)))) (p1 : Int) (p2 : Int) (p3 : Int) (p4 : Int) (p5 : Int) (p6 : Int) (p7 : (List Int)) (p8 : (List (Int × (Int × Int)))) (p9 : (List Int)) (p10 : (List Int)) (p11 : (List (Int × (Int × Int)))) (p12 : (List Int)) (p13 : (List (List (Int × (Int × Int))))) (p14 : (List (List (Int × (Int × Int))))) : nondet_open.l3 p0 p1 p2 p3 p4 p5 p6 p7 p8 p9 p10 p11 p12 p13 p14 =
  ifB (decide (p2 < p1))
   (bindD ((ixAt p0 p2)) fun t387 =>
   bindD ((ixAt p14 t387.1)) fun t388 =>
   bindD ((ixAt p14 t387.1)) fun t389 =>
   bindD ((ixAt p14 t387.1)) fun t390 =>
   bindD ((Go.Proofs.R.grow ((List.length t390) + (List.length ((t387.1, (t387.2.1, t387.2.2)) :: ([] : (List (Int × (Int × Int))))))))) fun t391 =>
   bindD ((ixAt p14 t387.1)) fun t392 =>
   ifB (decide (t387.1 = t387.1))
    (nondet_open.l3 p0 p1 (Go.IntKind.wrap Go.IntKind.i64 (p2 + (1 : Int))) p3 p4 p5 p6 p7 p8 p9 p10 p11 p12 p13 (setRow p14 t387.1 (t390 ++ ((t387.1, (t387.2.1, t387.2.2)) :: ([] : (List (Int × (Int × Int))))))))
   (none))
  (some (p5, (p6, (p7, (p8, (p9, (p14, ()))))))) := (loopAt_step Go.Proofs.C07.ctx 46 3 _).trans (by kernel_rfl)
theorem nondet_graph_closure.l4_eq (p0 : Int) (p1 : Int) (p2 : Int) (p3 : Int) (p4 : (List Int)) (p5 : (List (Int × (Int × Int)))) (p6 : (List Int)) (p7 : (List (List (Int × (Int × Int))))) (p8 : (List Bool)) (p9 : (List Int)) : nondet_graph_closure.l4 p0 p1 p2 p3 p4 p5 p6 p7 p8 p9 =
  ifB (decide (p1 < p0))
   (bindD ((ixAt p9 p1)) fun t393 =>
   bindD ((ixAt p9 p1)) fun t394 =>
   bindD ((ixAt p8 t394)) fun t395 =>
   bindD ((ixAt p8 t394)) fun t396 =>
   nondet_graph_closure.l4 p0 (Go.IntKind.wrap Go.IntKind.i64 (p1 + (1 : Int))) p2 p3 p4 p5 p6 p7 (setRow p8 t394 true) p9)
  (nondet_graph_closure.l8 p2 p3 p4 p5 p6 p7 p8 p9) := (loopAt_step Go.Proofs.C07.ctx 47 4 _).trans (by kernel_rfl)
theorem slices_IndexFunc_int_int.f_eq (p0 : (List Int)) (p1 : Int) (p2 : Int) (p3 : (List Int)) (p4 : (List (Int × (Int × Int)))) (p5 : (List Int)) : slices_IndexFunc_int_int.f p0 p1 p2 p3 p4 p5 =
  slices_IndexFunc_int_int.l2 p0 p1 p2 p3 p4 p5 (((List.length p0) : Nat) : Int) (0 : Int) := (Einf_call Go.Proofs.C07.ctx 84 _).trans (by kernel_rfl)
theorem nondet_graph_step.f_eq (p0 : Int) (p1 : Int) (p2 : (List Int)) (p3 : (List (Int × (Int × Int)))) (p4 : (List Int)) (p5 : (List (List (Int × (Int × Int))))) (p6 : (List Bool)) (p7 : Int) : nondet_graph_step.f p0 p1 p2 p3 p4 p5 p6 p7 =
  bindD (nondet_set_list.f p6) fun t445 =>
  nondet_graph_step.l3 p7 (((List.length t445.1) : Nat) : Int) (0 : Int) p0 p1 p2 p3 p4 p5 ([] : (List Int)) t445.1 := (Einf_call Go.Proofs.C07.ctx 50 _).trans (by kernel_rfl)
theorem nondet_graph_accepts.f_eq (p0 : Int) (p1 : Int) (p2 : (List Int)) (p3 : (List (Int × (Int × Int)))) (p4 : (List Int)) (p5 : (List (List (Int × (Int × Int))))) (p6 : (List Bool)) : nondet_graph_accepts.f p0 p1 p2 p3 p4 p5 p6 =
  bindD (slices_ContainsFunc_int_int.f2 p4 p6) fun t446 =>
  some (t446.1, ()) := (Einf_call Go.Proofs.C07.ctx 52 _).trans (by kernel_rfl)
theorem nondet_set_list.l3_eq (p0 : (List Bool)) (p1 : Int) (p2 : Int) (p3 : (List Int)) : nondet_set_list.l3 p0 p1 p2 p3 =
  ifB (decide (p2 < p1))
   (bindD ((ixAt p0 p2)) fun t447 =>
   ifB t447
    (bindD ((Go.Proofs.R.grow ((List.length p3) + (List.length (p2 :: ([] : (List Int))))))) fun t448 =>
    nondet_set_list.l3 p0 p1 (Go.IntKind.wrap Go.IntKind.i64 (p2 + (1 : Int))) (p3 ++ (p2 :: ([] : (List Int)))))
   (nondet_set_list.l3 p0 p1 (Go.IntKind.wrap Go.IntKind.i64 (p2 + (1 : Int))) p3))
  (some (p3, ())) := (loopAt_step Go.Proofs.C07.ctx 63 3 _).trans (by kernel_rfl)
theorem nondet_ascends.l2_eq (p0 : (List Int)) (p1 : Int) (p2 : (List Int)) (p3 : Int) (p4 : Int) : nondet_ascends.l2 p0 p1 p2 p3 p4 =
  ifB (decide (p4 < p3))
   (bindD ((ixAt p2 p4)) fun t452 =>
   ifB (decide (t452 < (0 : Int)))
    (some (false, ()))
   (ifB (decide (t452 ≥ p1))
     (some (false, ()))
    (ifB (decide (p4 > (0 : Int)))
      (bindD ((ixAt p0 (Go.IntKind.wrap Go.IntKind.i64 (p4 - (1 : Int))))) fun t453 =>
      ifB (decide (t453 ≥ t452))
       (some (false, ()))
      (nondet_ascends.l2 p0 p1 p2 p3 (Go.IntKind.wrap Go.IntKind.i64 (p4 + (1 : Int)))))
     (nondet_ascends.l2 p0 p1 p2 p3 (Go.IntKind.wrap Go.IntKind.i64 (p4 + (1 : Int)))))))
  (some (true, ())) := (loopAt_step Go.Proofs.C07.ctx 64 2 _).trans (by kernel_rfl)
theorem ancepsref07_sorted.f_eq (p0 : (List (Int × (Int × Int)))) : ancepsref07_sorted.f p0 =
  ancepsref07_sorted.l3 p0 (0 : Int) ([] : (List (Int × (Int × Int)))) := (Einf_call Go.Proofs.C07.ctx 69 _).trans (by kernel_rfl)
theorem cmp_Compare_int.f_eq (p0 : Int) (p1 : Int) : cmp_Compare_int.f p0 p1 =
  bindD (cmp_isNaN_int.f p0) fun t470 =>
  bindD (cmp_isNaN_int.f p1) fun t471 =>
  ifB t470.1
   (ifB t471.1
    (some ((0 : Int), ()))
   (some ((-(1 : Int)), ())))
  (ifB t471.1
    (some ((1 : Int), ()))
   (ifB (decide (p0 < p1))
     (some ((-(1 : Int)), ()))
    (ifB (decide (p0 > p1))
      (some ((1 : Int), ()))
     (some ((0 : Int), ()))))) := (Einf_call Go.Proofs.C07.ctx 87 _).trans (by kernel_rfl)
theorem cmp_Or_int.f_eq (p0 : (List Int)) : cmp_Or_int.f p0 =
  cmp_Or_int.l3 (0 : Int) p0 (((List.length p0) : Nat) : Int) (0 : Int) := (Einf_call Go.Proofs.C07.ctx 86 _).trans (by kernel_rfl)
theorem ancepsref07_bits.l3_eq (p0 : Int) (p1 : Int) (p2 : Int) (p3 : (List Int)) : ancepsref07_bits.l3 p0 p1 p2 p3 =
  ifB (decide (p2 < p1))
   (ifB (decide (p2 < (8 : Int)))
    (ifB (decide (p2 < (0 : Int)))
     (none)
    (ifB ((Go.Proofs.R.bitsOp Go.BinOp.and Go.IntKind.u8 (Go.Proofs.R.shrInt Go.IntKind.u8 p0 p2) (1 : Int)) == (1 : Int))
      (bindD ((Go.Proofs.R.grow ((List.length p3) + (List.length (p2 :: ([] : (List Int))))))) fun t492 =>
      ancepsref07_bits.l3 p0 p1 (Go.IntKind.wrap Go.IntKind.i64 (p2 + (1 : Int))) (p3 ++ (p2 :: ([] : (List Int)))))
     (ancepsref07_bits.l3 p0 p1 (Go.IntKind.wrap Go.IntKind.i64 (p2 + (1 : Int))) p3)))
   (some (p3, ())))
  (some (p3, ())) := (loopAt_step Go.Proofs.C07.ctx 68 3 _).trans (by kernel_rfl)
theorem nondet_graph_closure.l8_eq (p0 : Int) (p1 : Int) (p2 : (List Int)) (p3 : (List (Int × (Int × Int)))) (p4 : (List Int)) (p5 : (List (List (Int × (Int × Int))))) (p6 : (List Bool)) (p7 : (List Int)) : nondet_graph_closure.l8 p0 p1 p2 p3 p4 p5 p6 p7 =
  ifB (decide ((((List.length p7) : Nat) : Int) > (0 : Int)))
   (bindD ((ixAt p7 (Go.IntKind.wrap Go.IntKind.i64 ((((List.length p7) : Nat) : Int) - (1 : Int))))) fun t500 =>
   bindD ((ixAt p7 (Go.IntKind.wrap Go.IntKind.i64 ((((List.length p7) : Nat) : Int) - (1 : Int))))) fun t501 =>
   bindD ((subL p7 (0 : Int) (Go.IntKind.wrap Go.IntKind.i64 ((((List.length p7) : Nat) : Int) - (1 : Int))))) fun t502 =>
   bindD ((ixAt p5 t501)) fun t503 =>
   nondet_graph_closure.l12 t503 (((List.length t503) : Nat) : Int) (0 : Int) p0 p1 p2 p3 p4 p5 p6 t502)
  (some (p6, ())) := (loopAt_step Go.Proofs.C07.ctx 47 8 _).trans (by kernel_rfl)
theorem slices_IndexFunc_int_int.l2_eq (p0 : (List Int)) (p1 : Int) (p2 : Int) (p3 : (List Int)) (p4 : (List (Int × (Int × Int)))) (p5 : (List Int)) (p6 : Int) (p7 : Int) : slices_IndexFunc_int_int.l2 p0 p1 p2 p3 p4 p5 p6 p7 =
  ifB (decide (p7 < p6))
   (bindD ((ixAt p0 p7)) fun t519 =>
   bindD (nondet_Accepts_1.f t519 p1 p2 p3 p4 p5) fun t520 =>
   ifB t520.1
    (some (p7, ()))
   (slices_IndexFunc_int_int.l2 p0 p1 p2 p3 p4 p5 p6 (Go.IntKind.wrap Go.IntKind.i64 (p7 + (1 : Int)))))
  (some ((-(1 : Int)), ())) := (loopAt_step Go.Proofs.C07.ctx 84 2 _).trans (by kernel_rfl)
theorem nondet_graph_step.l3_eq (p0 : Int) (p1 : Int) (p2 : Int) (p3 : Int) (p4 : Int) (p5 : (List Int)) (p6 : (List (Int × (Int × Int)))) (p7 : (List Int)) (p8 : (List (List (Int × (Int × Int))))) (p9 : (List Int)) (p10 : (List Int)) : nondet_graph_step.l3 p0 p1 p2 p3 p4 p5 p6 p7 p8 p9 p10 =
  ifB (decide (p2 < p1))
   (bindD ((ixAt p10 p2)) fun t521 =>
   bindD ((ixAt p10 p2)) fun t522 =>
   bindD ((ixAt p8 t522)) fun t523 =>
   nondet_graph_step.l6 p0 p1 p2 t523 (((List.length t523) : Nat) : Int) (0 : Int) p3 p4 p5 p6 p7 p8 p9 p10)
  (bindD (nondet_graph_closure.f p3 p4 p5 p6 p7 p8 p9) fun t524 =>
   some (t524.1, ())) := (loopAt_step Go.Proofs.C07.ctx 50 3 _).trans (by kernel_rfl)
theorem slices_ContainsFunc_int_int.f2_eq (p0 : (List Int)) (p1 : (List Bool)) : slices_ContainsFunc_int_int.f2 p0 p1 =
  bindD (slices_IndexFunc_int_int.f2 p0 p1) fun t525 =>
  some ((decide (t525.1 ≥ (0 : Int))), ()) := (Einf_call Go.Proofs.C07.ctx 59 _).trans (by kernel_rfl)
theorem ancepsref07_sorted.l3_eq (p0 : (List (Int × (Int × Int)))) (p1 : Int) (p2 : (List (Int × (Int × Int)))) : ancepsref07_sorted.l3 p0 p1 p2 =
  ifB (decide (p1 < (((List.length p0) : Nat) : Int)))
   (ancepsref07_sorted.l6 p0 p1 (((List.length p2) : Nat) : Int) p2)
  (some (p2, ())) := (loopAt_step Go.Proofs.C07.ctx 69 3 _).trans (by kernel_rfl)
theorem cmp_isNaN_int.f_eq (p0 : Int) : cmp_isNaN_int.f p0 =
  some ((p0 != p0), ()) := (Einf_call Go.Proofs.C07.ctx 94 _).trans (by kernel_rfl)
theorem cmp_Or_int.l3_eq (p0 : Int) (p1 : (List Int)) (p2 : Int) (p3 : Int) : cmp_Or_int.l3 p0 p1 p2 p3 =
  ifB (decide (p3 < p2))
   (bindD ((ixAt p1 p3)) fun t559 =>
   ifB (t559 != p0)
    (some (t559, ()))
   (cmp_Or_int.l3 p0 p1 p2 (Go.IntKind.wrap Go.IntKind.i64 (p3 + (1 : Int)))))
  (some (p0, ())) := (loopAt_step Go.Proofs.C07.ctx 86 3 _).trans (by kernel_rfl)
theorem nondet_graph_closure.l12_eq (p0 : (List (Int × (Int × Int)))) (p1 : Int) (p2 : Int) (p3 : Int) (p4 : Int) (p5 : (List Int)) (p6 : (List (Int × (Int × Int)))) (p7 : (List Int)) (p8 : (List (List (Int × (Int × Int))))) (p9 : (List Bool)) (p10 : (List Int)) : nondet_graph_closure.l12 p0 p1 p2 p3 p4 p5 p6 p7 p8 p9 p10 =
  ifB (decide (p2 < p1))
   (bindD ((ixAt p0 p2)) fun t561 =>
   ifB (decide (t561.2.1 < (0 : Int)))
    (bindD ((ixAt p9 t561.2.2)) fun t562 =>
    bindD ((ixAt p9 t561.2.2)) fun t563 =>
    ifB (!t563)
     (bindD ((ixAt p9 t561.2.2)) fun t564 =>
     bindD ((ixAt p9 t561.2.2)) fun t565 =>
     bindD ((Go.Proofs.R.grow ((List.length p10) + (List.length (t561.2.2 :: ([] : (List Int))))))) fun t566 =>
     nondet_graph_closure.l12 p0 p1 (Go.IntKind.wrap Go.IntKind.i64 (p2 + (1 : Int))) p3 p4 p5 p6 p7 p8 (setRow p9 t561.2.2 true) (p10 ++ (t561.2.2 :: ([] : (List Int)))))
    (nondet_graph_closure.l12 p0 p1 (Go.IntKind.wrap Go.IntKind.i64 (p2 + (1 : Int))) p3 p4 p5 p6 p7 p8 p9 p10))
   (nondet_graph_closure.l12 p0 p1 (Go.IntKind.wrap Go.IntKind.i64 (p2 + (1 : Int))) p3 p4 p5 p6 p7 p8 p9 p10))
  (nondet_graph_closure.l8 p3 p4 p5 p6 p7 p8 p9 p10) := (loopAt_step Go.Proofs.C07.ctx 47 12 _).trans (by kernel_rfl)
theorem nondet_Accepts_1.f_eq (p0 : Int) (p1 : Int) (p2 : Int) (p3 : (List Int)) (p4 : (List (Int × (Int × Int)))) (p5 : (List Int)) : nondet_Accepts_1.f p0 p1 p2 p3 p4 p5 =
  ifB (decide (p0 < (0 : Int)))
   (some (true, ()))
  (some ((decide (p0 ≥ p1)), ())) := (Einf_call Go.Proofs.C07.ctx 60 _).trans (by kernel_rfl)
theorem nondet_graph_step.l6_eq (p0 : Int) (p1 : Int) (p2 : Int) (p3 : (List (Int × (Int × Int)))) (p4 : Int) (p5 : Int) (p6 : Int) (p7 : Int) (p8 : (List Int)) (p9 : (List (Int × (Int × Int)))) (p10 : (List Int)) (p11 : (List (List (Int × (Int × Int))))) (p12 : (List Int)) (p13 : (List Int)) : nondet_graph_step.l6 p0 p1 p2 p3 p4 p5 p6 p7 p8 p9 p10 p11 p12 p13 =
  ifB (decide (p5 < p4))
   (bindD ((ixAt p3 p5)) fun t610 =>
   ifB (t610.2.1 == p0)
    (bindD ((Go.Proofs.R.grow ((List.length p12) + (List.length (t610.2.2 :: ([] : (List Int))))))) fun t611 =>
    nondet_graph_step.l6 p0 p1 p2 p3 p4 (Go.IntKind.wrap Go.IntKind.i64 (p5 + (1 : Int))) p6 p7 p8 p9 p10 p11 (p12 ++ (t610.2.2 :: ([] : (List Int)))) p13)
   (nondet_graph_step.l6 p0 p1 p2 p3 p4 (Go.IntKind.wrap Go.IntKind.i64 (p5 + (1 : Int))) p6 p7 p8 p9 p10 p11 p12 p13))
  (nondet_graph_step.l3 p0 p1 (Go.IntKind.wrap Go.IntKind.i64 (p2 + (1 : Int))) p6 p7 p8 p9 p10 p11 p12 p13) := (loopAt_step Go.Proofs.C07.ctx 50 6 _).trans (by kernel_rfl)
theorem slices_IndexFunc_int_int.f2_eq (p0 : (List Int)) (p1 : (List Bool)) : slices_IndexFunc_int_int.f2 p0 p1 =
  slices_IndexFunc_int_int.l2_2 p0 p1 (((List.length p0) : Nat) : Int) (0 : Int) := (Einf_call Go.Proofs.C07.ctx 84 _).trans (by kernel_rfl)
theorem ancepsref07_sorted.l6_eq (p0 : (List (Int × (Int × Int)))) (p1 : Int) (p2 : Int) (p3 : (List (Int × (Int × Int)))) : ancepsref07_sorted.l6 p0 p1 p2 p3 =
  ifB (decide (p2 > (0 : Int)))
   (bindD ((ixAt p0 p1)) fun t615 =>
   bindD ((ixAt p3 (Go.IntKind.wrap Go.IntKind.i64 (p2 - (1 : Int))))) fun t616 =>
   bindD ((ixAt p3 (Go.IntKind.wrap Go.IntKind.i64 (p2 - (1 : Int))))) fun t617 =>
   bindD (ancepsref07_ahead.f t615.1 t615.2.1 t615.2.2 t617.1 t617.2.1 t617.2.2) fun t618 =>
   ifB t618.1
    (ancepsref07_sorted.l6 p0 p1 (Go.IntKind.wrap Go.IntKind.i64 (p2 - (1 : Int))) p3)
   (ifB (decide (p2 > (0 : Int)))
     (bindD ((ixAt p3 (Go.IntKind.wrap Go.IntKind.i64 (p2 - (1 : Int))))) fun t619 =>
     bindD ((ixAt p3 (Go.IntKind.wrap Go.IntKind.i64 (p2 - (1 : Int))))) fun t620 =>
     bindD ((ixAt p0 p1)) fun t621 =>
     ifB ((t620.1 == t621.1) && ((t620.2.1 == t621.2.1) && (t620.2.2 == t621.2.2)))
      (ancepsref07_sorted.l3 p0 (Go.IntKind.wrap Go.IntKind.i64 (p1 + (1 : Int))) p3)
     (bindD ((ixAt p0 p1)) fun t622 =>
      bindD ((Go.Proofs.R.grow ((List.length p3) + (List.length ((t622.1, (t622.2.1, t622.2.2)) :: ([] : (List (Int × (Int × Int))))))))) fun t623 =>
      ancepsref07_sorted.l11 p0 p1 p2 (Go.IntKind.wrap Go.IntKind.i64 ((((List.length (p3 ++ ((t622.1, (t622.2.1, t622.2.2)) :: ([] : (List (Int × (Int × Int))))))) : Nat) : Int) - (1 : Int))) (p3 ++ ((t622.1, (t622.2.1, t622.2.2)) :: ([] : (List (Int × (Int × Int))))))))
    (bindD ((ixAt p0 p1)) fun t624 =>
     bindD ((Go.Proofs.R.grow ((List.length p3) + (List.length ((t624.1, (t624.2.1, t624.2.2)) :: ([] : (List (Int × (Int × Int))))))))) fun t625 =>
     ancepsref07_sorted.l11 p0 p1 p2 (Go.IntKind.wrap Go.IntKind.i64 ((((List.length (p3 ++ ((t624.1, (t624.2.1, t624.2.2)) :: ([] : (List (Int × (Int × Int))))))) : Nat) : Int) - (1 : Int))) (p3 ++ ((t624.1, (t624.2.1, t624.2.2)) :: ([] : (List (Int × (Int × Int)))))))))
  (ifB (decide (p2 > (0 : Int)))
    (bindD ((ixAt p3 (Go.IntKind.wrap Go.IntKind.i64 (p2 - (1 : Int))))) fun t626 =>
    bindD ((ixAt p3 (Go.IntKind.wrap Go.IntKind.i64 (p2 - (1 : Int))))) fun t627 =>
    bindD ((ixAt p0 p1)) fun t628 =>
    ifB ((t627.1 == t628.1) && ((t627.2.1 == t628.2.1) && (t627.2.2 == t628.2.2)))
     (ancepsref07_sorted.l3 p0 (Go.IntKind.wrap Go.IntKind.i64 (p1 + (1 : Int))) p3)
    (bindD ((ixAt p0 p1)) fun t629 =>
     bindD ((Go.Proofs.R.grow ((List.length p3) + (List.length ((t629.1, (t629.2.1, t629.2.2)) :: ([] : (List (Int × (Int × Int))))))))) fun t630 =>
     ancepsref07_sorted.l11 p0 p1 p2 (Go.IntKind.wrap Go.IntKind.i64 ((((List.length (p3 ++ ((t629.1, (t629.2.1, t629.2.2)) :: ([] : (List (Int × (Int × Int))))))) : Nat) : Int) - (1 : Int))) (p3 ++ ((t629.1, (t629.2.1, t629.2.2)) :: ([] : (List (Int × (Int × Int))))))))
   (bindD ((ixAt p0 p1)) fun t631 =>
    bindD ((Go.Proofs.R.grow ((List.length p3) + (List.length ((t631.1, (t631.2.1, t631.2.2)) :: ([] : (List (Int × (Int × Int))))))))) fun t632 =>
    ancepsref07_sorted.l11 p0 p1 p2 (Go.IntKind.wrap Go.IntKind.i64 ((((List.length (p3 ++ ((t631.1, (t631.2.1, t631.2.2)) :: ([] : (List (Int × (Int × Int))))))) : Nat) : Int) - (1 : Int))) (p3 ++ ((t631.1, (t631.2.1, t631.2.2)) :: ([] : (List (Int × (Int × Int)))))))) := (loopAt_step Go.Proofs.C07.ctx 69 6 _).trans (by kernel_rfl)
theorem slices_IndexFunc_int_int.l2_2_eq (p0 : (List Int)) (p1 : (List Bool)) (p2 : Int) (p3 : Int) : slices_IndexFunc_int_int.l2_2 p0 p1 p2 p3 =
  ifB (decide (p3 < p2))
   (bindD ((ixAt p0 p3)) fun t652 =>
   bindD (nondet_graph_accepts_1.f t652 p1) fun t653 =>
   ifB t653.1
    (some (p3, ()))
   (slices_IndexFunc_int_int.l2_2 p0 p1 p2 (Go.IntKind.wrap Go.IntKind.i64 (p3 + (1 : Int)))))
  (some ((-(1 : Int)), ())) := (loopAt_step Go.Proofs.C07.ctx 84 2 _).trans (by kernel_rfl)
theorem ancepsref07_sorted.l11_eq (p0 : (List (Int × (Int × Int)))) (p1 : Int) (p2 : Int) (p3 : Int) (p4 : (List (Int × (Int × Int)))) : ancepsref07_sorted.l11 p0 p1 p2 p3 p4 =
  ifB (decide (p3 > p2))
   (bindD ((ixAt p4 (Go.IntKind.wrap Go.IntKind.i64 (p3 - (1 : Int))))) fun t660 =>
   bindD ((ixAt p4 (Go.IntKind.wrap Go.IntKind.i64 (p3 - (1 : Int))))) fun t661 =>
   bindD ((ixAt p4 p3)) fun t662 =>
   bindD ((ixAt p4 p3)) fun t663 =>
   ancepsref07_sorted.l11 p0 p1 p2 (Go.IntKind.wrap Go.IntKind.i64 (p3 - (1 : Int))) (setRow p4 p3 (t661.1, (t661.2.1, t661.2.2))))
  (bindD ((ixAt p0 p1)) fun t664 =>
   bindD ((ixAt p4 p2)) fun t665 =>
   bindD ((ixAt p4 p2)) fun t666 =>
   ancepsref07_sorted.l3 p0 (Go.IntKind.wrap Go.IntKind.i64 (p1 + (1 : Int))) (setRow p4 p2 (t664.1, (t664.2.1, t664.2.2)))) := (loopAt_step Go.Proofs.C07.ctx 69 11 _).trans (by kernel_rfl)
theorem nondet_graph_accepts_1.f_eq (p0 : Int) (p1 : (List Bool)) : nondet_graph_accepts_1.f p0 p1 =
  bindD ((ixAt p1 p0)) fun t683 =>
  some (t683, ()) := (Einf_call Go.Proofs.C07.ctx 82 _).trans (by kernel_rfl)
end Go.Proofs.C07
