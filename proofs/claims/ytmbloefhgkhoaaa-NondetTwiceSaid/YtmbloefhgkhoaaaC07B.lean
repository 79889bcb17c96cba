/- C07B: what the row's functions are, as the evaluator tells them. No condition. -/
import Derived.Test.YtmbloefhgkhoaaaC07
set_option linter.unusedVariables false
set_option linter.unusedSimpArgs false
set_option maxRecDepth 100000
set_option linter.unusedVariables false
namespace Go.Proofs.C07
open Go Go.Proofs.R
noncomputable def ancepslaw07_NondetTwice.f (p0 : Int) (p1 : Int) (p2 : Int) (p3 : Int) (p4 : (List (List Int))) : Option (Bool × Unit) := (Go.Proofs.R.Einf Go.Proofs.C07.ctx).call 7 [(.agg [(.v (.int .u8) p0), (.v (.int .u8) p1), (.v (.int .u8) p2), (.v (.int .u8) p3), (.v (.sl (.arr 3 (.int .u8))) p4)])]
noncomputable def ancepslaw07_awake.f : Option (Bool × Unit) := (Go.Proofs.R.Einf Go.Proofs.C07.ctx).call 11 []
noncomputable def ancepsref07_Valid.f (p0 : Int) (p1 : Int) (p2 : (List Int)) (p3 : (List (Int × (Int × Int)))) (p4 : (List Int)) : Option (Int × Unit) := (Go.Proofs.R.Einf Go.Proofs.C07.ctx).call 13 [(.agg [(.v (.int .i64) p0), (.v (.int .i64) p1), (.v (.sl (.int .i64)) p2), (.v (.sl (.pair (.int .i64) (.pair (.int .i64) (.int .i64)))) p3), (.v (.sl (.int .i64)) p4)])]
noncomputable def nondet_Determine.f (p0 : Int) (p1 : Int) (p2 : (List Int)) (p3 : (List (Int × (Int × Int)))) (p4 : (List Int)) : Option (Int × (Int × ((List (List Int)) × ((List Bool) × (Int × Unit))))) := (Go.Proofs.R.Einf Go.Proofs.C07.ctx).call 14 [(.agg [(.v (.int .i64) p0), (.v (.int .i64) p1), (.v (.sl (.int .i64)) p2), (.v (.sl (.pair (.int .i64) (.pair (.int .i64) (.int .i64)))) p3), (.v (.sl (.int .i64)) p4)])]
noncomputable def ancepsref06_SameDFA.f (p0 : Int) (p1 : Int) (p2 : (List (List Int))) (p3 : (List Bool)) (p4 : Int) (p5 : Int) (p6 : (List (List Int))) (p7 : (List Bool)) : Option (Bool × Unit) := (Go.Proofs.R.Einf Go.Proofs.C07.ctx).call 17 [(.agg [(.v (.int .i64) p0), (.v (.int .i64) p1), (.v (.sl (.sl (.int .i64))) p2), (.v (.sl .bool) p3)]), (.agg [(.v (.int .i64) p4), (.v (.int .i64) p5), (.v (.sl (.sl (.int .i64))) p6), (.v (.sl .bool) p7)])]
noncomputable def slices_Clone_int_int.f (p0 : (List Int)) : Option ((List Int) × Unit) := (Go.Proofs.R.Einf Go.Proofs.C07.ctx).call 22 [(.one (.v (.sl (.int .i64)) p0))]
noncomputable def nondet_Valid.f (p0 : Int) (p1 : Int) (p2 : (List Int)) (p3 : (List (Int × (Int × Int)))) (p4 : (List Int)) : Option (Int × Unit) := (Go.Proofs.R.Einf Go.Proofs.C07.ctx).call 25 [(.agg [(.v (.int .i64) p0), (.v (.int .i64) p1), (.v (.sl (.int .i64)) p2), (.v (.sl (.pair (.int .i64) (.pair (.int .i64) (.int .i64)))) p3), (.v (.sl (.int .i64)) p4)])]
noncomputable def nondet_Of.f (p0 : Int) (p1 : Int) (p2 : (List (List Int))) (p3 : (List Bool)) : Option (Int × (Int × ((List Int) × ((List (Int × (Int × Int))) × ((List Int) × (Int × Unit)))))) := (Go.Proofs.R.Einf Go.Proofs.C07.ctx).call 29 [(.agg [(.v (.int .i64) p0), (.v (.int .i64) p1), (.v (.sl (.sl (.int .i64))) p2), (.v (.sl .bool) p3)])]
noncomputable def nondet_Reverse.f (p0 : Int) (p1 : Int) (p2 : (List Int)) (p3 : (List (Int × (Int × Int)))) (p4 : (List Int)) : Option (Int × (Int × ((List Int) × ((List (Int × (Int × Int))) × ((List Int) × (Int × Unit)))))) := (Go.Proofs.R.Einf Go.Proofs.C07.ctx).call 32 [(.agg [(.v (.int .i64) p0), (.v (.int .i64) p1), (.v (.sl (.int .i64)) p2), (.v (.sl (.pair (.int .i64) (.pair (.int .i64) (.int .i64)))) p3), (.v (.sl (.int .i64)) p4)])]
noncomputable def ancepsref07_Reverse.f (p0 : Int) (p1 : Int) (p2 : (List Int)) (p3 : (List (Int × (Int × Int)))) (p4 : (List Int)) : Option (Int × (Int × ((List Int) × ((List (Int × (Int × Int))) × ((List Int) × (Int × Unit)))))) := (Go.Proofs.R.Einf Go.Proofs.C07.ctx).call 38 [(.agg [(.v (.int .i64) p0), (.v (.int .i64) p1), (.v (.sl (.int .i64)) p2), (.v (.sl (.pair (.int .i64) (.pair (.int .i64) (.int .i64)))) p3), (.v (.sl (.int .i64)) p4)])]
noncomputable def ancepsref07_Made.f (p0 : Int) (p1 : Int) (p2 : Int) (p3 : Int) (p4 : (List (List Int))) : Option (Int × (Int × ((List Int) × ((List (Int × (Int × Int))) × ((List Int) × Unit))))) := (Go.Proofs.R.Einf Go.Proofs.C07.ctx).call 31 [(.agg [(.v (.int .u8) p0), (.v (.int .u8) p1), (.v (.int .u8) p2), (.v (.int .u8) p3), (.v (.sl (.arr 3 (.int .u8))) p4)])]
noncomputable def ancepslaw07_NondetTwice.l6 (p0 : Int) (p1 : Int) (p2 : Int) (p3 : Int) (p4 : (List Int)) (p5 : (List (Int × (Int × Int)))) (p6 : (List Int)) (p7 : Int) (p8 : Int) (p9 : (List (List Int))) (p10 : (List Bool)) : Option (Bool × Unit) := Go.Proofs.R.loopAt Go.Proofs.C07.ctx (Go.Proofs.R.Einf Go.Proofs.C07.ctx) 7 6 (.mk [(3, (.one (.ref 7 0))), (4, (.one (.ref 15 0))), (5, (.one (.v (.int .i64) p0))), (21, (.one (.v (.int .i64) p1)))] [(7, (.box 25 [(.v (.int .i64) p2), (.v (.int .i64) p3), (.v (.sl (.int .i64)) p4), (.v (.sl (.pair (.int .i64) (.pair (.int .i64) (.int .i64)))) p5), (.v (.sl (.int .i64)) p6)])), (15, (.box 34 [(.v (.int .i64) p7), (.v (.int .i64) p8), (.v (.sl (.sl (.int .i64))) p9), (.v (.sl .bool) p10)]))])
noncomputable def ancepsref07_ascending.f (p0 : (List Int)) (p1 : Int) : Option (Bool × Unit) := (Go.Proofs.R.Einf Go.Proofs.C07.ctx).call 44 [(.one (.v (.sl (.int .i64)) p0)), (.one (.v (.int .i64) p1))]
noncomputable def ancepsref07_Valid.l6 (p0 : Int) (p1 : Int) (p2 : Int) (p3 : (List Int)) (p4 : (List (Int × (Int × Int)))) (p5 : (List Int)) : Option (Int × Unit) := Go.Proofs.R.loopAt Go.Proofs.C07.ctx (Go.Proofs.R.Einf Go.Proofs.C07.ctx) 13 6 (.mk [(1, (.one (.ref 7 0))), (3, (.one (.v (.int .i64) p0)))] [(7, (.box 25 [(.v (.int .i64) p1), (.v (.int .i64) p2), (.v (.sl (.int .i64)) p3), (.v (.sl (.pair (.int .i64) (.pair (.int .i64) (.int .i64)))) p4), (.v (.sl (.int .i64)) p5)]))])
noncomputable def nondet_open.f (p0 : Int) (p1 : Int) (p2 : (List Int)) (p3 : (List (Int × (Int × Int)))) (p4 : (List Int)) : Option (Int × (Int × ((List Int) × ((List (Int × (Int × Int))) × ((List Int) × ((List (List (Int × (Int × Int)))) × Unit)))))) := (Go.Proofs.R.Einf Go.Proofs.C07.ctx).call 46 [(.agg [(.v (.int .i64) p0), (.v (.int .i64) p1), (.v (.sl (.int .i64)) p2), (.v (.sl (.pair (.int .i64) (.pair (.int .i64) (.int .i64)))) p3), (.v (.sl (.int .i64)) p4)])]
noncomputable def nondet_graph_closure.f (p0 : Int) (p1 : Int) (p2 : (List Int)) (p3 : (List (Int × (Int × Int)))) (p4 : (List Int)) (p5 : (List (List (Int × (Int × Int))))) (p6 : (List Int)) : Option ((List Bool) × Unit) := (Go.Proofs.R.Einf Go.Proofs.C07.ctx).call 47 [(.agg [(.v (.int .i64) p0), (.v (.int .i64) p1), (.v (.sl (.int .i64)) p2), (.v (.sl (.pair (.int .i64) (.pair (.int .i64) (.int .i64)))) p3), (.v (.sl (.int .i64)) p4), (.v (.sl (.sl (.pair (.int .i64) (.pair (.int .i64) (.int .i64))))) p5)]), (.one (.v (.sl (.int .i64)) p6))]
noncomputable def automaton_Minimal.f (p0 : Int) (p1 : Int) (p2 : (List (List Int))) (p3 : (List Bool)) : Option (Int × (Int × ((List (List Int)) × ((List Bool) × (Int × Unit))))) := (Go.Proofs.R.Einf Go.Proofs.C07.ctx).call 48 [(.agg [(.v (.int .i64) p0), (.v (.int .i64) p1), (.v (.sl (.sl (.int .i64))) p2), (.v (.sl .bool) p3)])]
noncomputable def nondet_set_key.f (p0 : (List Bool)) : Option (ByteArray × Unit) := (Go.Proofs.R.Einf Go.Proofs.C07.ctx).call 49 [(.one (.v (.sl .bool) p0))]
noncomputable def nondet_Determine.l13 (p0 : Int) (p1 : Int) (p2 : Int) (p3 : (List Int)) (p4 : (List (Int × (Int × Int)))) (p5 : (List Int)) (p6 : Int) (p7 : Int) (p8 : Int) (p9 : Int) (p10 : (List Int)) (p11 : (List (Int × (Int × Int)))) (p12 : (List Int)) (p13 : (List (List (Int × (Int × Int))))) (p14 : Int) (p15 : Int) (p16 : (List (ByteArray × Int))) (p17 : (List (List Bool))) (p18 : (List (List Int))) (p19 : (List Bool)) (p20 : (List (List Int))) (p21 : (List Bool)) : Option (Int × (Int × ((List (List Int)) × ((List Bool) × (Int × Unit))))) := Go.Proofs.R.loopAt Go.Proofs.C07.ctx (Go.Proofs.R.Einf Go.Proofs.C07.ctx) 14 13 (.mk [(1, (.one (.ref 7 0))), (2, (.one (.ref 15 0))), (5, (.one (.ref 23 0))), (6, (.one (.ref 31 0))), (8, (.one (.mp 39))), (9, (.one (.row 47))), (10, (.one (.v (.int .i64) p0)))] [(7, (.box 25 [(.v (.int .i64) p1), (.v (.int .i64) p2), (.v (.sl (.int .i64)) p3), (.v (.sl (.pair (.int .i64) (.pair (.int .i64) (.int .i64)))) p4), (.v (.sl (.int .i64)) p5)])), (15, (.box 34 [(.v (.int .i64) p6), (.v (.int .i64) p7), (.row 55), (.row 63)])), (23, (.box 78 [(.v (.int .i64) p8), (.v (.int .i64) p9), (.v (.sl (.int .i64)) p10), (.v (.sl (.pair (.int .i64) (.pair (.int .i64) (.int .i64)))) p11), (.v (.sl (.int .i64)) p12), (.v (.sl (.sl (.pair (.int .i64) (.pair (.int .i64) (.int .i64))))) p13)])), (31, (.box 34 [(.v (.int .i64) p14), (.v (.int .i64) p15), (.row 71), (.row 79)])), (39, (.mp 9 3 .str (.int .i64) p16)), (47, (.row 80 (.sl .bool) p17 false)), (55, (.row 22 (.sl (.int .i64)) p18 false)), (63, (.row 4 .bool p19 false)), (71, (.row 22 (.sl (.int .i64)) p20 false)), (79, (.row 4 .bool p21 false))])
noncomputable def ancepsref06_SameDFA.l4 (p0 : Int) (p1 : Int) (p2 : Int) (p3 : (List (List Int))) (p4 : (List Bool)) (p5 : Int) (p6 : Int) (p7 : (List (List Int))) (p8 : (List Bool)) : Option (Bool × Unit) := Go.Proofs.R.loopAt Go.Proofs.C07.ctx (Go.Proofs.R.Einf Go.Proofs.C07.ctx) 17 4 (.mk [(2, (.one (.ref 7 0))), (3, (.one (.ref 15 0))), (5, (.one (.v (.int .i64) p0)))] [(7, (.box 34 [(.v (.int .i64) p1), (.v (.int .i64) p2), (.v (.sl (.sl (.int .i64))) p3), (.v (.sl .bool) p4)])), (15, (.box 34 [(.v (.int .i64) p5), (.v (.int .i64) p6), (.v (.sl (.sl (.int .i64))) p7), (.v (.sl .bool) p8)]))])
noncomputable def nondet_set_list.f (p0 : (List Bool)) : Option ((List Int) × Unit) := (Go.Proofs.R.Einf Go.Proofs.C07.ctx).call 63 [(.one (.v (.sl .bool) p0))]
noncomputable def nondet_ascends.f (p0 : (List Int)) (p1 : Int) : Option (Bool × Unit) := (Go.Proofs.R.Einf Go.Proofs.C07.ctx).call 64 [(.one (.v (.sl (.int .i64)) p0)), (.one (.v (.int .i64) p1))]
noncomputable def nondet_Valid.l6 (p0 : (List (Int × (Int × Int)))) (p1 : Int) (p2 : Int) (p3 : Int) (p4 : Int) (p5 : (List Int)) (p6 : (List (Int × (Int × Int)))) (p7 : (List Int)) : Option (Int × Unit) := Go.Proofs.R.loopAt Go.Proofs.C07.ctx (Go.Proofs.R.Einf Go.Proofs.C07.ctx) 25 6 (.mk [(1, (.one (.ref 7 0))), (44, (.one (.v (.sl (.pair (.int .i64) (.pair (.int .i64) (.int .i64)))) p0))), (45, (.one (.v (.int .i64) p1))), (46, (.one (.v (.int .i64) p2)))] [(7, (.box 25 [(.v (.int .i64) p3), (.v (.int .i64) p4), (.v (.sl (.int .i64)) p5), (.v (.sl (.pair (.int .i64) (.pair (.int .i64) (.int .i64)))) p6), (.v (.sl (.int .i64)) p7)]))])
noncomputable def automaton_Valid.f (p0 : Int) (p1 : Int) (p2 : (List (List Int))) (p3 : (List Bool)) : Option (Int × Unit) := (Go.Proofs.R.Einf Go.Proofs.C07.ctx).call 66 [(.agg [(.v (.int .i64) p0), (.v (.int .i64) p1), (.v (.sl (.sl (.int .i64))) p2), (.v (.sl .bool) p3)])]
noncomputable def nondet_Of.l8 (p0 : (List (List Int))) (p1 : Int) (p2 : Int) (p3 : Int) (p4 : Int) (p5 : (List (List Int))) (p6 : (List Bool)) (p7 : Int) (p8 : Int) (p9 : Int) (p10 : Int) (p11 : (List Int)) (p12 : (List (Int × (Int × Int)))) (p13 : (List Int)) (p14 : (List Int)) (p15 : (List (Int × (Int × Int)))) (p16 : (List Int)) : Option (Int × (Int × ((List Int) × ((List (Int × (Int × Int))) × ((List Int) × (Int × Unit)))))) := Go.Proofs.R.loopAt Go.Proofs.C07.ctx (Go.Proofs.R.Einf Go.Proofs.C07.ctx) 29 8 (.mk [(1, (.one (.ref 7 0))), (2, (.one (.ref 15 0))), (5, (.one (.ref 23 0))), (30, (.one (.v (.sl (.sl (.int .i64))) p0))), (31, (.one (.v (.int .i64) p1))), (32, (.one (.v (.int .i64) p2)))] [(7, (.box 34 [(.v (.int .i64) p3), (.v (.int .i64) p4), (.v (.sl (.sl (.int .i64))) p5), (.v (.sl .bool) p6)])), (15, (.box 25 [(.v (.int .i64) p7), (.v (.int .i64) p8), (.row 31), (.row 39), (.row 47)])), (23, (.box 25 [(.v (.int .i64) p9), (.v (.int .i64) p10), (.row 55), (.row 63), (.row 71)])), (31, (.row 3 (.int .i64) p11 false)), (39, (.row 74 (.pair (.int .i64) (.pair (.int .i64) (.int .i64))) p12 false)), (47, (.row 3 (.int .i64) p13 false)), (55, (.row 3 (.int .i64) p14 false)), (63, (.row 74 (.pair (.int .i64) (.pair (.int .i64) (.int .i64))) p15 false)), (71, (.row 3 (.int .i64) p16 false))])
noncomputable def nondet_Reverse.l6 (p0 : (List (Int × (Int × Int)))) (p1 : Int) (p2 : Int) (p3 : Int) (p4 : Int) (p5 : Int) (p6 : Int) (p7 : (List Int)) (p8 : (List (Int × (Int × Int)))) (p9 : (List Int)) (p10 : (List Int)) (p11 : (List (Int × (Int × Int)))) (p12 : (List Int)) : Option (Int × (Int × ((List Int) × ((List (Int × (Int × Int))) × ((List Int) × (Int × Unit)))))) := Go.Proofs.R.loopAt Go.Proofs.C07.ctx (Go.Proofs.R.Einf Go.Proofs.C07.ctx) 32 6 (.mk [(2, (.one (.ref 7 0))), (5, (.one (.ref 15 0))), (26, (.one (.v (.sl (.pair (.int .i64) (.pair (.int .i64) (.int .i64)))) p0))), (27, (.one (.v (.int .i64) p1))), (28, (.one (.v (.int .i64) p2)))] [(7, (.box 25 [(.v (.int .i64) p3), (.v (.int .i64) p4), (.row 23), (.row 31), (.row 39)])), (15, (.box 25 [(.v (.int .i64) p5), (.v (.int .i64) p6), (.row 47), (.row 55), (.row 63)])), (23, (.row 3 (.int .i64) p7 false)), (31, (.row 74 (.pair (.int .i64) (.pair (.int .i64) (.int .i64))) p8 false)), (39, (.row 3 (.int .i64) p9 false)), (47, (.row 3 (.int .i64) p10 false)), (55, (.row 74 (.pair (.int .i64) (.pair (.int .i64) (.int .i64))) p11 false)), (63, (.row 3 (.int .i64) p12 false))])
noncomputable def ancepsref07_Reverse.l6 (p0 : Int) (p1 : Int) (p2 : Int) (p3 : (List Int)) (p4 : (List (Int × (Int × Int)))) (p5 : (List Int)) (p6 : Int) (p7 : Int) (p8 : Int) (p9 : Int) (p10 : (List Int)) (p11 : (List (Int × (Int × Int)))) (p12 : (List Int)) (p13 : (List Int)) (p14 : (List (Int × (Int × Int)))) (p15 : (List Int)) : Option (Int × (Int × ((List Int) × ((List (Int × (Int × Int))) × ((List Int) × (Int × Unit)))))) := Go.Proofs.R.loopAt Go.Proofs.C07.ctx (Go.Proofs.R.Einf Go.Proofs.C07.ctx) 38 6 (.mk [(1, (.one (.ref 7 0))), (2, (.one (.ref 15 0))), (5, (.one (.ref 23 0))), (6, (.one (.v (.int .i64) p0)))] [(7, (.box 25 [(.v (.int .i64) p1), (.v (.int .i64) p2), (.v (.sl (.int .i64)) p3), (.v (.sl (.pair (.int .i64) (.pair (.int .i64) (.int .i64)))) p4), (.v (.sl (.int .i64)) p5)])), (15, (.box 25 [(.v (.int .i64) p6), (.v (.int .i64) p7), (.row 31), (.row 39), (.row 47)])), (23, (.box 25 [(.v (.int .i64) p8), (.v (.int .i64) p9), (.row 55), (.row 63), (.row 71)])), (31, (.row 3 (.int .i64) p10 false)), (39, (.row 74 (.pair (.int .i64) (.pair (.int .i64) (.int .i64))) p11 false)), (47, (.row 3 (.int .i64) p12 false)), (55, (.row 3 (.int .i64) p13 false)), (63, (.row 74 (.pair (.int .i64) (.pair (.int .i64) (.int .i64))) p14 false)), (71, (.row 3 (.int .i64) p15 false))])
noncomputable def nondet_order.f (p0 : Int) (p1 : Int) (p2 : Int) (p3 : Int) (p4 : Int) (p5 : Int) : Option (Int × Unit) := (Go.Proofs.R.Einf Go.Proofs.C07.ctx).call 65 [(.agg [(.v (.int .i64) p0), (.v (.int .i64) p1), (.v (.int .i64) p2)]), (.agg [(.v (.int .i64) p3), (.v (.int .i64) p4), (.v (.int .i64) p5)])]
noncomputable def ancepsref07_bits.f (p0 : Int) (p1 : Int) : Option ((List Int) × Unit) := (Go.Proofs.R.Einf Go.Proofs.C07.ctx).call 68 [(.one (.v (.int .u8) p0)), (.one (.v (.int .i64) p1))]
noncomputable def ancepsref07_Made.l5 (p0 : Int) (p1 : Int) (p2 : Int) (p3 : Int) (p4 : Int) (p5 : (List (List Int))) (p6 : Int) (p7 : Int) (p8 : Int) (p9 : Int) (p10 : (List (Int × (Int × Int)))) (p11 : (List Int)) (p12 : (List (Int × (Int × Int)))) (p13 : (List Int)) (p14 : (List Int)) (p15 : (List (Int × (Int × Int)))) (p16 : (List Int)) : Option (Int × (Int × ((List Int) × ((List (Int × (Int × Int))) × ((List Int) × Unit))))) := Go.Proofs.R.loopAt Go.Proofs.C07.ctx (Go.Proofs.R.Einf Go.Proofs.C07.ctx) 31 5 (.mk [(1, (.one (.ref 7 0))), (2, (.one (.ref 15 0))), (3, (.one (.ref 23 0))), (4, (.one (.row 31))), (5, (.one (.v (.int .i64) p0)))] [(7, (.box 56 [(.v (.int .u8) p1), (.v (.int .u8) p2), (.v (.int .u8) p3), (.v (.int .u8) p4), (.v (.sl (.arr 3 (.int .u8))) p5)])), (15, (.box 25 [(.v (.int .i64) p6), (.v (.int .i64) p7), (.row 39), (.row 47), (.row 55)])), (23, (.box 25 [(.v (.int .i64) p8), (.v (.int .i64) p9), (.row 63), (.row 71), (.row 79)])), (31, (.row 74 (.pair (.int .i64) (.pair (.int .i64) (.int .i64))) p10 false)), (39, (.row 3 (.int .i64) p11 false)), (47, (.row 74 (.pair (.int .i64) (.pair (.int .i64) (.int .i64))) p12 false)), (55, (.row 3 (.int .i64) p13 false)), (63, (.row 3 (.int .i64) p14 false)), (71, (.row 74 (.pair (.int .i64) (.pair (.int .i64) (.int .i64))) p15 false)), (79, (.row 3 (.int .i64) p16 false))])
noncomputable def ancepsref07_ascending.l2 (p0 : (List Int)) (p1 : Int) (p2 : Int) : Option (Bool × Unit) := Go.Proofs.R.loopAt Go.Proofs.C07.ctx (Go.Proofs.R.Einf Go.Proofs.C07.ctx) 44 2 (.mk [(0, (.one (.v (.sl (.int .i64)) p0))), (1, (.one (.v (.int .i64) p1))), (5, (.one (.v (.int .i64) p2)))] [])
noncomputable def ancepsref07_ahead.f (p0 : Int) (p1 : Int) (p2 : Int) (p3 : Int) (p4 : Int) (p5 : Int) : Option (Bool × Unit) := (Go.Proofs.R.Einf Go.Proofs.C07.ctx).call 45 [(.agg [(.v (.int .i64) p0), (.v (.int .i64) p1), (.v (.int .i64) p2)]), (.agg [(.v (.int .i64) p3), (.v (.int .i64) p4), (.v (.int .i64) p5)])]
noncomputable def nondet_open.l3 (p0 : (List (Int × (Int × Int)))) (p1 : Int) (p2 : Int) (p3 : Int) (p4 : Int) (p5 : Int) (p6 : Int) (p7 : (List Int)) (p8 : (List (Int × (Int × Int)))) (p9 : (List Int)) (p10 : (List Int)) (p11 : (List (Int × (Int × Int)))) (p12 : (List Int)) (p13 : (List (List (Int × (Int × Int))))) (p14 : (List (List (Int × (Int × Int))))) : Option (Int × (Int × ((List Int) × ((List (Int × (Int × Int))) × ((List Int) × ((List (List (Int × (Int × Int)))) × Unit)))))) := Go.Proofs.R.loopAt Go.Proofs.C07.ctx (Go.Proofs.R.Einf Go.Proofs.C07.ctx) 46 3 (.mk [(2, (.one (.ref 7 0))), (3, (.one (.ref 15 0))), (12, (.one (.v (.sl (.pair (.int .i64) (.pair (.int .i64) (.int .i64)))) p0))), (13, (.one (.v (.int .i64) p1))), (14, (.one (.v (.int .i64) p2)))] [(7, (.box 78 [(.v (.int .i64) p3), (.v (.int .i64) p4), (.row 23), (.row 31), (.row 39), (.row 47)])), (15, (.box 78 [(.v (.int .i64) p5), (.v (.int .i64) p6), (.v (.sl (.int .i64)) p7), (.v (.sl (.pair (.int .i64) (.pair (.int .i64) (.int .i64)))) p8), (.v (.sl (.int .i64)) p9), (.row 55)])), (23, (.row 3 (.int .i64) p10 false)), (31, (.row 74 (.pair (.int .i64) (.pair (.int .i64) (.int .i64))) p11 false)), (39, (.row 3 (.int .i64) p12 false)), (47, (.row 23 (.sl (.pair (.int .i64) (.pair (.int .i64) (.int .i64)))) p13 false)), (55, (.rows 23 74 (.pair (.int .i64) (.pair (.int .i64) (.int .i64))) p14 .full))])
noncomputable def nondet_graph_closure.l4 (p0 : Int) (p1 : Int) (p2 : Int) (p3 : Int) (p4 : (List Int)) (p5 : (List (Int × (Int × Int)))) (p6 : (List Int)) (p7 : (List (List (Int × (Int × Int))))) (p8 : (List Bool)) (p9 : (List Int)) : Option ((List Bool) × Unit) := Go.Proofs.R.loopAt Go.Proofs.C07.ctx (Go.Proofs.R.Einf Go.Proofs.C07.ctx) 47 4 (.mk [(2, (.one (.ref 7 0))), (5, (.one (.row 15))), (6, (.one (.row 23))), (18, (.one (.row 23))), (19, (.one (.v (.int .i64) p0))), (20, (.one (.v (.int .i64) p1)))] [(7, (.box 78 [(.v (.int .i64) p2), (.v (.int .i64) p3), (.v (.sl (.int .i64)) p4), (.v (.sl (.pair (.int .i64) (.pair (.int .i64) (.int .i64)))) p5), (.v (.sl (.int .i64)) p6), (.v (.sl (.sl (.pair (.int .i64) (.pair (.int .i64) (.int .i64))))) p7)])), (15, (.row 4 .bool p8 false)), (23, (.row 3 (.int .i64) p9 false))])
noncomputable def automaton_minimal.f (p0 : Int) (p1 : Int) (p2 : (List (List Int))) (p3 : (List Bool)) : Option (Int × (Int × ((List (List Int)) × ((List Bool) × Unit)))) := (Go.Proofs.R.Einf Go.Proofs.C07.ctx).call 78 [(.agg [(.v (.int .i64) p0), (.v (.int .i64) p1), (.v (.sl (.sl (.int .i64))) p2), (.v (.sl .bool) p3)])]
noncomputable def nondet_set_key.l3 (p0 : (List Bool)) (p1 : Int) (p2 : Int) (p3 : (List Int)) : Option (ByteArray × Unit) := Go.Proofs.R.loopAt Go.Proofs.C07.ctx (Go.Proofs.R.Einf Go.Proofs.C07.ctx) 49 3 (.mk [(3, (.one (.ref 7 0))), (7, (.one (.v (.sl .bool) p0))), (8, (.one (.v (.int .i64) p1))), (9, (.one (.v (.int .i64) p2)))] [(7, (.box 106 [.nilp, (.row 15)])), (15, (.row 5 (.int .u8) p3 false))])
noncomputable def nondet_Determine.l17 (p0 : Int) (p1 : Int) (p2 : Int) (p3 : Int) (p4 : Int) (p5 : (List Int)) (p6 : (List (Int × (Int × Int)))) (p7 : (List Int)) (p8 : Int) (p9 : Int) (p10 : Int) (p11 : Int) (p12 : (List Int)) (p13 : (List (Int × (Int × Int)))) (p14 : (List Int)) (p15 : (List (List (Int × (Int × Int))))) (p16 : Int) (p17 : Int) (p18 : (List (ByteArray × Int))) (p19 : (List (List Bool))) (p20 : (List Int)) (p21 : (List (List Int))) (p22 : (List Bool)) (p23 : (List (List Int))) (p24 : (List Bool)) : Option (Int × (Int × ((List (List Int)) × ((List Bool) × (Int × Unit))))) := Go.Proofs.R.loopAt Go.Proofs.C07.ctx (Go.Proofs.R.Einf Go.Proofs.C07.ctx) 14 17 (.mk [(1, (.one (.ref 7 0))), (2, (.one (.ref 15 0))), (5, (.one (.ref 23 0))), (6, (.one (.ref 31 0))), (8, (.one (.mp 39))), (9, (.one (.row 47))), (10, (.one (.v (.int .i64) p0))), (11, (.one (.row 55))), (56, (.one (.v (.int .i64) p1))), (57, (.one (.v (.int .i64) p2)))] [(7, (.box 25 [(.v (.int .i64) p3), (.v (.int .i64) p4), (.v (.sl (.int .i64)) p5), (.v (.sl (.pair (.int .i64) (.pair (.int .i64) (.int .i64)))) p6), (.v (.sl (.int .i64)) p7)])), (15, (.box 34 [(.v (.int .i64) p8), (.v (.int .i64) p9), (.row 63), (.row 71)])), (23, (.box 78 [(.v (.int .i64) p10), (.v (.int .i64) p11), (.v (.sl (.int .i64)) p12), (.v (.sl (.pair (.int .i64) (.pair (.int .i64) (.int .i64)))) p13), (.v (.sl (.int .i64)) p14), (.v (.sl (.sl (.pair (.int .i64) (.pair (.int .i64) (.int .i64))))) p15)])), (31, (.box 34 [(.v (.int .i64) p16), (.v (.int .i64) p17), (.row 79), (.row 87)])), (39, (.mp 9 3 .str (.int .i64) p18)), (47, (.row 80 (.sl .bool) p19 false)), (55, (.row 3 (.int .i64) p20 false)), (63, (.row 22 (.sl (.int .i64)) p21 false)), (71, (.row 4 .bool p22 false)), (79, (.row 22 (.sl (.int .i64)) p23 false)), (87, (.row 4 .bool p24 false))])
noncomputable def ancepsref06_Equal.f (p0 : (List Int)) (p1 : (List Int)) : Option (Bool × Unit) := (Go.Proofs.R.Einf Go.Proofs.C07.ctx).call 58 [(.one (.v (.sl (.int .i64)) p0)), (.one (.v (.sl (.int .i64)) p1))]
noncomputable def ancepsref06_SameDFA.l9 (p0 : Int) (p1 : Int) (p2 : Int) (p3 : (List (List Int))) (p4 : (List Bool)) (p5 : Int) (p6 : Int) (p7 : (List (List Int))) (p8 : (List Bool)) : Option (Bool × Unit) := Go.Proofs.R.loopAt Go.Proofs.C07.ctx (Go.Proofs.R.Einf Go.Proofs.C07.ctx) 17 9 (.mk [(2, (.one (.ref 7 0))), (3, (.one (.ref 15 0))), (6, (.one (.v (.int .i64) p0)))] [(7, (.box 34 [(.v (.int .i64) p1), (.v (.int .i64) p2), (.v (.sl (.sl (.int .i64))) p3), (.v (.sl .bool) p4)])), (15, (.box 34 [(.v (.int .i64) p5), (.v (.int .i64) p6), (.v (.sl (.sl (.int .i64))) p7), (.v (.sl .bool) p8)]))])
noncomputable def nondet_graph_step.f (p0 : Int) (p1 : Int) (p2 : (List Int)) (p3 : (List (Int × (Int × Int)))) (p4 : (List Int)) (p5 : (List (List (Int × (Int × Int))))) (p6 : (List Bool)) (p7 : Int) : Option ((List Bool) × Unit) := (Go.Proofs.R.Einf Go.Proofs.C07.ctx).call 50 [(.agg [(.v (.int .i64) p0), (.v (.int .i64) p1), (.v (.sl (.int .i64)) p2), (.v (.sl (.pair (.int .i64) (.pair (.int .i64) (.int .i64)))) p3), (.v (.sl (.int .i64)) p4), (.v (.sl (.sl (.pair (.int .i64) (.pair (.int .i64) (.int .i64))))) p5)]), (.one (.v (.sl .bool) p6)), (.one (.v (.int .i64) p7))]
noncomputable def nondet_graph_accepts.f (p0 : Int) (p1 : Int) (p2 : (List Int)) (p3 : (List (Int × (Int × Int)))) (p4 : (List Int)) (p5 : (List (List (Int × (Int × Int))))) (p6 : (List Bool)) : Option (Bool × Unit) := (Go.Proofs.R.Einf Go.Proofs.C07.ctx).call 52 [(.agg [(.v (.int .i64) p0), (.v (.int .i64) p1), (.v (.sl (.int .i64)) p2), (.v (.sl (.pair (.int .i64) (.pair (.int .i64) (.int .i64)))) p3), (.v (.sl (.int .i64)) p4), (.v (.sl (.sl (.pair (.int .i64) (.pair (.int .i64) (.int .i64))))) p5)]), (.one (.v (.sl .bool) p6))]
noncomputable def nondet_set_list.l3 (p0 : (List Bool)) (p1 : Int) (p2 : Int) (p3 : (List Int)) : Option ((List Int) × Unit) := Go.Proofs.R.loopAt Go.Proofs.C07.ctx (Go.Proofs.R.Einf Go.Proofs.C07.ctx) 63 3 (.mk [(3, (.one (.row 7))), (6, (.one (.v (.sl .bool) p0))), (7, (.one (.v (.int .i64) p1))), (8, (.one (.v (.int .i64) p2)))] [(7, (.row 3 (.int .i64) p3 false))])
noncomputable def nondet_ascends.l2 (p0 : (List Int)) (p1 : Int) (p2 : (List Int)) (p3 : Int) (p4 : Int) : Option (Bool × Unit) := Go.Proofs.R.loopAt Go.Proofs.C07.ctx (Go.Proofs.R.Einf Go.Proofs.C07.ctx) 64 2 (.mk [(0, (.one (.v (.sl (.int .i64)) p0))), (1, (.one (.v (.int .i64) p1))), (7, (.one (.v (.sl (.int .i64)) p2))), (8, (.one (.v (.int .i64) p3))), (9, (.one (.v (.int .i64) p4)))] [])
noncomputable def automaton_Valid.l7 (p0 : (List (List Int))) (p1 : Int) (p2 : Int) (p3 : Int) (p4 : Int) (p5 : (List (List Int))) (p6 : (List Bool)) (p7 : Int) : Option (Int × Unit) := Go.Proofs.R.loopAt Go.Proofs.C07.ctx (Go.Proofs.R.Einf Go.Proofs.C07.ctx) 66 7 (.mk [(1, (.one (.ref 7 0))), (3, (.one (.ref 15 0))), (47, (.one (.v (.sl (.sl (.int .i64))) p0))), (48, (.one (.v (.int .i64) p1))), (49, (.one (.v (.int .i64) p2)))] [(7, (.box 34 [(.v (.int .i64) p3), (.v (.int .i64) p4), (.v (.sl (.sl (.int .i64))) p5), (.v (.sl .bool) p6)])), (15, (.box 3 [(.v (.int .i64) p7)]))])
noncomputable def nondet_Of.l11 (p0 : Int) (p1 : (List (List Int))) (p2 : Int) (p3 : Int) (p4 : (List Int)) (p5 : Int) (p6 : Int) (p7 : Int) (p8 : Int) (p9 : (List (List Int))) (p10 : (List Bool)) (p11 : Int) (p12 : Int) (p13 : Int) (p14 : Int) (p15 : (List Int)) (p16 : (List (Int × (Int × Int)))) (p17 : (List Int)) (p18 : (List Int)) (p19 : (List (Int × (Int × Int)))) (p20 : (List Int)) : Option (Int × (Int × ((List Int) × ((List (Int × (Int × Int))) × ((List Int) × (Int × Unit)))))) := Go.Proofs.R.loopAt Go.Proofs.C07.ctx (Go.Proofs.R.Einf Go.Proofs.C07.ctx) 29 11 (.mk [(1, (.one (.ref 7 0))), (2, (.one (.ref 15 0))), (5, (.one (.ref 23 0))), (6, (.one (.v (.int .i64) p0))), (30, (.one (.v (.sl (.sl (.int .i64))) p1))), (31, (.one (.v (.int .i64) p2))), (32, (.one (.v (.int .i64) p3))), (37, (.one (.v (.sl (.int .i64)) p4))), (38, (.one (.v (.int .i64) p5))), (39, (.one (.v (.int .i64) p6)))] [(7, (.box 34 [(.v (.int .i64) p7), (.v (.int .i64) p8), (.v (.sl (.sl (.int .i64))) p9), (.v (.sl .bool) p10)])), (15, (.box 25 [(.v (.int .i64) p11), (.v (.int .i64) p12), (.row 31), (.row 39), (.row 47)])), (23, (.box 25 [(.v (.int .i64) p13), (.v (.int .i64) p14), (.row 55), (.row 63), (.row 71)])), (31, (.row 3 (.int .i64) p15 false)), (39, (.row 74 (.pair (.int .i64) (.pair (.int .i64) (.int .i64))) p16 false)), (47, (.row 3 (.int .i64) p17 false)), (55, (.row 3 (.int .i64) p18 false)), (63, (.row 74 (.pair (.int .i64) (.pair (.int .i64) (.int .i64))) p19 false)), (71, (.row 3 (.int .i64) p20 false))])
noncomputable def ancepsref07_sorted.f (p0 : (List (Int × (Int × Int)))) : Option ((List (Int × (Int × Int))) × Unit) := (Go.Proofs.R.Einf Go.Proofs.C07.ctx).call 69 [(.one (.v (.sl (.pair (.int .i64) (.pair (.int .i64) (.int .i64)))) p0))]
noncomputable def cmp_Compare_int.f (p0 : Int) (p1 : Int) : Option (Int × Unit) := (Go.Proofs.R.Einf Go.Proofs.C07.ctx).call 87 [(.one (.v (.int .i64) p0)), (.one (.v (.int .i64) p1))]
noncomputable def cmp_Or_int.f (p0 : (List Int)) : Option (Int × Unit) := (Go.Proofs.R.Einf Go.Proofs.C07.ctx).call 86 [(.one (.v (.sl (.int .i64)) p0))]
noncomputable def ancepsref07_bits.l3 (p0 : Int) (p1 : Int) (p2 : Int) (p3 : (List Int)) : Option ((List Int) × Unit) := Go.Proofs.R.loopAt Go.Proofs.C07.ctx (Go.Proofs.R.Einf Go.Proofs.C07.ctx) 68 3 (.mk [(0, (.one (.v (.int .u8) p0))), (1, (.one (.v (.int .i64) p1))), (5, (.one (.row 7))), (6, (.one (.v (.int .i64) p2)))] [(7, (.row 3 (.int .i64) p3 false))])
noncomputable def nondet_graph_closure.l8 (p0 : Int) (p1 : Int) (p2 : (List Int)) (p3 : (List (Int × (Int × Int)))) (p4 : (List Int)) (p5 : (List (List (Int × (Int × Int))))) (p6 : (List Bool)) (p7 : (List Int)) : Option ((List Bool) × Unit) := Go.Proofs.R.loopAt Go.Proofs.C07.ctx (Go.Proofs.R.Einf Go.Proofs.C07.ctx) 47 8 (.mk [(2, (.one (.ref 7 0))), (5, (.one (.row 15))), (6, (.one (.row 23)))] [(7, (.box 78 [(.v (.int .i64) p0), (.v (.int .i64) p1), (.v (.sl (.int .i64)) p2), (.v (.sl (.pair (.int .i64) (.pair (.int .i64) (.int .i64)))) p3), (.v (.sl (.int .i64)) p4), (.v (.sl (.sl (.pair (.int .i64) (.pair (.int .i64) (.int .i64))))) p5)])), (15, (.row 4 .bool p6 false)), (23, (.row 3 (.int .i64) p7 false))])
noncomputable def automaton_classes.f (p0 : Int) (p1 : Int) (p2 : (List (List Int))) (p3 : (List Bool)) : Option ((List Int) × Unit) := (Go.Proofs.R.Einf Go.Proofs.C07.ctx).call 91 [(.agg [(.v (.int .i64) p0), (.v (.int .i64) p1), (.v (.sl (.sl (.int .i64))) p2), (.v (.sl .bool) p3)])]
noncomputable def automaton_minimal.l11 (p0 : Int) (p1 : Int) (p2 : Int) (p3 : (List (List Int))) (p4 : (List Bool)) (p5 : Int) (p6 : Int) (p7 : Int) (p8 : Int) (p9 : (List Int)) (p10 : (List (Int × Int))) (p11 : (List Int)) (p12 : (List (List Int))) (p13 : (List Bool)) (p14 : (List (List Int))) (p15 : (List Bool)) : Option (Int × (Int × ((List (List Int)) × ((List Bool) × Unit)))) := Go.Proofs.R.loopAt Go.Proofs.C07.ctx (Go.Proofs.R.Einf Go.Proofs.C07.ctx) 78 11 (.mk [(1, (.one (.ref 7 0))), (2, (.one (.ref 15 0))), (3, (.one (.ref 23 0))), (4, (.one (.row 31))), (5, (.one (.mp 39))), (6, (.one (.row 47))), (7, (.one (.v (.int .i64) p0)))] [(7, (.box 34 [(.v (.int .i64) p1), (.v (.int .i64) p2), (.v (.sl (.sl (.int .i64))) p3), (.v (.sl .bool) p4)])), (15, (.box 34 [(.v (.int .i64) p5), (.v (.int .i64) p6), (.row 55), (.row 63)])), (23, (.box 34 [(.v (.int .i64) p7), (.v (.int .i64) p8), (.row 71), (.row 79)])), (31, (.row 3 (.int .i64) p9 false)), (39, (.mp 3 3 (.int .i64) (.int .i64) p10)), (47, (.row 3 (.int .i64) p11 false)), (55, (.row 22 (.sl (.int .i64)) p12 false)), (63, (.row 4 .bool p13 false)), (71, (.row 22 (.sl (.int .i64)) p14 false)), (79, (.row 4 .bool p15 false))])
noncomputable def nondet_set_key.l3_1 (p0 : (List Bool)) (p1 : Int) (p2 : Int) (p3 : (List Int)) : Option (ByteArray × Unit) := Go.Proofs.R.loopAt Go.Proofs.C07.ctx (Go.Proofs.R.Einf Go.Proofs.C07.ctx) 49 3 (.mk [(3, (.one (.ref 7 0))), (7, (.one (.v (.sl .bool) p0))), (8, (.one (.v (.int .i64) p1))), (9, (.one (.v (.int .i64) p2)))] [(7, (.box 106 [(.ref 7 0), (.row 15)])), (15, (.row 5 (.int .u8) p3 false))])
noncomputable def nondet_set_bool.f (p0 : (List Bool)) (p1 : Bool) : Option (Bool × Unit) := (Go.Proofs.R.Einf Go.Proofs.C07.ctx).call 51 [(.one (.v (.sl .bool) p0)), (.one (.v .bool p1))]
noncomputable def ancepsref06_Equal.l4 (p0 : (List Int)) (p1 : (List Int)) (p2 : Int) : Option (Bool × Unit) := Go.Proofs.R.loopAt Go.Proofs.C07.ctx (Go.Proofs.R.Einf Go.Proofs.C07.ctx) 58 4 (.mk [(0, (.one (.v (.sl (.int .i64)) p0))), (1, (.one (.v (.sl (.int .i64)) p1))), (5, (.one (.v (.int .i64) p2)))] [])
noncomputable def nondet_graph_step.l3 (p0 : Int) (p1 : Int) (p2 : Int) (p3 : Int) (p4 : Int) (p5 : (List Int)) (p6 : (List (Int × (Int × Int)))) (p7 : (List Int)) (p8 : (List (List (Int × (Int × Int))))) (p9 : (List Int)) (p10 : (List Int)) : Option ((List Bool) × Unit) := Go.Proofs.R.loopAt Go.Proofs.C07.ctx (Go.Proofs.R.Einf Go.Proofs.C07.ctx) 50 3 (.mk [(2, (.one (.v (.int .i64) p0))), (3, (.one (.ref 7 0))), (7, (.one (.row 15))), (13, (.one (.row 23))), (14, (.one (.v (.int .i64) p1))), (15, (.one (.v (.int .i64) p2)))] [(7, (.box 78 [(.v (.int .i64) p3), (.v (.int .i64) p4), (.v (.sl (.int .i64)) p5), (.v (.sl (.pair (.int .i64) (.pair (.int .i64) (.int .i64)))) p6), (.v (.sl (.int .i64)) p7), (.v (.sl (.sl (.pair (.int .i64) (.pair (.int .i64) (.int .i64))))) p8)])), (15, (.row 3 (.int .i64) p9 false)), (23, (.row 3 (.int .i64) p10 false))])
noncomputable def slices_ContainsFunc_int_int.f2 (p0 : (List Int)) (p1 : (List Bool)) : Option (Bool × Unit) := (Go.Proofs.R.Einf Go.Proofs.C07.ctx).call 59 [(.one (.v (.sl (.int .i64)) p0)), (.one (.clo 82 [(.pref [(.v (.sl .bool) p1)] 0)]))]
noncomputable def slices_ContainsFunc_int_int.f3 (p0 : (List Int)) (p1 : Int) : Option (Bool × Unit) := (Go.Proofs.R.Einf Go.Proofs.C07.ctx).call 59 [(.one (.v (.sl (.int .i64)) p0)), (.one (.clo 88 [(.pref [(.v (.int .i64) p1)] 0)]))]
noncomputable def ancepsref07_sorted.l3 (p0 : (List (Int × (Int × Int)))) (p1 : Int) (p2 : (List (Int × (Int × Int)))) : Option ((List (Int × (Int × Int))) × Unit) := Go.Proofs.R.loopAt Go.Proofs.C07.ctx (Go.Proofs.R.Einf Go.Proofs.C07.ctx) 69 3 (.mk [(0, (.one (.v (.sl (.pair (.int .i64) (.pair (.int .i64) (.int .i64)))) p0))), (3, (.one (.row 7))), (4, (.one (.v (.int .i64) p1)))] [(7, (.row 74 (.pair (.int .i64) (.pair (.int .i64) (.int .i64))) p2 false))])
noncomputable def cmp_isNaN_int.f (p0 : Int) : Option (Bool × Unit) := (Go.Proofs.R.Einf Go.Proofs.C07.ctx).call 94 [(.one (.v (.int .i64) p0))]
noncomputable def cmp_Or_int.l3 (p0 : Int) (p1 : (List Int)) (p2 : Int) (p3 : Int) : Option (Int × Unit) := Go.Proofs.R.loopAt Go.Proofs.C07.ctx (Go.Proofs.R.Einf Go.Proofs.C07.ctx) 86 3 (.mk [(3, (.one (.v (.int .i64) p0))), (6, (.one (.v (.sl (.int .i64)) p1))), (7, (.one (.v (.int .i64) p2))), (8, (.one (.v (.int .i64) p3)))] [])
noncomputable def nondet_graph_closure.l12 (p0 : (List (Int × (Int × Int)))) (p1 : Int) (p2 : Int) (p3 : Int) (p4 : Int) (p5 : (List Int)) (p6 : (List (Int × (Int × Int)))) (p7 : (List Int)) (p8 : (List (List (Int × (Int × Int))))) (p9 : (List Bool)) (p10 : (List Int)) : Option ((List Bool) × Unit) := Go.Proofs.R.loopAt Go.Proofs.C07.ctx (Go.Proofs.R.Einf Go.Proofs.C07.ctx) 47 12 (.mk [(2, (.one (.ref 7 0))), (5, (.one (.row 15))), (6, (.one (.row 23))), (46, (.one (.v (.sl (.pair (.int .i64) (.pair (.int .i64) (.int .i64)))) p0))), (47, (.one (.v (.int .i64) p1))), (48, (.one (.v (.int .i64) p2)))] [(7, (.box 78 [(.v (.int .i64) p3), (.v (.int .i64) p4), (.v (.sl (.int .i64)) p5), (.v (.sl (.pair (.int .i64) (.pair (.int .i64) (.int .i64)))) p6), (.v (.sl (.int .i64)) p7), (.v (.sl (.sl (.pair (.int .i64) (.pair (.int .i64) (.int .i64))))) p8)])), (15, (.row 4 .bool p9 false)), (23, (.row 3 (.int .i64) p10 false))])
noncomputable def automaton_useful.f (p0 : Int) (p1 : Int) (p2 : (List (List Int))) (p3 : (List Bool)) : Option ((List Bool) × Unit) := (Go.Proofs.R.Einf Go.Proofs.C07.ctx).call 99 [(.agg [(.v (.int .i64) p0), (.v (.int .i64) p1), (.v (.sl (.sl (.int .i64))) p2), (.v (.sl .bool) p3)])]
noncomputable def automaton_classes.l4 (p0 : Int) (p1 : Int) (p2 : Int) (p3 : Int) (p4 : (List (List Int))) (p5 : (List Bool)) (p6 : (List Bool)) (p7 : (List Int)) : Option ((List Int) × Unit) := Go.Proofs.R.loopAt Go.Proofs.C07.ctx (Go.Proofs.R.Einf Go.Proofs.C07.ctx) 91 4 (.mk [(1, (.one (.ref 7 0))), (3, (.one (.row 15))), (4, (.one (.row 23))), (21, (.one (.v (.int .i64) p0))), (22, (.one (.v (.int .i64) p1)))] [(7, (.box 34 [(.v (.int .i64) p2), (.v (.int .i64) p3), (.v (.sl (.sl (.int .i64))) p4), (.v (.sl .bool) p5)])), (15, (.row 4 .bool p6 false)), (23, (.row 3 (.int .i64) p7 false))])
noncomputable def automaton_minimal.l16 (p0 : Int) (p1 : Int) (p2 : (List Int)) (p3 : Int) (p4 : Int) (p5 : Int) (p6 : Int) (p7 : (List (List Int))) (p8 : (List Bool)) (p9 : Int) (p10 : Int) (p11 : Int) (p12 : Int) (p13 : (List Int)) (p14 : (List (Int × Int))) (p15 : (List Int)) (p16 : (List Int)) (p17 : (List (List Int))) (p18 : (List Bool)) (p19 : (List (List Int))) (p20 : (List Bool)) : Option (Int × (Int × ((List (List Int)) × ((List Bool) × Unit)))) := Go.Proofs.R.loopAt Go.Proofs.C07.ctx (Go.Proofs.R.Einf Go.Proofs.C07.ctx) 78 16 (.mk [(1, (.one (.ref 7 0))), (2, (.one (.ref 15 0))), (3, (.one (.ref 23 0))), (4, (.one (.row 31))), (5, (.one (.mp 39))), (6, (.one (.row 47))), (7, (.one (.v (.int .i64) p0))), (8, (.one (.v (.int .i64) p1))), (9, (.one (.row 55))), (58, (.one (.v (.sl (.int .i64)) p2))), (59, (.one (.v (.int .i64) p3))), (60, (.one (.v (.int .i64) p4)))] [(7, (.box 34 [(.v (.int .i64) p5), (.v (.int .i64) p6), (.v (.sl (.sl (.int .i64))) p7), (.v (.sl .bool) p8)])), (15, (.box 34 [(.v (.int .i64) p9), (.v (.int .i64) p10), (.row 63), (.row 71)])), (23, (.box 34 [(.v (.int .i64) p11), (.v (.int .i64) p12), (.row 79), (.row 87)])), (31, (.row 3 (.int .i64) p13 false)), (39, (.mp 3 3 (.int .i64) (.int .i64) p14)), (47, (.row 3 (.int .i64) p15 false)), (55, (.row 3 (.int .i64) p16 false)), (63, (.row 22 (.sl (.int .i64)) p17 false)), (71, (.row 4 .bool p18 false)), (79, (.row 22 (.sl (.int .i64)) p19 false)), (87, (.row 4 .bool p20 false))])
noncomputable def nondet_set_bool_81.f (p0 : (List Bool)) (p1 : Bool) : Option (Int × Unit) := (Go.Proofs.R.Einf Go.Proofs.C07.ctx).call 81 [(.one (.v (.sl .bool) p0)), (.one (.v .bool p1))]
noncomputable def nondet_graph_step.l6 (p0 : Int) (p1 : Int) (p2 : Int) (p3 : (List (Int × (Int × Int)))) (p4 : Int) (p5 : Int) (p6 : Int) (p7 : Int) (p8 : (List Int)) (p9 : (List (Int × (Int × Int)))) (p10 : (List Int)) (p11 : (List (List (Int × (Int × Int))))) (p12 : (List Int)) (p13 : (List Int)) : Option ((List Bool) × Unit) := Go.Proofs.R.loopAt Go.Proofs.C07.ctx (Go.Proofs.R.Einf Go.Proofs.C07.ctx) 50 6 (.mk [(2, (.one (.v (.int .i64) p0))), (3, (.one (.ref 7 0))), (7, (.one (.row 15))), (13, (.one (.row 23))), (14, (.one (.v (.int .i64) p1))), (15, (.one (.v (.int .i64) p2))), (23, (.one (.v (.sl (.pair (.int .i64) (.pair (.int .i64) (.int .i64)))) p3))), (24, (.one (.v (.int .i64) p4))), (25, (.one (.v (.int .i64) p5)))] [(7, (.box 78 [(.v (.int .i64) p6), (.v (.int .i64) p7), (.v (.sl (.int .i64)) p8), (.v (.sl (.pair (.int .i64) (.pair (.int .i64) (.int .i64)))) p9), (.v (.sl (.int .i64)) p10), (.v (.sl (.sl (.pair (.int .i64) (.pair (.int .i64) (.int .i64))))) p11)])), (15, (.row 3 (.int .i64) p12 false)), (23, (.row 3 (.int .i64) p13 false))])
noncomputable def slices_IndexFunc_int_int.f2 (p0 : (List Int)) (p1 : (List Bool)) : Option (Int × Unit) := (Go.Proofs.R.Einf Go.Proofs.C07.ctx).call 84 [(.one (.v (.sl (.int .i64)) p0)), (.one (.clo 82 [(.pref [(.v (.sl .bool) p1)] 0)]))]
noncomputable def slices_IndexFunc_int_int.f3 (p0 : (List Int)) (p1 : Int) : Option (Int × Unit) := (Go.Proofs.R.Einf Go.Proofs.C07.ctx).call 84 [(.one (.v (.sl (.int .i64)) p0)), (.one (.clo 88 [(.pref [(.v (.int .i64) p1)] 0)]))]
noncomputable def ancepsref07_sorted.l6 (p0 : (List (Int × (Int × Int)))) (p1 : Int) (p2 : Int) (p3 : (List (Int × (Int × Int)))) : Option ((List (Int × (Int × Int))) × Unit) := Go.Proofs.R.loopAt Go.Proofs.C07.ctx (Go.Proofs.R.Einf Go.Proofs.C07.ctx) 69 6 (.mk [(0, (.one (.v (.sl (.pair (.int .i64) (.pair (.int .i64) (.int .i64)))) p0))), (3, (.one (.row 7))), (4, (.one (.v (.int .i64) p1))), (5, (.one (.v (.int .i64) p2)))] [(7, (.row 74 (.pair (.int .i64) (.pair (.int .i64) (.int .i64))) p3 false))])
noncomputable def automaton_useful.l3 (p0 : (List (List Int))) (p1 : Int) (p2 : Int) (p3 : Int) (p4 : Int) (p5 : (List (List Int))) (p6 : (List Bool)) (p7 : (List (List Int))) : Option ((List Bool) × Unit) := Go.Proofs.R.loopAt Go.Proofs.C07.ctx (Go.Proofs.R.Einf Go.Proofs.C07.ctx) 99 3 (.mk [(1, (.one (.ref 7 0))), (3, (.one (.row 15))), (20, (.one (.v (.sl (.sl (.int .i64))) p0))), (21, (.one (.v (.int .i64) p1))), (22, (.one (.v (.int .i64) p2)))] [(7, (.box 34 [(.v (.int .i64) p3), (.v (.int .i64) p4), (.v (.sl (.sl (.int .i64))) p5), (.v (.sl .bool) p6)])), (15, (.rows 22 3 (.int .i64) p7 .full))])
noncomputable def automaton_classes.l12 (p0 : Int) (p1 : Int) (p2 : Int) (p3 : (List (List Int))) (p4 : (List Bool)) (p5 : (List Int)) : Option ((List Int) × Unit) := Go.Proofs.R.loopAt Go.Proofs.C07.ctx (Go.Proofs.R.Einf Go.Proofs.C07.ctx) 91 12 (.mk [(1, (.one (.ref 7 0))), (4, (.one (.row 15))), (6, (.one (.v (.int .i64) p0)))] [(7, (.box 34 [(.v (.int .i64) p1), (.v (.int .i64) p2), (.v (.sl (.sl (.int .i64))) p3), (.v (.sl .bool) p4)])), (15, (.row 3 (.int .i64) p5 false))])
noncomputable def nondet_set_bool_81.l2 (p0 : (List Bool)) (p1 : Bool) (p2 : Int) (p3 : Int) : Option (Int × Unit) := Go.Proofs.R.loopAt Go.Proofs.C07.ctx (Go.Proofs.R.Einf Go.Proofs.C07.ctx) 81 2 (.mk [(0, (.one (.v (.sl .bool) p0))), (1, (.one (.v .bool p1))), (7, (.one (.v (.int .i64) p2))), (8, (.one (.v (.int .i64) p3)))] [])
noncomputable def slices_IndexFunc_int_int.l2_2 (p0 : (List Int)) (p1 : (List Bool)) (p2 : Int) (p3 : Int) : Option (Int × Unit) := Go.Proofs.R.loopAt Go.Proofs.C07.ctx (Go.Proofs.R.Einf Go.Proofs.C07.ctx) 84 2 (.mk [(0, (.one (.v (.sl (.int .i64)) p0))), (1, (.one (.clo 82 [(.pref [(.v (.sl .bool) p1)] 0)]))), (7, (.one (.v (.int .i64) p2))), (8, (.one (.v (.int .i64) p3)))] [])
noncomputable def slices_IndexFunc_int_int.l2_3 (p0 : (List Int)) (p1 : Int) (p2 : Int) (p3 : Int) : Option (Int × Unit) := Go.Proofs.R.loopAt Go.Proofs.C07.ctx (Go.Proofs.R.Einf Go.Proofs.C07.ctx) 84 2 (.mk [(0, (.one (.v (.sl (.int .i64)) p0))), (1, (.one (.clo 88 [(.pref [(.v (.int .i64) p1)] 0)]))), (7, (.one (.v (.int .i64) p2))), (8, (.one (.v (.int .i64) p3)))] [])
noncomputable def ancepsref07_sorted.l11 (p0 : (List (Int × (Int × Int)))) (p1 : Int) (p2 : Int) (p3 : Int) (p4 : (List (Int × (Int × Int)))) : Option ((List (Int × (Int × Int))) × Unit) := Go.Proofs.R.loopAt Go.Proofs.C07.ctx (Go.Proofs.R.Einf Go.Proofs.C07.ctx) 69 11 (.mk [(0, (.one (.v (.sl (.pair (.int .i64) (.pair (.int .i64) (.int .i64)))) p0))), (3, (.one (.row 7))), (4, (.one (.v (.int .i64) p1))), (5, (.one (.v (.int .i64) p2))), (6, (.one (.v (.int .i64) p3)))] [(7, (.row 74 (.pair (.int .i64) (.pair (.int .i64) (.int .i64))) p4 false))])
noncomputable def automaton_useful.l6 (p0 : Int) (p1 : (List (List Int))) (p2 : Int) (p3 : Int) (p4 : (List Int)) (p5 : Int) (p6 : Int) (p7 : Int) (p8 : Int) (p9 : (List (List Int))) (p10 : (List Bool)) (p11 : (List (List Int))) : Option ((List Bool) × Unit) := Go.Proofs.R.loopAt Go.Proofs.C07.ctx (Go.Proofs.R.Einf Go.Proofs.C07.ctx) 99 6 (.mk [(1, (.one (.ref 7 0))), (3, (.one (.row 15))), (4, (.one (.v (.int .i64) p0))), (20, (.one (.v (.sl (.sl (.int .i64))) p1))), (21, (.one (.v (.int .i64) p2))), (22, (.one (.v (.int .i64) p3))), (27, (.one (.v (.sl (.int .i64)) p4))), (28, (.one (.v (.int .i64) p5))), (29, (.one (.v (.int .i64) p6)))] [(7, (.box 34 [(.v (.int .i64) p7), (.v (.int .i64) p8), (.v (.sl (.sl (.int .i64))) p9), (.v (.sl .bool) p10)])), (15, (.rows 22 3 (.int .i64) p11 .full))])
noncomputable def automaton_useful.l15 (p0 : (List Bool)) (p1 : Int) (p2 : Int) (p3 : (List (List Int))) (p4 : (List Bool)) (p5 : (List Int)) : Option ((List Bool) × Unit) := Go.Proofs.R.loopAt Go.Proofs.C07.ctx (Go.Proofs.R.Einf Go.Proofs.C07.ctx) 99 15 (.mk [(3, (.one (.row 7))), (8, (.one (.row 15))), (9, (.one (.row 23))), (52, (.one (.v (.sl .bool) p0))), (53, (.one (.v (.int .i64) p1))), (54, (.one (.v (.int .i64) p2)))] [(7, (.rows 22 3 (.int .i64) p3 .full)), (15, (.row 4 .bool p4 false)), (23, (.row 3 (.int .i64) p5 false))])
noncomputable def automaton_classes.l15 (p0 : Int) (p1 : (List (List Int))) (p2 : Int) (p3 : Int) (p4 : Int) (p5 : Int) (p6 : (List (List Int))) (p7 : (List Bool)) (p8 : (List Int)) (p9 : (List ((List Int) × Int))) (p10 : (List Int)) : Option ((List Int) × Unit) := Go.Proofs.R.loopAt Go.Proofs.C07.ctx (Go.Proofs.R.Einf Go.Proofs.C07.ctx) 91 15 (.mk [(1, (.one (.ref 7 0))), (4, (.one (.row 15))), (6, (.one (.v (.int .i64) p0))), (7, (.one (.mp 23))), (8, (.one (.row 31))), (46, (.one (.v (.sl (.sl (.int .i64))) p1))), (47, (.one (.v (.int .i64) p2))), (48, (.one (.v (.int .i64) p3)))] [(7, (.box 34 [(.v (.int .i64) p4), (.v (.int .i64) p5), (.v (.sl (.sl (.int .i64))) p6), (.v (.sl .bool) p7)])), (15, (.row 3 (.int .i64) p8 false)), (23, (.mp 126 3 (.arr 9 (.int .i64)) (.int .i64) p9)), (31, (.row 3 (.int .i64) p10 false))])
noncomputable def nondet_graph_accepts_1.f (p0 : Int) (p1 : (List Bool)) : Option (Bool × Unit) := (Go.Proofs.R.Einf Go.Proofs.C07.ctx).call 82 [(.one (.v (.int .i64) p0)), (.one (.pref [(.v (.sl .bool) p1)] 0))]
noncomputable def automaton_Valid_1.f (p0 : Int) (p1 : Int) : Option (Bool × Unit) := (Go.Proofs.R.Einf Go.Proofs.C07.ctx).call 88 [(.one (.v (.int .i64) p0)), (.one (.pref [(.v (.int .i64) p1)] 0))]
noncomputable def automaton_useful.l21 (p0 : (List (List Int))) (p1 : (List Bool)) (p2 : (List Int)) : Option ((List Bool) × Unit) := Go.Proofs.R.loopAt Go.Proofs.C07.ctx (Go.Proofs.R.Einf Go.Proofs.C07.ctx) 99 21 (.mk [(3, (.one (.row 7))), (8, (.one (.row 15))), (9, (.one (.row 23)))] [(7, (.rows 22 3 (.int .i64) p0 .full)), (15, (.row 4 .bool p1 false)), (23, (.row 3 (.int .i64) p2 false))])
noncomputable def automaton_classes.l20 (p0 : Int) (p1 : Int) (p2 : (List (List Int))) (p3 : Int) (p4 : Int) (p5 : (List Int)) (p6 : Int) (p7 : Int) (p8 : Int) (p9 : Int) (p10 : (List (List Int))) (p11 : (List Bool)) (p12 : (List Int)) (p13 : (List ((List Int) × Int))) (p14 : (List Int)) (p15 : (List Int)) : Option ((List Int) × Unit) := Go.Proofs.R.loopAt Go.Proofs.C07.ctx (Go.Proofs.R.Einf Go.Proofs.C07.ctx) 91 20 (.mk [(1, (.one (.ref 7 0))), (4, (.one (.row 15))), (6, (.one (.v (.int .i64) p0))), (7, (.one (.mp 23))), (8, (.one (.row 31))), (9, (.one (.v (.int .i64) p1))), (11, (.one (.ref 39 0))), (46, (.one (.v (.sl (.sl (.int .i64))) p2))), (47, (.one (.v (.int .i64) p3))), (48, (.one (.v (.int .i64) p4))), (63, (.one (.v (.sl (.int .i64)) p5))), (64, (.one (.v (.int .i64) p6))), (65, (.one (.v (.int .i64) p7)))] [(7, (.box 34 [(.v (.int .i64) p8), (.v (.int .i64) p9), (.v (.sl (.sl (.int .i64))) p10), (.v (.sl .bool) p11)])), (15, (.row 3 (.int .i64) p12 false)), (23, (.mp 126 3 (.arr 9 (.int .i64)) (.int .i64) p13)), (31, (.row 3 (.int .i64) p14 false)), (39, (.box 126 [(.v (.arr 9 (.int .i64)) p15)]))])
noncomputable def automaton_useful.l25 (p0 : (List Int)) (p1 : Int) (p2 : Int) (p3 : (List (List Int))) (p4 : (List Bool)) (p5 : (List Int)) : Option ((List Bool) × Unit) := Go.Proofs.R.loopAt Go.Proofs.C07.ctx (Go.Proofs.R.Einf Go.Proofs.C07.ctx) 99 25 (.mk [(3, (.one (.row 7))), (8, (.one (.row 15))), (9, (.one (.row 23))), (79, (.one (.v (.sl (.int .i64)) p0))), (80, (.one (.v (.int .i64) p1))), (81, (.one (.v (.int .i64) p2)))] [(7, (.rows 22 3 (.int .i64) p3 .full)), (15, (.row 4 .bool p4 false)), (23, (.row 3 (.int .i64) p5 false))])
theorem ancepslaw07_NondetTwice.f_eq (p0 : Int) (p1 : Int) (p2 : Int) (p3 : Int) (p4 : (List (List Int))) : ancepslaw07_NondetTwice.f p0 p1 p2 p3 p4 =
  bindD (ancepslaw07_awake.f) fun t167 =>
  ifB (!t167.1)
   (some (false, ()))
  (bindD (ancepsref07_Made.f p0 p1 p2 p3 p4) fun t168 =>
   bindD (nondet_Determine.f t168.1 t168.2.1 t168.2.2.1 t168.2.2.2.1 t168.2.2.2.2.1) fun t169 =>
   ancepslaw07_NondetTwice.l6 t169.2.2.2.2.1 (0 : Int) t168.1 t168.2.1 t168.2.2.1 t168.2.2.2.1 t168.2.2.2.2.1 t169.1 t169.2.1 t169.2.2.1 t169.2.2.2.1) := (Einf_call Go.Proofs.C07.ctx 7 _).trans (by kernel_rfl)
theorem ancepsref07_Valid.f_eq (p0 : Int) (p1 : Int) (p2 : (List Int)) (p3 : (List (Int × (Int × Int)))) (p4 : (List Int)) : ancepsref07_Valid.f p0 p1 p2 p3 p4 =
  ifB (decide (p0 < (1 : Int)))
   (some ((1 : Int), ()))
  (ifB (decide (p0 > (8 : Int)))
    (some ((1 : Int), ()))
   (ifB (decide (p1 < (0 : Int)))
     (some ((1 : Int), ()))
    (ifB (decide (p1 > (400 : Int)))
      (some ((1 : Int), ()))
     (ifB (decide ((((List.length p3) : Nat) : Int) > (4000 : Int)))
       (some ((1 : Int), ()))
      (bindD (ancepsref07_ascending.f p2 p1) fun t179 =>
       ifB (!t179.1)
        (some ((1 : Int), ()))
       (bindD (ancepsref07_ascending.f p4 p1) fun t180 =>
        ifB (!t180.1)
         (some ((1 : Int), ()))
        (ancepsref07_Valid.l6 (0 : Int) p0 p1 p2 p3 p4))))))) := (Einf_call Go.Proofs.C07.ctx 13 _).trans (by kernel_rfl)
theorem nondet_Determine.f_eq (p0 : Int) (p1 : Int) (p2 : (List Int)) (p3 : (List (Int × (Int × Int)))) (p4 : (List Int)) : nondet_Determine.f p0 p1 p2 p3 p4 =
  bindD (nondet_Valid.f p0 p1 p2 p3 p4) fun t184 =>
  ifB (t184.1 != (0 : Int))
   (some ((0 : Int), ((0 : Int), (([] : (List (List Int))), (([] : (List Bool)), (t184.1, ()))))))
  (bindD (nondet_open.f p0 p1 p2 p3 p4) fun t185 =>
   bindD (nondet_graph_closure.f t185.1 t185.2.1 t185.2.2.1 t185.2.2.2.1 t185.2.2.2.2.1 t185.2.2.2.2.2.1 p2) fun t186 =>
   ifB ((((List.length p2) : Nat) : Int) == (0 : Int))
    (bindD (automaton_Minimal.f p0 (-(1 : Int)) ([] : (List (List Int))) ([] : (List Bool))) fun t187 =>
    some (t187.1, (t187.2.1, (t187.2.2.1, (t187.2.2.2.1, (t187.2.2.2.2.1, ()))))))
   (bindD (nondet_set_key.f t186.1) fun t188 =>
    nondet_Determine.l13 (0 : Int) p0 p1 p2 p3 p4 (0 : Int) (0 : Int) t185.1 t185.2.1 t185.2.2.1 t185.2.2.2.1 t185.2.2.2.2.1 t185.2.2.2.2.2.1 p0 (0 : Int) (Go.Proofs.R.mput Go.Proofs.R.Ty.str t188.1 (0 : Int) ([] : (List (ByteArray × Int)))) (t186.1 :: ([] : (List (List Bool)))) ([] : (List (List Int))) ([] : (List Bool)) ([] : (List (List Int))) ([] : (List Bool)))) := (Einf_call Go.Proofs.C07.ctx 14 _).trans (by kernel_rfl)
theorem ancepsref06_SameDFA.f_eq (p0 : Int) (p1 : Int) (p2 : (List (List Int))) (p3 : (List Bool)) (p4 : Int) (p5 : Int) (p6 : (List (List Int))) (p7 : (List Bool)) : ancepsref06_SameDFA.f p0 p1 p2 p3 p4 p5 p6 p7 =
  ifB (p0 != p4)
   (some (false, ()))
  (ifB (p1 != p5)
    (some (false, ()))
   (ifB ((((List.length p2) : Nat) : Int) != (((List.length p6) : Nat) : Int))
     (some (false, ()))
    (ifB ((((List.length p3) : Nat) : Int) != (((List.length p7) : Nat) : Int))
      (some (false, ()))
     (ancepsref06_SameDFA.l4 (0 : Int) p0 p1 p2 p3 p4 p5 p6 p7)))) := (Einf_call Go.Proofs.C07.ctx 17 _).trans (by kernel_rfl)
theorem slices_Clone_int_int.f_eq (p0 : (List Int)) : slices_Clone_int_int.f p0 =
  bindD ((Go.Proofs.R.grow (List.length p0))) fun t198 =>
  some (p0, ()) := (Einf_call Go.Proofs.C07.ctx 22 _).trans (by kernel_rfl)
theorem nondet_Valid.f_eq (p0 : Int) (p1 : Int) (p2 : (List Int)) (p3 : (List (Int × (Int × Int)))) (p4 : (List Int)) : nondet_Valid.f p0 p1 p2 p3 p4 =
  ifB (decide (p0 < (1 : Int)))
   (some ((1 : Int), ()))
  (ifB (decide (p0 > (8 : Int)))
    (some ((1 : Int), ()))
   (ifB (decide (p1 < (0 : Int)))
     (some ((1 : Int), ()))
    (ifB (decide (p1 > (400 : Int)))
      (some ((1 : Int), ()))
     (ifB (decide ((((List.length p3) : Nat) : Int) > (4000 : Int)))
       (some ((1 : Int), ()))
      (bindD (nondet_ascends.f p2 p1) fun t206 =>
       ifB (!t206.1)
        (some ((1 : Int), ()))
       (bindD (nondet_ascends.f p4 p1) fun t207 =>
        ifB (!t207.1)
         (some ((1 : Int), ()))
        (nondet_Valid.l6 p3 (((List.length p3) : Nat) : Int) (0 : Int) p0 p1 p2 p3 p4))))))) := (Einf_call Go.Proofs.C07.ctx 25 _).trans (by kernel_rfl)
theorem nondet_Of.f_eq (p0 : Int) (p1 : Int) (p2 : (List (List Int))) (p3 : (List Bool)) : nondet_Of.f p0 p1 p2 p3 =
  bindD (automaton_Valid.f p0 p1 p2 p3) fun t208 =>
  ifB (t208.1 != (0 : Int))
   (some ((0 : Int), ((0 : Int), (([] : (List Int)), (([] : (List (Int × (Int × Int)))), (([] : (List Int)), (t208.1, ())))))))
  (ifB (decide (p1 ≥ (0 : Int)))
    (nondet_Of.l8 p2 (((List.length p2) : Nat) : Int) (0 : Int) p0 p1 p2 p3 (0 : Int) (0 : Int) p0 (((List.length p2) : Nat) : Int) ([] : (List Int)) ([] : (List (Int × (Int × Int)))) ([] : (List Int)) (p1 :: ([] : (List Int))) ([] : (List (Int × (Int × Int)))) ([] : (List Int)))
   (nondet_Of.l8 p2 (((List.length p2) : Nat) : Int) (0 : Int) p0 p1 p2 p3 (0 : Int) (0 : Int) p0 (((List.length p2) : Nat) : Int) ([] : (List Int)) ([] : (List (Int × (Int × Int)))) ([] : (List Int)) ([] : (List Int)) ([] : (List (Int × (Int × Int)))) ([] : (List Int)))) := (Einf_call Go.Proofs.C07.ctx 29 _).trans (by kernel_rfl)
theorem nondet_Reverse.f_eq (p0 : Int) (p1 : Int) (p2 : (List Int)) (p3 : (List (Int × (Int × Int)))) (p4 : (List Int)) : nondet_Reverse.f p0 p1 p2 p3 p4 =
  bindD (nondet_Valid.f p0 p1 p2 p3 p4) fun t211 =>
  ifB (t211.1 != (0 : Int))
   (some ((0 : Int), ((0 : Int), (([] : (List Int)), (([] : (List (Int × (Int × Int)))), (([] : (List Int)), (t211.1, ())))))))
  (bindD (slices_Clone_int_int.f p4) fun t212 =>
   bindD (slices_Clone_int_int.f p2) fun t213 =>
   nondet_Reverse.l6 p3 (((List.length p3) : Nat) : Int) (0 : Int) (0 : Int) (0 : Int) p0 p1 ([] : (List Int)) ([] : (List (Int × (Int × Int)))) ([] : (List Int)) t212.1 ([] : (List (Int × (Int × Int)))) t213.1) := (Einf_call Go.Proofs.C07.ctx 32 _).trans (by kernel_rfl)
theorem ancepsref07_Reverse.f_eq (p0 : Int) (p1 : Int) (p2 : (List Int)) (p3 : (List (Int × (Int × Int)))) (p4 : (List Int)) : ancepsref07_Reverse.f p0 p1 p2 p3 p4 =
  bindD (ancepsref07_Valid.f p0 p1 p2 p3 p4) fun t214 =>
  ifB (t214.1 != (0 : Int))
   (some ((0 : Int), ((0 : Int), (([] : (List Int)), (([] : (List (Int × (Int × Int)))), (([] : (List Int)), (t214.1, ())))))))
  (bindD ((Go.Proofs.R.grow ((List.length ([] : (List Int))) + (List.length p4)))) fun t215 =>
   bindD ((Go.Proofs.R.grow ((List.length ([] : (List Int))) + (List.length p2)))) fun t216 =>
   ancepsref07_Reverse.l6 (0 : Int) p0 p1 p2 p3 p4 (0 : Int) (0 : Int) p0 p1 ([] : (List Int)) ([] : (List (Int × (Int × Int)))) ([] : (List Int)) (([] : (List Int)) ++ p4) ([] : (List (Int × (Int × Int)))) (([] : (List Int)) ++ p2)) := (Einf_call Go.Proofs.C07.ctx 38 _).trans (by kernel_rfl)
theorem ancepsref07_Made.f_eq (p0 : Int) (p1 : Int) (p2 : Int) (p3 : Int) (p4 : (List (List Int))) : ancepsref07_Made.f p0 p1 p2 p3 p4 =
  bindD (ancepsref07_bits.f p2 (Go.IntKind.wrap Go.IntKind.i64 ((1 : Int) + (Go.IntKind.wrap Go.IntKind.i64 (Int.tmod p1 (6 : Int)))))) fun t249 =>
  bindD (ancepsref07_bits.f p3 (Go.IntKind.wrap Go.IntKind.i64 ((1 : Int) + (Go.IntKind.wrap Go.IntKind.i64 (Int.tmod p1 (6 : Int)))))) fun t250 =>
  ancepsref07_Made.l5 (0 : Int) p0 p1 p2 p3 p4 (0 : Int) (0 : Int) (Go.IntKind.wrap Go.IntKind.i64 ((1 : Int) + (Go.IntKind.wrap Go.IntKind.i64 (Int.tmod p0 (4 : Int))))) (Go.IntKind.wrap Go.IntKind.i64 ((1 : Int) + (Go.IntKind.wrap Go.IntKind.i64 (Int.tmod p1 (6 : Int))))) ([] : (List (Int × (Int × Int)))) ([] : (List Int)) ([] : (List (Int × (Int × Int)))) ([] : (List Int)) t249.1 ([] : (List (Int × (Int × Int)))) t250.1 := (Einf_call Go.Proofs.C07.ctx 31 _).trans (by kernel_rfl)
theorem ancepslaw07_NondetTwice.l6_eq (p0 : Int) (p1 : Int) (p2 : Int) (p3 : Int) (p4 : (List Int)) (p5 : (List (Int × (Int × Int)))) (p6 : (List Int)) (p7 : Int) (p8 : Int) (p9 : (List (List Int))) (p10 : (List Bool)) : ancepslaw07_NondetTwice.l6 p0 p1 p2 p3 p4 p5 p6 p7 p8 p9 p10 =
  ifB (decide (p1 < (2 : Int)))
   (bindD (nondet_Reverse.f p2 p3 p4 p5 p6) fun t266 =>
   bindD (nondet_Determine.f t266.1 t266.2.1 t266.2.2.1 t266.2.2.2.1 t266.2.2.2.2.1) fun t267 =>
   ifB (t266.2.2.2.2.2.1 != (0 : Int))
    (some (false, ()))
   (ifB (t267.2.2.2.2.1 != (0 : Int))
     (some (false, ()))
    (bindD (nondet_Of.f t267.1 t267.2.1 t267.2.2.1 t267.2.2.2.1) fun t268 =>
     ifB (t268.2.2.2.2.2.1 != (0 : Int))
      (some (false, ()))
     (ancepslaw07_NondetTwice.l6 p0 (Go.IntKind.wrap Go.IntKind.i64 (p1 + (1 : Int))) t268.1 t268.2.1 t268.2.2.1 t268.2.2.2.1 t268.2.2.2.2.1 p7 p8 p9 p10))))
  (bindD (nondet_Determine.f p2 p3 p4 p5 p6) fun t269 =>
   ifB (p0 == (0 : Int))
    (ifB (t269.2.2.2.2.1 == (0 : Int))
     (bindD (ancepsref06_SameDFA.f p7 p8 p9 p10 t269.1 t269.2.1 t269.2.2.1 t269.2.2.2.1) fun t270 =>
     some (t270.1, ()))
    (some (false, ())))
   (some (false, ()))) := (loopAt_step Go.Proofs.C07.ctx 7 6 _).trans (by kernel_rfl)
theorem ancepsref07_ascending.f_eq (p0 : (List Int)) (p1 : Int) : ancepsref07_ascending.f p0 p1 =
  ancepsref07_ascending.l2 p0 p1 (0 : Int) := (Einf_call Go.Proofs.C07.ctx 44 _).trans (by kernel_rfl)
theorem ancepsref07_Valid.l6_eq (p0 : Int) (p1 : Int) (p2 : Int) (p3 : (List Int)) (p4 : (List (Int × (Int × Int)))) (p5 : (List Int)) : ancepsref07_Valid.l6 p0 p1 p2 p3 p4 p5 =
  ifB (decide (p0 < (((List.length p4) : Nat) : Int)))
   (bindD ((ixAt p4 p0)) fun t275 =>
   ifB (decide (t275.1 < (0 : Int)))
    (some ((1 : Int), ()))
   (ifB (decide (t275.1 ≥ p2))
     (some ((1 : Int), ()))
    (ifB (decide (t275.2.2 < (0 : Int)))
      (some ((1 : Int), ()))
     (ifB (decide (t275.2.2 ≥ p2))
       (some ((1 : Int), ()))
      (ifB (decide (t275.2.1 < (-(1 : Int))))
        (some ((1 : Int), ()))
       (ifB (decide (t275.2.1 ≥ p1))
         (some ((1 : Int), ()))
        (ifB (decide (p0 > (0 : Int)))
          (bindD ((ixAt p4 (Go.IntKind.wrap Go.IntKind.i64 (p0 - (1 : Int))))) fun t276 =>
          bindD (ancepsref07_ahead.f t276.1 t276.2.1 t276.2.2 t275.1 t275.2.1 t275.2.2) fun t277 =>
          ifB (!t277.1)
           (some ((1 : Int), ()))
          (ancepsref07_Valid.l6 (Go.IntKind.wrap Go.IntKind.i64 (p0 + (1 : Int))) p1 p2 p3 p4 p5))
         (ancepsref07_Valid.l6 (Go.IntKind.wrap Go.IntKind.i64 (p0 + (1 : Int))) p1 p2 p3 p4 p5))))))))
  (some ((0 : Int), ())) := (loopAt_step Go.Proofs.C07.ctx 13 6 _).trans (by kernel_rfl)
theorem nondet_open.f_eq (p0 : Int) (p1 : Int) (p2 : (List Int)) (p3 : (List (Int × (Int × Int)))) (p4 : (List Int)) : nondet_open.f p0 p1 p2 p3 p4 =
  bindD ((Go.Proofs.R.mkLen p1 p1)) fun t279 =>
  nondet_open.l3 p3 (((List.length p3) : Nat) : Int) (0 : Int) (0 : Int) (0 : Int) p0 p1 p2 p3 p4 ([] : (List Int)) ([] : (List (Int × (Int × Int)))) ([] : (List Int)) ([] : (List (List (Int × (Int × Int))))) (List.replicate t279 ([] : (List (Int × (Int × Int))))) := (Einf_call Go.Proofs.C07.ctx 46 _).trans (by kernel_rfl)
theorem nondet_graph_closure.f_eq (p0 : Int) (p1 : Int) (p2 : (List Int)) (p3 : (List (Int × (Int × Int)))) (p4 : (List Int)) (p5 : (List (List (Int × (Int × Int))))) (p6 : (List Int)) : nondet_graph_closure.f p0 p1 p2 p3 p4 p5 p6 =
  bindD ((Go.Proofs.R.mkLen p1 p1)) fun t280 =>
  bindD (slices_Clone_int_int.f p6) fun t281 =>
  nondet_graph_closure.l4 (((List.length t281.1) : Nat) : Int) (0 : Int) p0 p1 p2 p3 p4 p5 (List.replicate t280 false) t281.1 := (Einf_call Go.Proofs.C07.ctx 47 _).trans (by kernel_rfl)
theorem automaton_Minimal.f_eq (p0 : Int) (p1 : Int) (p2 : (List (List Int))) (p3 : (List Bool)) : automaton_Minimal.f p0 p1 p2 p3 =
  bindD (automaton_Valid.f p0 p1 p2 p3) fun t282 =>
  ifB (t282.1 != (0 : Int))
   (some ((0 : Int), ((0 : Int), (([] : (List (List Int))), (([] : (List Bool)), (t282.1, ()))))))
  (bindD (automaton_minimal.f p0 p1 p2 p3) fun t283 =>
   some (t283.1, (t283.2.1, (t283.2.2.1, (t283.2.2.2.1, ((0 : Int), ())))))) := (Einf_call Go.Proofs.C07.ctx 48 _).trans (by kernel_rfl)
theorem nondet_set_key.f_eq (p0 : (List Bool)) : nondet_set_key.f p0 =
  nondet_set_key.l3 p0 (((List.length p0) : Nat) : Int) (0 : Int) ([] : (List Int)) := (Einf_call Go.Proofs.C07.ctx 49 _).trans (by kernel_rfl)
theorem nondet_Determine.l13_eq (p0 : Int) (p1 : Int) (p2 : Int) (p3 : (List Int)) (p4 : (List (Int × (Int × Int)))) (p5 : (List Int)) (p6 : Int) (p7 : Int) (p8 : Int) (p9 : Int) (p10 : (List Int)) (p11 : (List (Int × (Int × Int)))) (p12 : (List Int)) (p13 : (List (List (Int × (Int × Int))))) (p14 : Int) (p15 : Int) (p16 : (List (ByteArray × Int))) (p17 : (List (List Bool))) (p18 : (List (List Int))) (p19 : (List Bool)) (p20 : (List (List Int))) (p21 : (List Bool)) : nondet_Determine.l13 p0 p1 p2 p3 p4 p5 p6 p7 p8 p9 p10 p11 p12 p13 p14 p15 p16 p17 p18 p19 p20 p21 =
  ifB (decide (p0 < (((List.length p17) : Nat) : Int)))
   (bindD ((Go.Proofs.R.mkLen p1 p1)) fun t284 =>
   nondet_Determine.l17 p0 (((List.length (List.replicate t284 (0 : Int))) : Nat) : Int) (0 : Int) p1 p2 p3 p4 p5 p6 p7 p8 p9 p10 p11 p12 p13 p14 p15 p16 p17 (List.replicate t284 (0 : Int)) p18 p19 p20 p21)
  (bindD (automaton_Minimal.f p14 p15 p20 p21) fun t285 =>
   some (t285.1, (t285.2.1, (t285.2.2.1, (t285.2.2.2.1, (t285.2.2.2.2.1, ())))))) := (loopAt_step Go.Proofs.C07.ctx 14 13 _).trans (by kernel_rfl)
theorem ancepsref06_SameDFA.l4_eq (p0 : Int) (p1 : Int) (p2 : Int) (p3 : (List (List Int))) (p4 : (List Bool)) (p5 : Int) (p6 : Int) (p7 : (List (List Int))) (p8 : (List Bool)) : ancepsref06_SameDFA.l4 p0 p1 p2 p3 p4 p5 p6 p7 p8 =
  ifB (decide (p0 < (((List.length p3) : Nat) : Int)))
   (bindD ((ixAt p3 p0)) fun t288 =>
   bindD ((ixAt p7 p0)) fun t289 =>
   bindD (ancepsref06_Equal.f t288 t289) fun t290 =>
   ifB (!t290.1)
    (some (false, ()))
   (ancepsref06_SameDFA.l4 (Go.IntKind.wrap Go.IntKind.i64 (p0 + (1 : Int))) p1 p2 p3 p4 p5 p6 p7 p8))
  (ancepsref06_SameDFA.l9 (0 : Int) p1 p2 p3 p4 p5 p6 p7 p8) := (loopAt_step Go.Proofs.C07.ctx 17 4 _).trans (by kernel_rfl)
theorem nondet_set_list.f_eq (p0 : (List Bool)) : nondet_set_list.f p0 =
  nondet_set_list.l3 p0 (((List.length p0) : Nat) : Int) (0 : Int) ([] : (List Int)) := (Einf_call Go.Proofs.C07.ctx 63 _).trans (by kernel_rfl)
theorem nondet_ascends.f_eq (p0 : (List Int)) (p1 : Int) : nondet_ascends.f p0 p1 =
  nondet_ascends.l2 p0 p1 p0 (((List.length p0) : Nat) : Int) (0 : Int) := (Einf_call Go.Proofs.C07.ctx 64 _).trans (by kernel_rfl)
theorem nondet_Valid.l6_eq (p0 : (List (Int × (Int × Int)))) (p1 : Int) (p2 : Int) (p3 : Int) (p4 : Int) (p5 : (List Int)) (p6 : (List (Int × (Int × Int)))) (p7 : (List Int)) : nondet_Valid.l6 p0 p1 p2 p3 p4 p5 p6 p7 =
  ifB (decide (p2 < p1))
   (bindD ((ixAt p0 p2)) fun t306 =>
   ifB (decide ((if (t306.2.2 < t306.1) then t306.2.2 else t306.1) < (0 : Int)))
    (some ((1 : Int), ()))
   (ifB (decide ((if (t306.1 < t306.2.2) then t306.2.2 else t306.1) ≥ p4))
     (some ((1 : Int), ()))
    (ifB (decide (t306.2.1 < (-(1 : Int))))
      (some ((1 : Int), ()))
     (ifB (decide (t306.2.1 ≥ p3))
       (some ((1 : Int), ()))
      (ifB (decide (p2 > (0 : Int)))
        (bindD ((ixAt p6 (Go.IntKind.wrap Go.IntKind.i64 (p2 - (1 : Int))))) fun t307 =>
        bindD (nondet_order.f t307.1 t307.2.1 t307.2.2 t306.1 t306.2.1 t306.2.2) fun t308 =>
        ifB (decide (t308.1 ≥ (0 : Int)))
         (some ((1 : Int), ()))
        (nondet_Valid.l6 p0 p1 (Go.IntKind.wrap Go.IntKind.i64 (p2 + (1 : Int))) p3 p4 p5 p6 p7))
       (nondet_Valid.l6 p0 p1 (Go.IntKind.wrap Go.IntKind.i64 (p2 + (1 : Int))) p3 p4 p5 p6 p7))))))
  (some ((0 : Int), ())) := (loopAt_step Go.Proofs.C07.ctx 25 6 _).trans (by kernel_rfl)
theorem automaton_Valid.f_eq (p0 : Int) (p1 : Int) (p2 : (List (List Int))) (p3 : (List Bool)) : automaton_Valid.f p0 p1 p2 p3 =
  ifB (decide (p0 < (1 : Int)))
   (some ((1 : Int), ()))
  (ifB (decide (p0 > (8 : Int)))
    (some ((1 : Int), ()))
   (ifB (decide ((((List.length p2) : Nat) : Int) > (400 : Int)))
     (some ((1 : Int), ()))
    (ifB ((((List.length p3) : Nat) : Int) != (((List.length p2) : Nat) : Int))
      (some ((1 : Int), ()))
     (ifB (decide (p1 < (0 : Int)))
       (ifB (decide ((((List.length p2) : Nat) : Int) > (0 : Int)))
        (some ((1 : Int), ()))
       (ifB (p1 != (-(1 : Int)))
         (some ((1 : Int), ()))
        (ifB (decide (p1 ≥ (((List.length p2) : Nat) : Int)))
          (some ((1 : Int), ()))
         (automaton_Valid.l7 p2 (((List.length p2) : Nat) : Int) (0 : Int) p0 p1 p2 p3 (((List.length p2) : Nat) : Int)))))
      (ifB (decide (p1 ≥ (((List.length p2) : Nat) : Int)))
        (some ((1 : Int), ()))
       (automaton_Valid.l7 p2 (((List.length p2) : Nat) : Int) (0 : Int) p0 p1 p2 p3 (((List.length p2) : Nat) : Int))))))) := (Einf_call Go.Proofs.C07.ctx 66 _).trans (by kernel_rfl)
theorem nondet_Of.l8_eq (p0 : (List (List Int))) (p1 : Int) (p2 : Int) (p3 : Int) (p4 : Int) (p5 : (List (List Int))) (p6 : (List Bool)) (p7 : Int) (p8 : Int) (p9 : Int) (p10 : Int) (p11 : (List Int)) (p12 : (List (Int × (Int × Int)))) (p13 : (List Int)) (p14 : (List Int)) (p15 : (List (Int × (Int × Int)))) (p16 : (List Int)) : nondet_Of.l8 p0 p1 p2 p3 p4 p5 p6 p7 p8 p9 p10 p11 p12 p13 p14 p15 p16 =
  ifB (decide (p2 < p1))
   (bindD ((ixAt p0 p2)) fun t313 =>
   nondet_Of.l11 p2 p0 p1 p2 t313 (((List.length t313) : Nat) : Int) (0 : Int) p3 p4 p5 p6 p7 p8 p9 p10 p11 p12 p13 p14 p15 p16)
  (some (p9, (p10, (p14, (p15, (p16, ((0 : Int), ()))))))) := (loopAt_step Go.Proofs.C07.ctx 29 8 _).trans (by kernel_rfl)
theorem nondet_Reverse.l6_eq (p0 : (List (Int × (Int × Int)))) (p1 : Int) (p2 : Int) (p3 : Int) (p4 : Int) (p5 : Int) (p6 : Int) (p7 : (List Int)) (p8 : (List (Int × (Int × Int)))) (p9 : (List Int)) (p10 : (List Int)) (p11 : (List (Int × (Int × Int)))) (p12 : (List Int)) : nondet_Reverse.l6 p0 p1 p2 p3 p4 p5 p6 p7 p8 p9 p10 p11 p12 =
  ifB (decide (p2 < p1))
   (bindD ((ixAt p0 p2)) fun t319 =>
   bindD ((Go.Proofs.R.grow ((List.length p11) + (List.length ((t319.2.2, (t319.2.1, t319.1)) :: ([] : (List (Int × (Int × Int))))))))) fun t320 =>
   nondet_Reverse.l6 p0 p1 (Go.IntKind.wrap Go.IntKind.i64 (p2 + (1 : Int))) p3 p4 p5 p6 p7 p8 p9 p10 (p11 ++ ((t319.2.2, (t319.2.1, t319.1)) :: ([] : (List (Int × (Int × Int)))))) p12)
  (bindD ((Go.Proofs.R.grow (List.length p11))) fun t321 =>
   bindD (sortB false (fun t322 t323 => bindD (nondet_order.f t322.1 t322.2.1 t322.2.2 t323.1 t323.2.1 t323.2.2) fun t324 =>
    some t324.1) p11) fun t325 =>
   some (p5, (p6, (p10, (t325, (p12, ((0 : Int), ()))))))) := (loopAt_step Go.Proofs.C07.ctx 32 6 _).trans (by kernel_rfl)
theorem ancepsref07_Reverse.l6_eq (p0 : Int) (p1 : Int) (p2 : Int) (p3 : (List Int)) (p4 : (List (Int × (Int × Int)))) (p5 : (List Int)) (p6 : Int) (p7 : Int) (p8 : Int) (p9 : Int) (p10 : (List Int)) (p11 : (List (Int × (Int × Int)))) (p12 : (List Int)) (p13 : (List Int)) (p14 : (List (Int × (Int × Int)))) (p15 : (List Int)) : ancepsref07_Reverse.l6 p0 p1 p2 p3 p4 p5 p6 p7 p8 p9 p10 p11 p12 p13 p14 p15 =
  ifB (decide (p0 < (((List.length p4) : Nat) : Int)))
   (bindD ((ixAt p4 p0)) fun t326 =>
   bindD ((Go.Proofs.R.grow ((List.length p14) + (List.length ((t326.2.2, (t326.2.1, t326.1)) :: ([] : (List (Int × (Int × Int))))))))) fun t327 =>
   ancepsref07_Reverse.l6 (Go.IntKind.wrap Go.IntKind.i64 (p0 + (1 : Int))) p1 p2 p3 p4 p5 p6 p7 p8 p9 p10 p11 p12 p13 (p14 ++ ((t326.2.2, (t326.2.1, t326.1)) :: ([] : (List (Int × (Int × Int)))))) p15)
  (bindD (ancepsref07_sorted.f p14) fun t328 =>
   some (p8, (p9, (p13, (t328.1, (p15, ((0 : Int), ()))))))) := (loopAt_step Go.Proofs.C07.ctx 38 6 _).trans (by kernel_rfl)
theorem nondet_order.f_eq (p0 : Int) (p1 : Int) (p2 : Int) (p3 : Int) (p4 : Int) (p5 : Int) : nondet_order.f p0 p1 p2 p3 p4 p5 =
  bindD (cmp_Compare_int.f p0 p3) fun t332 =>
  bindD (cmp_Compare_int.f p1 p4) fun t333 =>
  bindD (cmp_Compare_int.f p2 p5) fun t334 =>
  bindD (cmp_Or_int.f (t332.1 :: (t333.1 :: (t334.1 :: ([] : (List Int)))))) fun t335 =>
  some (t335.1, ()) := (Einf_call Go.Proofs.C07.ctx 65 _).trans (by kernel_rfl)
theorem ancepsref07_bits.f_eq (p0 : Int) (p1 : Int) : ancepsref07_bits.f p0 p1 =
  ancepsref07_bits.l3 p0 p1 (0 : Int) ([] : (List Int)) := (Einf_call Go.Proofs.C07.ctx 68 _).trans (by kernel_rfl)
theorem ancepsref07_Made.l5_eq (p0 : Int) (p1 : Int) (p2 : Int) (p3 : Int) (p4 : Int) (p5 : (List (List Int))) (p6 : Int) (p7 : Int) (p8 : Int) (p9 : Int) (p10 : (List (Int × (Int × Int)))) (p11 : (List Int)) (p12 : (List (Int × (Int × Int)))) (p13 : (List Int)) (p14 : (List Int)) (p15 : (List (Int × (Int × Int)))) (p16 : (List Int)) : ancepsref07_Made.l5 p0 p1 p2 p3 p4 p5 p6 p7 p8 p9 p10 p11 p12 p13 p14 p15 p16 =
  ifB (decide (p0 < (((List.length p5) : Nat) : Int)))
   (ifB (decide (p0 < (40 : Int)))
    (bindD ((ixAt p5 p0)) fun t352 =>
    bindD ((ixAt t352 (0 : Int))) fun t353 =>
    bindD ((ixAt t352 (0 : Int))) fun t354 =>
    ifB (p9 == (0 : Int))
     (none)
    (bindD ((ixAt t352 (1 : Int))) fun t355 =>
     bindD ((ixAt t352 (1 : Int))) fun t356 =>
     ifB ((Go.IntKind.wrap Go.IntKind.i64 (p8 + (1 : Int))) == (0 : Int))
      (none)
     (bindD ((ixAt t352 (2 : Int))) fun t357 =>
      bindD ((ixAt t352 (2 : Int))) fun t358 =>
      ifB (p9 == (0 : Int))
       (none)
      (bindD ((Go.Proofs.R.grow ((List.length p10) + (List.length (((Int.tmod (Go.IntKind.wrap Go.IntKind.i64 t354) p9), ((Go.IntKind.wrap Go.IntKind.i64 ((Int.tmod (Go.IntKind.wrap Go.IntKind.i64 t356) (Go.IntKind.wrap Go.IntKind.i64 (p8 + (1 : Int)))) - (1 : Int))), (Int.tmod (Go.IntKind.wrap Go.IntKind.i64 t358) p9))) :: ([] : (List (Int × (Int × Int))))))))) fun t359 =>
       ancepsref07_Made.l5 (Go.IntKind.wrap Go.IntKind.i64 (p0 + (1 : Int))) p1 p2 p3 p4 p5 p6 p7 p8 p9 (p10 ++ (((Int.tmod (Go.IntKind.wrap Go.IntKind.i64 t354) p9), ((Go.IntKind.wrap Go.IntKind.i64 ((Int.tmod (Go.IntKind.wrap Go.IntKind.i64 t356) (Go.IntKind.wrap Go.IntKind.i64 (p8 + (1 : Int)))) - (1 : Int))), (Int.tmod (Go.IntKind.wrap Go.IntKind.i64 t358) p9))) :: ([] : (List (Int × (Int × Int)))))) p11 p12 p13 p14 p15 p16))))
   (bindD (ancepsref07_sorted.f p10) fun t360 =>
    some (p8, (p9, (p14, (t360.1, (p16, ())))))))
  (bindD (ancepsref07_sorted.f p10) fun t361 =>
   some (p8, (p9, (p14, (t361.1, (p16, ())))))) := (loopAt_step Go.Proofs.C07.ctx 31 5 _).trans (by kernel_rfl)
theorem ancepsref07_ascending.l2_eq (p0 : (List Int)) (p1 : Int) (p2 : Int) : ancepsref07_ascending.l2 p0 p1 p2 =
  ifB (decide (p2 < (((List.length p0) : Nat) : Int)))
   (bindD ((ixAt p0 p2)) fun t375 =>
   ifB (decide (t375 < (0 : Int)))
    (some (false, ()))
   (bindD ((ixAt p0 p2)) fun t376 =>
    ifB (decide (t376 ≥ p1))
     (some (false, ()))
    (ifB (decide (p2 > (0 : Int)))
      (bindD ((ixAt p0 p2)) fun t377 =>
      bindD ((ixAt p0 (Go.IntKind.wrap Go.IntKind.i64 (p2 - (1 : Int))))) fun t378 =>
      ifB (decide (t377 ≤ t378))
       (some (false, ()))
      (ancepsref07_ascending.l2 p0 p1 (Go.IntKind.wrap Go.IntKind.i64 (p2 + (1 : Int)))))
     (ancepsref07_ascending.l2 p0 p1 (Go.IntKind.wrap Go.IntKind.i64 (p2 + (1 : Int)))))))
  (some (true, ())) := (loopAt_step Go.Proofs.C07.ctx 44 2 _).trans (by kernel_rfl)
theorem ancepsref07_ahead.f_eq (p0 : Int) (p1 : Int) (p2 : Int) (p3 : Int) (p4 : Int) (p5 : Int) : ancepsref07_ahead.f p0 p1 p2 p3 p4 p5 =
  ifB (p0 != p3)
   (some ((decide (p0 < p3)), ()))
  (ifB (p1 != p4)
    (some ((decide (p1 < p4)), ()))
   (some ((decide (p2 < p5)), ()))) := (Einf_call Go.Proofs.C07.ctx 45 _).trans (by kernel_rfl)
theorem nondet_open.l3_eq (p0 : (List (Int × (Int × Int)))) (p1 : Int) (p2 : Int) (p3 : Int) (p4 : Int) (p5 : Int) (p6 : Int) (p7 : (List Int)) (p8 : (List (Int × (Int × Int)))) (p9 : (List Int)) (p10 : (List Int)) (p11 : (List (Int × (Int × Int)))) (p12 : (List Int)) (p13 : (List (List (Int × (Int × Int))))) (p14 : (List (List (Int × (Int × Int))))) : nondet_open.l3 p0 p1 p2 p3 p4 p5 p6 p7 p8 p9 p10 p11 p12 p13 p14 =
  ifB (decide (p2 < p1))
   (bindD ((ixAt p0 p2)) fun t379 =>
   bindD ((ixAt p14 t379.1)) fun t380 =>
   bindD ((ixAt p14 t379.1)) fun t381 =>
   bindD ((ixAt p14 t379.1)) fun t382 =>
   bindD ((Go.Proofs.R.grow ((List.length t382) + (List.length ((t379.1, (t379.2.1, t379.2.2)) :: ([] : (List (Int × (Int × Int))))))))) fun t383 =>
   bindD ((ixAt p14 t379.1)) fun t384 =>
   ifB (decide (t379.1 = t379.1))
    (nondet_open.l3 p0 p1 (Go.IntKind.wrap Go.IntKind.i64 (p2 + (1 : Int))) p3 p4 p5 p6 p7 p8 p9 p10 p11 p12 p13 (setRow p14 t379.1 (t382 ++ ((t379.1, (t379.2.1, t379.2.2)) :: ([] : (List (Int × (Int × Int))))))))
   (none))
  (some (p5, (p6, (p7, (p8, (p9, (p14, ()))))))) := (loopAt_step Go.Proofs.C07.ctx 46 3 _).trans (by kernel_rfl)
theorem nondet_graph_closure.l4_eq (p0 : Int) (p1 : Int) (p2 : Int) (p3 : Int) (p4 : (List Int)) (p5 : (List (Int × (Int × Int)))) (p6 : (List Int)) (p7 : (List (List (Int × (Int × Int))))) (p8 : (List Bool)) (p9 : (List Int)) : nondet_graph_closure.l4 p0 p1 p2 p3 p4 p5 p6 p7 p8 p9 =
  ifB (decide (p1 < p0))
   (bindD ((ixAt p9 p1)) fun t385 =>
   bindD ((ixAt p9 p1)) fun t386 =>
   bindD ((ixAt p8 t386)) fun t387 =>
   bindD ((ixAt p8 t386)) fun t388 =>
   nondet_graph_closure.l4 p0 (Go.IntKind.wrap Go.IntKind.i64 (p1 + (1 : Int))) p2 p3 p4 p5 p6 p7 (setRow p8 t386 true) p9)
  (nondet_graph_closure.l8 p2 p3 p4 p5 p6 p7 p8 p9) := (loopAt_step Go.Proofs.C07.ctx 47 4 _).trans (by kernel_rfl)
theorem automaton_minimal.f_eq (p0 : Int) (p1 : Int) (p2 : (List (List Int))) (p3 : (List Bool)) : automaton_minimal.f p0 p1 p2 p3 =
  ifB (decide (p1 < (0 : Int)))
   (some (p0, ((-(1 : Int)), (([] : (List (List Int))), (([] : (List Bool)), ())))))
  (bindD (automaton_classes.f p0 p1 p2 p3) fun t389 =>
   bindD ((ixAt t389.1 p1)) fun t390 =>
   bindD ((ixAt t389.1 p1)) fun t391 =>
   ifB (t391 == (0 : Int))
    (some (p0, ((-(1 : Int)), (([] : (List (List Int))), (([] : (List Bool)), ())))))
   (bindD ((ixAt t389.1 p1)) fun t392 =>
    bindD ((ixAt t389.1 p1)) fun t393 =>
    automaton_minimal.l11 (0 : Int) p0 p1 p2 p3 (0 : Int) (0 : Int) p0 (0 : Int) t389.1 (Go.Proofs.R.mput (Go.Proofs.R.Ty.int Go.IntKind.i64) t393 (0 : Int) ([] : (List (Int × Int)))) (p1 :: ([] : (List Int))) ([] : (List (List Int))) ([] : (List Bool)) ([] : (List (List Int))) ([] : (List Bool)))) := (Einf_call Go.Proofs.C07.ctx 78 _).trans (by kernel_rfl)
theorem nondet_set_key.l3_eq (p0 : (List Bool)) (p1 : Int) (p2 : Int) (p3 : (List Int)) : nondet_set_key.l3 p0 p1 p2 p3 =
  ifB (decide (p2 < p1))
   (bindD ((ixAt p0 p2)) fun t394 =>
   ifB t394
    (bindD ((Go.Proofs.R.grow ((List.length p3) + (List.length ((49 : Int) :: ([] : (List Int))))))) fun t395 =>
    nondet_set_key.l3_1 p0 p1 (Go.IntKind.wrap Go.IntKind.i64 (p2 + (1 : Int))) (p3 ++ ((49 : Int) :: ([] : (List Int)))))
   (bindD ((Go.Proofs.R.grow ((List.length p3) + (List.length ((48 : Int) :: ([] : (List Int))))))) fun t396 =>
    nondet_set_key.l3_1 p0 p1 (Go.IntKind.wrap Go.IntKind.i64 (p2 + (1 : Int))) (p3 ++ ((48 : Int) :: ([] : (List Int))))))
  (bindD ((Go.Proofs.R.bytesOf p3)) fun t397 =>
   some (t397, ())) := (loopAt_step Go.Proofs.C07.ctx 49 3 _).trans (by kernel_rfl)
theorem nondet_Determine.l17_eq (p0 : Int) (p1 : Int) (p2 : Int) (p3 : Int) (p4 : Int) (p5 : (List Int)) (p6 : (List (Int × (Int × Int)))) (p7 : (List Int)) (p8 : Int) (p9 : Int) (p10 : Int) (p11 : Int) (p12 : (List Int)) (p13 : (List (Int × (Int × Int)))) (p14 : (List Int)) (p15 : (List (List (Int × (Int × Int))))) (p16 : Int) (p17 : Int) (p18 : (List (ByteArray × Int))) (p19 : (List (List Bool))) (p20 : (List Int)) (p21 : (List (List Int))) (p22 : (List Bool)) (p23 : (List (List Int))) (p24 : (List Bool)) : nondet_Determine.l17 p0 p1 p2 p3 p4 p5 p6 p7 p8 p9 p10 p11 p12 p13 p14 p15 p16 p17 p18 p19 p20 p21 p22 p23 p24 =
  ifB (decide (p2 < p1))
   (bindD ((ixAt p19 p0)) fun t398 =>
   bindD ((ixAt p19 p0)) fun t399 =>
   bindD (nondet_graph_step.f p10 p11 p12 p13 p14 p15 t399 p2) fun t400 =>
   bindD (nondet_set_bool.f t400.1 true) fun t401 =>
   ifB (!t401.1)
    (bindD ((ixAt p20 p2)) fun t402 =>
    bindD ((ixAt p20 p2)) fun t403 =>
    nondet_Determine.l17 p0 p1 (Go.IntKind.wrap Go.IntKind.i64 (p2 + (1 : Int))) p3 p4 p5 p6 p7 p8 p9 p10 p11 p12 p13 p14 p15 p16 p17 p18 p19 (setRow p20 p2 (-(1 : Int))) p21 p22 p23 p24)
   (bindD (nondet_set_key.f t400.1) fun t404 =>
    ifB (!(Go.Proofs.R.mget Go.Proofs.R.Ty.str (0 : Int) t404.1 p18).2)
     (ifB ((((List.length p19) : Nat) : Int) == (400 : Int))
      (some ((0 : Int), ((0 : Int), (([] : (List (List Int))), (([] : (List Bool)), ((3 : Int), ()))))))
     (bindD (nondet_set_key.f t400.1) fun t405 =>
      bindD ((Go.Proofs.R.grow ((List.length p19) + (List.length (t400.1 :: ([] : (List (List Bool)))))))) fun t406 =>
      bindD ((ixAt p20 p2)) fun t407 =>
      bindD ((ixAt p20 p2)) fun t408 =>
      nondet_Determine.l17 p0 p1 (Go.IntKind.wrap Go.IntKind.i64 (p2 + (1 : Int))) p3 p4 p5 p6 p7 p8 p9 p10 p11 p12 p13 p14 p15 p16 p17 (Go.Proofs.R.mput Go.Proofs.R.Ty.str t405.1 (((List.length p19) : Nat) : Int) p18) (p19 ++ (t400.1 :: ([] : (List (List Bool))))) (setRow p20 p2 (((List.length p19) : Nat) : Int)) p21 p22 p23 p24))
    (bindD ((ixAt p20 p2)) fun t409 =>
     bindD ((ixAt p20 p2)) fun t410 =>
     nondet_Determine.l17 p0 p1 (Go.IntKind.wrap Go.IntKind.i64 (p2 + (1 : Int))) p3 p4 p5 p6 p7 p8 p9 p10 p11 p12 p13 p14 p15 p16 p17 p18 p19 (setRow p20 p2 (Go.Proofs.R.mget Go.Proofs.R.Ty.str (0 : Int) t404.1 p18).1) p21 p22 p23 p24)))
  (bindD ((Go.Proofs.R.grow ((List.length p23) + (List.length (p20 :: ([] : (List (List Int)))))))) fun t411 =>
   bindD ((ixAt p19 p0)) fun t412 =>
   bindD ((ixAt p19 p0)) fun t413 =>
   bindD (nondet_graph_accepts.f p10 p11 p12 p13 p14 p15 t413) fun t414 =>
   bindD ((Go.Proofs.R.grow ((List.length p24) + (List.length (t414.1 :: ([] : (List Bool))))))) fun t415 =>
   nondet_Determine.l13 (Go.IntKind.wrap Go.IntKind.i64 (p0 + (1 : Int))) p3 p4 p5 p6 p7 p8 p9 p10 p11 p12 p13 p14 p15 p16 p17 p18 p19 p21 p22 (p23 ++ (p20 :: ([] : (List (List Int))))) (p24 ++ (t414.1 :: ([] : (List Bool))))) := (loopAt_step Go.Proofs.C07.ctx 14 17 _).trans (by kernel_rfl)
theorem ancepsref06_Equal.f_eq (p0 : (List Int)) (p1 : (List Int)) : ancepsref06_Equal.f p0 p1 =
  ifB ((((List.length p0) : Nat) : Int) != (((List.length p1) : Nat) : Int))
   (some (false, ()))
  (ancepsref06_Equal.l4 p0 p1 (0 : Int)) := (Einf_call Go.Proofs.C07.ctx 58 _).trans (by kernel_rfl)
theorem ancepsref06_SameDFA.l9_eq (p0 : Int) (p1 : Int) (p2 : Int) (p3 : (List (List Int))) (p4 : (List Bool)) (p5 : Int) (p6 : Int) (p7 : (List (List Int))) (p8 : (List Bool)) : ancepsref06_SameDFA.l9 p0 p1 p2 p3 p4 p5 p6 p7 p8 =
  ifB (decide (p0 < (((List.length p4) : Nat) : Int)))
   (bindD ((ixAt p4 p0)) fun t435 =>
   bindD ((ixAt p8 p0)) fun t436 =>
   ifB (!(t435 == t436))
    (some (false, ()))
   (ancepsref06_SameDFA.l9 (Go.IntKind.wrap Go.IntKind.i64 (p0 + (1 : Int))) p1 p2 p3 p4 p5 p6 p7 p8))
  (some (true, ())) := (loopAt_step Go.Proofs.C07.ctx 17 9 _).trans (by kernel_rfl)
theorem nondet_graph_step.f_eq (p0 : Int) (p1 : Int) (p2 : (List Int)) (p3 : (List (Int × (Int × Int)))) (p4 : (List Int)) (p5 : (List (List (Int × (Int × Int))))) (p6 : (List Bool)) (p7 : Int) : nondet_graph_step.f p0 p1 p2 p3 p4 p5 p6 p7 =
  bindD (nondet_set_list.f p6) fun t437 =>
  nondet_graph_step.l3 p7 (((List.length t437.1) : Nat) : Int) (0 : Int) p0 p1 p2 p3 p4 p5 ([] : (List Int)) t437.1 := (Einf_call Go.Proofs.C07.ctx 50 _).trans (by kernel_rfl)
theorem nondet_graph_accepts.f_eq (p0 : Int) (p1 : Int) (p2 : (List Int)) (p3 : (List (Int × (Int × Int)))) (p4 : (List Int)) (p5 : (List (List (Int × (Int × Int))))) (p6 : (List Bool)) : nondet_graph_accepts.f p0 p1 p2 p3 p4 p5 p6 =
  bindD (slices_ContainsFunc_int_int.f2 p4 p6) fun t438 =>
  some (t438.1, ()) := (Einf_call Go.Proofs.C07.ctx 52 _).trans (by kernel_rfl)
theorem nondet_set_list.l3_eq (p0 : (List Bool)) (p1 : Int) (p2 : Int) (p3 : (List Int)) : nondet_set_list.l3 p0 p1 p2 p3 =
  ifB (decide (p2 < p1))
   (bindD ((ixAt p0 p2)) fun t439 =>
   ifB t439
    (bindD ((Go.Proofs.R.grow ((List.length p3) + (List.length (p2 :: ([] : (List Int))))))) fun t440 =>
    nondet_set_list.l3 p0 p1 (Go.IntKind.wrap Go.IntKind.i64 (p2 + (1 : Int))) (p3 ++ (p2 :: ([] : (List Int)))))
   (nondet_set_list.l3 p0 p1 (Go.IntKind.wrap Go.IntKind.i64 (p2 + (1 : Int))) p3))
  (some (p3, ())) := (loopAt_step Go.Proofs.C07.ctx 63 3 _).trans (by kernel_rfl)
theorem nondet_ascends.l2_eq (p0 : (List Int)) (p1 : Int) (p2 : (List Int)) (p3 : Int) (p4 : Int) : nondet_ascends.l2 p0 p1 p2 p3 p4 =
  ifB (decide (p4 < p3))
   (bindD ((ixAt p2 p4)) fun t444 =>
   ifB (decide (t444 < (0 : Int)))
    (some (false, ()))
   (ifB (decide (t444 ≥ p1))
     (some (false, ()))
    (ifB (decide (p4 > (0 : Int)))
      (bindD ((ixAt p0 (Go.IntKind.wrap Go.IntKind.i64 (p4 - (1 : Int))))) fun t445 =>
      ifB (decide (t445 ≥ t444))
       (some (false, ()))
      (nondet_ascends.l2 p0 p1 p2 p3 (Go.IntKind.wrap Go.IntKind.i64 (p4 + (1 : Int)))))
     (nondet_ascends.l2 p0 p1 p2 p3 (Go.IntKind.wrap Go.IntKind.i64 (p4 + (1 : Int)))))))
  (some (true, ())) := (loopAt_step Go.Proofs.C07.ctx 64 2 _).trans (by kernel_rfl)
theorem automaton_Valid.l7_eq (p0 : (List (List Int))) (p1 : Int) (p2 : Int) (p3 : Int) (p4 : Int) (p5 : (List (List Int))) (p6 : (List Bool)) (p7 : Int) : automaton_Valid.l7 p0 p1 p2 p3 p4 p5 p6 p7 =
  ifB (decide (p2 < p1))
   (bindD ((ixAt p0 p2)) fun t450 =>
   ifB ((((List.length t450) : Nat) : Int) != p3)
    (some ((1 : Int), ()))
   (bindD (slices_ContainsFunc_int_int.f3 t450 p7) fun t451 =>
    ifB t451.1
     (some ((1 : Int), ()))
    (automaton_Valid.l7 p0 p1 (Go.IntKind.wrap Go.IntKind.i64 (p2 + (1 : Int))) p3 p4 p5 p6 p7)))
  (some ((0 : Int), ())) := (loopAt_step Go.Proofs.C07.ctx 66 7 _).trans (by kernel_rfl)
theorem nondet_Of.l11_eq (p0 : Int) (p1 : (List (List Int))) (p2 : Int) (p3 : Int) (p4 : (List Int)) (p5 : Int) (p6 : Int) (p7 : Int) (p8 : Int) (p9 : (List (List Int))) (p10 : (List Bool)) (p11 : Int) (p12 : Int) (p13 : Int) (p14 : Int) (p15 : (List Int)) (p16 : (List (Int × (Int × Int)))) (p17 : (List Int)) (p18 : (List Int)) (p19 : (List (Int × (Int × Int)))) (p20 : (List Int)) : nondet_Of.l11 p0 p1 p2 p3 p4 p5 p6 p7 p8 p9 p10 p11 p12 p13 p14 p15 p16 p17 p18 p19 p20 =
  ifB (decide (p6 < p5))
   (bindD ((ixAt p4 p6)) fun t452 =>
   ifB (decide (t452 ≥ (0 : Int)))
    (bindD ((Go.Proofs.R.grow ((List.length p19) + (List.length ((p0, (p6, t452)) :: ([] : (List (Int × (Int × Int))))))))) fun t453 =>
    nondet_Of.l11 p0 p1 p2 p3 p4 p5 (Go.IntKind.wrap Go.IntKind.i64 (p6 + (1 : Int))) p7 p8 p9 p10 p11 p12 p13 p14 p15 p16 p17 p18 (p19 ++ ((p0, (p6, t452)) :: ([] : (List (Int × (Int × Int)))))) p20)
   (nondet_Of.l11 p0 p1 p2 p3 p4 p5 (Go.IntKind.wrap Go.IntKind.i64 (p6 + (1 : Int))) p7 p8 p9 p10 p11 p12 p13 p14 p15 p16 p17 p18 p19 p20))
  (bindD ((ixAt p10 p0)) fun t454 =>
   ifB t454
    (bindD ((Go.Proofs.R.grow ((List.length p20) + (List.length (p0 :: ([] : (List Int))))))) fun t455 =>
    nondet_Of.l8 p1 p2 (Go.IntKind.wrap Go.IntKind.i64 (p3 + (1 : Int))) p7 p8 p9 p10 p11 p12 p13 p14 p15 p16 p17 p18 p19 (p20 ++ (p0 :: ([] : (List Int)))))
   (nondet_Of.l8 p1 p2 (Go.IntKind.wrap Go.IntKind.i64 (p3 + (1 : Int))) p7 p8 p9 p10 p11 p12 p13 p14 p15 p16 p17 p18 p19 p20)) := (loopAt_step Go.Proofs.C07.ctx 29 11 _).trans (by kernel_rfl)
theorem ancepsref07_sorted.f_eq (p0 : (List (Int × (Int × Int)))) : ancepsref07_sorted.f p0 =
  ancepsref07_sorted.l3 p0 (0 : Int) ([] : (List (Int × (Int × Int)))) := (Einf_call Go.Proofs.C07.ctx 69 _).trans (by kernel_rfl)
theorem cmp_Compare_int.f_eq (p0 : Int) (p1 : Int) : cmp_Compare_int.f p0 p1 =
  bindD (cmp_isNaN_int.f p0) fun t462 =>
  bindD (cmp_isNaN_int.f p1) fun t463 =>
  ifB t462.1
   (ifB t463.1
    (some ((0 : Int), ()))
   (some ((-(1 : Int)), ())))
  (ifB t463.1
    (some ((1 : Int), ()))
   (ifB (decide (p0 < p1))
     (some ((-(1 : Int)), ()))
    (ifB (decide (p0 > p1))
      (some ((1 : Int), ()))
     (some ((0 : Int), ()))))) := (Einf_call Go.Proofs.C07.ctx 87 _).trans (by kernel_rfl)
theorem cmp_Or_int.f_eq (p0 : (List Int)) : cmp_Or_int.f p0 =
  cmp_Or_int.l3 (0 : Int) p0 (((List.length p0) : Nat) : Int) (0 : Int) := (Einf_call Go.Proofs.C07.ctx 86 _).trans (by kernel_rfl)
theorem ancepsref07_bits.l3_eq (p0 : Int) (p1 : Int) (p2 : Int) (p3 : (List Int)) : ancepsref07_bits.l3 p0 p1 p2 p3 =
  ifB (decide (p2 < p1))
   (ifB (decide (p2 < (8 : Int)))
    (ifB (decide (p2 < (0 : Int)))
     (none)
    (ifB ((Go.Proofs.R.bitsOp Go.BinOp.and Go.IntKind.u8 (Go.Proofs.R.shrInt Go.IntKind.u8 p0 p2) (1 : Int)) == (1 : Int))
      (bindD ((Go.Proofs.R.grow ((List.length p3) + (List.length (p2 :: ([] : (List Int))))))) fun t484 =>
      ancepsref07_bits.l3 p0 p1 (Go.IntKind.wrap Go.IntKind.i64 (p2 + (1 : Int))) (p3 ++ (p2 :: ([] : (List Int)))))
     (ancepsref07_bits.l3 p0 p1 (Go.IntKind.wrap Go.IntKind.i64 (p2 + (1 : Int))) p3)))
   (some (p3, ())))
  (some (p3, ())) := (loopAt_step Go.Proofs.C07.ctx 68 3 _).trans (by kernel_rfl)
theorem nondet_graph_closure.l8_eq (p0 : Int) (p1 : Int) (p2 : (List Int)) (p3 : (List (Int × (Int × Int)))) (p4 : (List Int)) (p5 : (List (List (Int × (Int × Int))))) (p6 : (List Bool)) (p7 : (List Int)) : nondet_graph_closure.l8 p0 p1 p2 p3 p4 p5 p6 p7 =
  ifB (decide ((((List.length p7) : Nat) : Int) > (0 : Int)))
   (bindD ((ixAt p7 (Go.IntKind.wrap Go.IntKind.i64 ((((List.length p7) : Nat) : Int) - (1 : Int))))) fun t485 =>
   bindD ((ixAt p7 (Go.IntKind.wrap Go.IntKind.i64 ((((List.length p7) : Nat) : Int) - (1 : Int))))) fun t486 =>
   bindD ((subL p7 (0 : Int) (Go.IntKind.wrap Go.IntKind.i64 ((((List.length p7) : Nat) : Int) - (1 : Int))))) fun t487 =>
   bindD ((ixAt p5 t486)) fun t488 =>
   nondet_graph_closure.l12 t488 (((List.length t488) : Nat) : Int) (0 : Int) p0 p1 p2 p3 p4 p5 p6 t487)
  (some (p6, ())) := (loopAt_step Go.Proofs.C07.ctx 47 8 _).trans (by kernel_rfl)
theorem automaton_classes.f_eq (p0 : Int) (p1 : Int) (p2 : (List (List Int))) (p3 : (List Bool)) : automaton_classes.f p0 p1 p2 p3 =
  bindD (automaton_useful.f p0 p1 p2 p3) fun t489 =>
  bindD ((Go.Proofs.R.mkLen (((List.length p2) : Nat) : Int) (((List.length p2) : Nat) : Int))) fun t490 =>
  automaton_classes.l4 (((List.length (List.replicate t490 (0 : Int))) : Nat) : Int) (0 : Int) p0 p1 p2 p3 t489.1 (List.replicate t490 (0 : Int)) := (Einf_call Go.Proofs.C07.ctx 91 _).trans (by kernel_rfl)
theorem automaton_minimal.l11_eq (p0 : Int) (p1 : Int) (p2 : Int) (p3 : (List (List Int))) (p4 : (List Bool)) (p5 : Int) (p6 : Int) (p7 : Int) (p8 : Int) (p9 : (List Int)) (p10 : (List (Int × Int))) (p11 : (List Int)) (p12 : (List (List Int))) (p13 : (List Bool)) (p14 : (List (List Int))) (p15 : (List Bool)) : automaton_minimal.l11 p0 p1 p2 p3 p4 p5 p6 p7 p8 p9 p10 p11 p12 p13 p14 p15 =
  ifB (decide (p0 < (((List.length p11) : Nat) : Int)))
   (bindD ((ixAt p11 p0)) fun t491 =>
   bindD ((ixAt p11 p0)) fun t492 =>
   bindD ((Go.Proofs.R.mkLen p1 p1)) fun t493 =>
   bindD ((ixAt p3 t492)) fun t494 =>
   automaton_minimal.l16 p0 t492 t494 (((List.length t494) : Nat) : Int) (0 : Int) p1 p2 p3 p4 p5 p6 p7 p8 p9 p10 p11 (List.replicate t493 (0 : Int)) p12 p13 p14 p15)
  (some (p7, (p8, (p14, (p15, ()))))) := (loopAt_step Go.Proofs.C07.ctx 78 11 _).trans (by kernel_rfl)
theorem nondet_set_key.l3_1_eq (p0 : (List Bool)) (p1 : Int) (p2 : Int) (p3 : (List Int)) : nondet_set_key.l3_1 p0 p1 p2 p3 =
  ifB (decide (p2 < p1))
   (bindD ((ixAt p0 p2)) fun t495 =>
   ifB t495
    (bindD ((Go.Proofs.R.grow ((List.length p3) + (List.length ((49 : Int) :: ([] : (List Int))))))) fun t496 =>
    nondet_set_key.l3_1 p0 p1 (Go.IntKind.wrap Go.IntKind.i64 (p2 + (1 : Int))) (p3 ++ ((49 : Int) :: ([] : (List Int)))))
   (bindD ((Go.Proofs.R.grow ((List.length p3) + (List.length ((48 : Int) :: ([] : (List Int))))))) fun t497 =>
    nondet_set_key.l3_1 p0 p1 (Go.IntKind.wrap Go.IntKind.i64 (p2 + (1 : Int))) (p3 ++ ((48 : Int) :: ([] : (List Int))))))
  (bindD ((Go.Proofs.R.bytesOf p3)) fun t498 =>
   some (t498, ())) := (loopAt_step Go.Proofs.C07.ctx 49 3 _).trans (by kernel_rfl)
theorem nondet_set_bool.f_eq (p0 : (List Bool)) (p1 : Bool) : nondet_set_bool.f p0 p1 =
  bindD (nondet_set_bool_81.f p0 p1) fun t499 =>
  some ((decide (t499.1 ≥ (0 : Int))), ()) := (Einf_call Go.Proofs.C07.ctx 51 _).trans (by kernel_rfl)
theorem ancepsref06_Equal.l4_eq (p0 : (List Int)) (p1 : (List Int)) (p2 : Int) : ancepsref06_Equal.l4 p0 p1 p2 =
  ifB (decide (p2 < (((List.length p0) : Nat) : Int)))
   (bindD ((ixAt p0 p2)) fun t502 =>
   bindD ((ixAt p1 p2)) fun t503 =>
   ifB (t502 != t503)
    (some (false, ()))
   (ancepsref06_Equal.l4 p0 p1 (Go.IntKind.wrap Go.IntKind.i64 (p2 + (1 : Int)))))
  (some (true, ())) := (loopAt_step Go.Proofs.C07.ctx 58 4 _).trans (by kernel_rfl)
theorem nondet_graph_step.l3_eq (p0 : Int) (p1 : Int) (p2 : Int) (p3 : Int) (p4 : Int) (p5 : (List Int)) (p6 : (List (Int × (Int × Int)))) (p7 : (List Int)) (p8 : (List (List (Int × (Int × Int))))) (p9 : (List Int)) (p10 : (List Int)) : nondet_graph_step.l3 p0 p1 p2 p3 p4 p5 p6 p7 p8 p9 p10 =
  ifB (decide (p2 < p1))
   (bindD ((ixAt p10 p2)) fun t506 =>
   bindD ((ixAt p10 p2)) fun t507 =>
   bindD ((ixAt p8 t507)) fun t508 =>
   nondet_graph_step.l6 p0 p1 p2 t508 (((List.length t508) : Nat) : Int) (0 : Int) p3 p4 p5 p6 p7 p8 p9 p10)
  (bindD (nondet_graph_closure.f p3 p4 p5 p6 p7 p8 p9) fun t509 =>
   some (t509.1, ())) := (loopAt_step Go.Proofs.C07.ctx 50 3 _).trans (by kernel_rfl)
theorem slices_ContainsFunc_int_int.f2_eq (p0 : (List Int)) (p1 : (List Bool)) : slices_ContainsFunc_int_int.f2 p0 p1 =
  bindD (slices_IndexFunc_int_int.f2 p0 p1) fun t510 =>
  some ((decide (t510.1 ≥ (0 : Int))), ()) := (Einf_call Go.Proofs.C07.ctx 59 _).trans (by kernel_rfl)
theorem slices_ContainsFunc_int_int.f3_eq (p0 : (List Int)) (p1 : Int) : slices_ContainsFunc_int_int.f3 p0 p1 =
  bindD (slices_IndexFunc_int_int.f3 p0 p1) fun t515 =>
  some ((decide (t515.1 ≥ (0 : Int))), ()) := (Einf_call Go.Proofs.C07.ctx 59 _).trans (by kernel_rfl)
theorem ancepsref07_sorted.l3_eq (p0 : (List (Int × (Int × Int)))) (p1 : Int) (p2 : (List (Int × (Int × Int)))) : ancepsref07_sorted.l3 p0 p1 p2 =
  ifB (decide (p1 < (((List.length p0) : Nat) : Int)))
   (ancepsref07_sorted.l6 p0 p1 (((List.length p2) : Nat) : Int) p2)
  (some (p2, ())) := (loopAt_step Go.Proofs.C07.ctx 69 3 _).trans (by kernel_rfl)
theorem cmp_isNaN_int.f_eq (p0 : Int) : cmp_isNaN_int.f p0 =
  some ((p0 != p0), ()) := (Einf_call Go.Proofs.C07.ctx 94 _).trans (by kernel_rfl)
theorem cmp_Or_int.l3_eq (p0 : Int) (p1 : (List Int)) (p2 : Int) (p3 : Int) : cmp_Or_int.l3 p0 p1 p2 p3 =
  ifB (decide (p3 < p2))
   (bindD ((ixAt p1 p3)) fun t544 =>
   ifB (t544 != p0)
    (some (t544, ()))
   (cmp_Or_int.l3 p0 p1 p2 (Go.IntKind.wrap Go.IntKind.i64 (p3 + (1 : Int)))))
  (some (p0, ())) := (loopAt_step Go.Proofs.C07.ctx 86 3 _).trans (by kernel_rfl)
theorem nondet_graph_closure.l12_eq (p0 : (List (Int × (Int × Int)))) (p1 : Int) (p2 : Int) (p3 : Int) (p4 : Int) (p5 : (List Int)) (p6 : (List (Int × (Int × Int)))) (p7 : (List Int)) (p8 : (List (List (Int × (Int × Int))))) (p9 : (List Bool)) (p10 : (List Int)) : nondet_graph_closure.l12 p0 p1 p2 p3 p4 p5 p6 p7 p8 p9 p10 =
  ifB (decide (p2 < p1))
   (bindD ((ixAt p0 p2)) fun t545 =>
   ifB (decide (t545.2.1 < (0 : Int)))
    (bindD ((ixAt p9 t545.2.2)) fun t546 =>
    bindD ((ixAt p9 t545.2.2)) fun t547 =>
    ifB (!t547)
     (bindD ((ixAt p9 t545.2.2)) fun t548 =>
     bindD ((ixAt p9 t545.2.2)) fun t549 =>
     bindD ((Go.Proofs.R.grow ((List.length p10) + (List.length (t545.2.2 :: ([] : (List Int))))))) fun t550 =>
     nondet_graph_closure.l12 p0 p1 (Go.IntKind.wrap Go.IntKind.i64 (p2 + (1 : Int))) p3 p4 p5 p6 p7 p8 (setRow p9 t545.2.2 true) (p10 ++ (t545.2.2 :: ([] : (List Int)))))
    (nondet_graph_closure.l12 p0 p1 (Go.IntKind.wrap Go.IntKind.i64 (p2 + (1 : Int))) p3 p4 p5 p6 p7 p8 p9 p10))
   (nondet_graph_closure.l12 p0 p1 (Go.IntKind.wrap Go.IntKind.i64 (p2 + (1 : Int))) p3 p4 p5 p6 p7 p8 p9 p10))
  (nondet_graph_closure.l8 p3 p4 p5 p6 p7 p8 p9 p10) := (loopAt_step Go.Proofs.C07.ctx 47 12 _).trans (by kernel_rfl)
theorem automaton_useful.f_eq (p0 : Int) (p1 : Int) (p2 : (List (List Int))) (p3 : (List Bool)) : automaton_useful.f p0 p1 p2 p3 =
  bindD ((Go.Proofs.R.mkLen (((List.length p2) : Nat) : Int) (((List.length p2) : Nat) : Int))) fun t551 =>
  automaton_useful.l3 p2 (((List.length p2) : Nat) : Int) (0 : Int) p0 p1 p2 p3 (List.replicate t551 ([] : (List Int))) := (Einf_call Go.Proofs.C07.ctx 99 _).trans (by kernel_rfl)
theorem automaton_classes.l4_eq (p0 : Int) (p1 : Int) (p2 : Int) (p3 : Int) (p4 : (List (List Int))) (p5 : (List Bool)) (p6 : (List Bool)) (p7 : (List Int)) : automaton_classes.l4 p0 p1 p2 p3 p4 p5 p6 p7 =
  ifB (decide (p1 < p0))
   (bindD ((ixAt p6 p1)) fun t552 =>
   bindD ((ixAt p6 p1)) fun t553 =>
   ifB t553
    (bindD ((ixAt p7 p1)) fun t554 =>
    bindD ((ixAt p7 p1)) fun t555 =>
    bindD ((ixAt p5 p1)) fun t556 =>
    ifB t556
     (bindD ((ixAt (setRow p7 p1 (1 : Int)) p1)) fun t557 =>
     bindD ((ixAt (setRow p7 p1 (1 : Int)) p1)) fun t558 =>
     automaton_classes.l4 p0 (Go.IntKind.wrap Go.IntKind.i64 (p1 + (1 : Int))) p2 p3 p4 p5 p6 (setRow (setRow p7 p1 (1 : Int)) p1 (2 : Int)))
    (automaton_classes.l4 p0 (Go.IntKind.wrap Go.IntKind.i64 (p1 + (1 : Int))) p2 p3 p4 p5 p6 (setRow p7 p1 (1 : Int))))
   (bindD ((ixAt p5 p1)) fun t559 =>
    ifB t559
     (bindD ((ixAt p7 p1)) fun t560 =>
     bindD ((ixAt p7 p1)) fun t561 =>
     automaton_classes.l4 p0 (Go.IntKind.wrap Go.IntKind.i64 (p1 + (1 : Int))) p2 p3 p4 p5 p6 (setRow p7 p1 (2 : Int)))
    (automaton_classes.l4 p0 (Go.IntKind.wrap Go.IntKind.i64 (p1 + (1 : Int))) p2 p3 p4 p5 p6 p7)))
  (automaton_classes.l12 (0 : Int) p2 p3 p4 p5 p7) := (loopAt_step Go.Proofs.C07.ctx 91 4 _).trans (by kernel_rfl)
theorem automaton_minimal.l16_eq (p0 : Int) (p1 : Int) (p2 : (List Int)) (p3 : Int) (p4 : Int) (p5 : Int) (p6 : Int) (p7 : (List (List Int))) (p8 : (List Bool)) (p9 : Int) (p10 : Int) (p11 : Int) (p12 : Int) (p13 : (List Int)) (p14 : (List (Int × Int))) (p15 : (List Int)) (p16 : (List Int)) (p17 : (List (List Int))) (p18 : (List Bool)) (p19 : (List (List Int))) (p20 : (List Bool)) : automaton_minimal.l16 p0 p1 p2 p3 p4 p5 p6 p7 p8 p9 p10 p11 p12 p13 p14 p15 p16 p17 p18 p19 p20 =
  ifB (decide (p4 < p3))
   (bindD ((ixAt p2 p4)) fun t562 =>
   ifB (decide (t562 < (0 : Int)))
    (bindD ((ixAt p16 p4)) fun t563 =>
    bindD ((ixAt p16 p4)) fun t564 =>
    automaton_minimal.l16 p0 p1 p2 p3 (Go.IntKind.wrap Go.IntKind.i64 (p4 + (1 : Int))) p5 p6 p7 p8 p9 p10 p11 p12 p13 p14 p15 (setRow p16 p4 (-(1 : Int))) p17 p18 p19 p20)
   (bindD ((ixAt p13 t562)) fun t565 =>
    bindD ((ixAt p13 t562)) fun t566 =>
    ifB (t566 == (0 : Int))
     (bindD ((ixAt p16 p4)) fun t567 =>
     bindD ((ixAt p16 p4)) fun t568 =>
     automaton_minimal.l16 p0 p1 p2 p3 (Go.IntKind.wrap Go.IntKind.i64 (p4 + (1 : Int))) p5 p6 p7 p8 p9 p10 p11 p12 p13 p14 p15 (setRow p16 p4 (-(1 : Int))) p17 p18 p19 p20)
    (bindD ((ixAt p13 t562)) fun t569 =>
     bindD ((ixAt p13 t562)) fun t570 =>
     ifB (!(Go.Proofs.R.mget (Go.Proofs.R.Ty.int Go.IntKind.i64) (0 : Int) t570 p14).2)
      (bindD ((ixAt p13 t562)) fun t571 =>
      bindD ((ixAt p13 t562)) fun t572 =>
      bindD ((Go.Proofs.R.grow ((List.length p15) + (List.length (t562 :: ([] : (List Int))))))) fun t573 =>
      bindD ((ixAt p16 p4)) fun t574 =>
      bindD ((ixAt p16 p4)) fun t575 =>
      automaton_minimal.l16 p0 p1 p2 p3 (Go.IntKind.wrap Go.IntKind.i64 (p4 + (1 : Int))) p5 p6 p7 p8 p9 p10 p11 p12 p13 (Go.Proofs.R.mput (Go.Proofs.R.Ty.int Go.IntKind.i64) t572 (((List.length p15) : Nat) : Int) p14) (p15 ++ (t562 :: ([] : (List Int)))) (setRow p16 p4 (((List.length p15) : Nat) : Int)) p17 p18 p19 p20)
     (bindD ((ixAt p16 p4)) fun t576 =>
      bindD ((ixAt p16 p4)) fun t577 =>
      automaton_minimal.l16 p0 p1 p2 p3 (Go.IntKind.wrap Go.IntKind.i64 (p4 + (1 : Int))) p5 p6 p7 p8 p9 p10 p11 p12 p13 p14 p15 (setRow p16 p4 (Go.Proofs.R.mget (Go.Proofs.R.Ty.int Go.IntKind.i64) (0 : Int) t570 p14).1) p17 p18 p19 p20))))
  (bindD ((Go.Proofs.R.grow ((List.length p19) + (List.length (p16 :: ([] : (List (List Int)))))))) fun t578 =>
   bindD ((ixAt p8 p1)) fun t579 =>
   bindD ((Go.Proofs.R.grow ((List.length p20) + (List.length (t579 :: ([] : (List Bool))))))) fun t580 =>
   automaton_minimal.l11 (Go.IntKind.wrap Go.IntKind.i64 (p0 + (1 : Int))) p5 p6 p7 p8 p9 p10 p11 p12 p13 p14 p15 p17 p18 (p19 ++ (p16 :: ([] : (List (List Int))))) (p20 ++ (t579 :: ([] : (List Bool))))) := (loopAt_step Go.Proofs.C07.ctx 78 16 _).trans (by kernel_rfl)
theorem nondet_set_bool_81.f_eq (p0 : (List Bool)) (p1 : Bool) : nondet_set_bool_81.f p0 p1 =
  nondet_set_bool_81.l2 p0 p1 (((List.length p0) : Nat) : Int) (0 : Int) := (Einf_call Go.Proofs.C07.ctx 81 _).trans (by kernel_rfl)
theorem nondet_graph_step.l6_eq (p0 : Int) (p1 : Int) (p2 : Int) (p3 : (List (Int × (Int × Int)))) (p4 : Int) (p5 : Int) (p6 : Int) (p7 : Int) (p8 : (List Int)) (p9 : (List (Int × (Int × Int)))) (p10 : (List Int)) (p11 : (List (List (Int × (Int × Int))))) (p12 : (List Int)) (p13 : (List Int)) : nondet_graph_step.l6 p0 p1 p2 p3 p4 p5 p6 p7 p8 p9 p10 p11 p12 p13 =
  ifB (decide (p5 < p4))
   (bindD ((ixAt p3 p5)) fun t594 =>
   ifB (t594.2.1 == p0)
    (bindD ((Go.Proofs.R.grow ((List.length p12) + (List.length (t594.2.2 :: ([] : (List Int))))))) fun t595 =>
    nondet_graph_step.l6 p0 p1 p2 p3 p4 (Go.IntKind.wrap Go.IntKind.i64 (p5 + (1 : Int))) p6 p7 p8 p9 p10 p11 (p12 ++ (t594.2.2 :: ([] : (List Int)))) p13)
   (nondet_graph_step.l6 p0 p1 p2 p3 p4 (Go.IntKind.wrap Go.IntKind.i64 (p5 + (1 : Int))) p6 p7 p8 p9 p10 p11 p12 p13))
  (nondet_graph_step.l3 p0 p1 (Go.IntKind.wrap Go.IntKind.i64 (p2 + (1 : Int))) p6 p7 p8 p9 p10 p11 p12 p13) := (loopAt_step Go.Proofs.C07.ctx 50 6 _).trans (by kernel_rfl)
theorem slices_IndexFunc_int_int.f2_eq (p0 : (List Int)) (p1 : (List Bool)) : slices_IndexFunc_int_int.f2 p0 p1 =
  slices_IndexFunc_int_int.l2_2 p0 p1 (((List.length p0) : Nat) : Int) (0 : Int) := (Einf_call Go.Proofs.C07.ctx 84 _).trans (by kernel_rfl)
theorem slices_IndexFunc_int_int.f3_eq (p0 : (List Int)) (p1 : Int) : slices_IndexFunc_int_int.f3 p0 p1 =
  slices_IndexFunc_int_int.l2_3 p0 p1 (((List.length p0) : Nat) : Int) (0 : Int) := (Einf_call Go.Proofs.C07.ctx 84 _).trans (by kernel_rfl)
theorem ancepsref07_sorted.l6_eq (p0 : (List (Int × (Int × Int)))) (p1 : Int) (p2 : Int) (p3 : (List (Int × (Int × Int)))) : ancepsref07_sorted.l6 p0 p1 p2 p3 =
  ifB (decide (p2 > (0 : Int)))
   (bindD ((ixAt p0 p1)) fun t599 =>
   bindD ((ixAt p3 (Go.IntKind.wrap Go.IntKind.i64 (p2 - (1 : Int))))) fun t600 =>
   bindD ((ixAt p3 (Go.IntKind.wrap Go.IntKind.i64 (p2 - (1 : Int))))) fun t601 =>
   bindD (ancepsref07_ahead.f t599.1 t599.2.1 t599.2.2 t601.1 t601.2.1 t601.2.2) fun t602 =>
   ifB t602.1
    (ancepsref07_sorted.l6 p0 p1 (Go.IntKind.wrap Go.IntKind.i64 (p2 - (1 : Int))) p3)
   (ifB (decide (p2 > (0 : Int)))
     (bindD ((ixAt p3 (Go.IntKind.wrap Go.IntKind.i64 (p2 - (1 : Int))))) fun t603 =>
     bindD ((ixAt p3 (Go.IntKind.wrap Go.IntKind.i64 (p2 - (1 : Int))))) fun t604 =>
     bindD ((ixAt p0 p1)) fun t605 =>
     ifB ((t604.1 == t605.1) && ((t604.2.1 == t605.2.1) && (t604.2.2 == t605.2.2)))
      (ancepsref07_sorted.l3 p0 (Go.IntKind.wrap Go.IntKind.i64 (p1 + (1 : Int))) p3)
     (bindD ((ixAt p0 p1)) fun t606 =>
      bindD ((Go.Proofs.R.grow ((List.length p3) + (List.length ((t606.1, (t606.2.1, t606.2.2)) :: ([] : (List (Int × (Int × Int))))))))) fun t607 =>
      ancepsref07_sorted.l11 p0 p1 p2 (Go.IntKind.wrap Go.IntKind.i64 ((((List.length (p3 ++ ((t606.1, (t606.2.1, t606.2.2)) :: ([] : (List (Int × (Int × Int))))))) : Nat) : Int) - (1 : Int))) (p3 ++ ((t606.1, (t606.2.1, t606.2.2)) :: ([] : (List (Int × (Int × Int))))))))
    (bindD ((ixAt p0 p1)) fun t608 =>
     bindD ((Go.Proofs.R.grow ((List.length p3) + (List.length ((t608.1, (t608.2.1, t608.2.2)) :: ([] : (List (Int × (Int × Int))))))))) fun t609 =>
     ancepsref07_sorted.l11 p0 p1 p2 (Go.IntKind.wrap Go.IntKind.i64 ((((List.length (p3 ++ ((t608.1, (t608.2.1, t608.2.2)) :: ([] : (List (Int × (Int × Int))))))) : Nat) : Int) - (1 : Int))) (p3 ++ ((t608.1, (t608.2.1, t608.2.2)) :: ([] : (List (Int × (Int × Int)))))))))
  (ifB (decide (p2 > (0 : Int)))
    (bindD ((ixAt p3 (Go.IntKind.wrap Go.IntKind.i64 (p2 - (1 : Int))))) fun t610 =>
    bindD ((ixAt p3 (Go.IntKind.wrap Go.IntKind.i64 (p2 - (1 : Int))))) fun t611 =>
    bindD ((ixAt p0 p1)) fun t612 =>
    ifB ((t611.1 == t612.1) && ((t611.2.1 == t612.2.1) && (t611.2.2 == t612.2.2)))
     (ancepsref07_sorted.l3 p0 (Go.IntKind.wrap Go.IntKind.i64 (p1 + (1 : Int))) p3)
    (bindD ((ixAt p0 p1)) fun t613 =>
     bindD ((Go.Proofs.R.grow ((List.length p3) + (List.length ((t613.1, (t613.2.1, t613.2.2)) :: ([] : (List (Int × (Int × Int))))))))) fun t614 =>
     ancepsref07_sorted.l11 p0 p1 p2 (Go.IntKind.wrap Go.IntKind.i64 ((((List.length (p3 ++ ((t613.1, (t613.2.1, t613.2.2)) :: ([] : (List (Int × (Int × Int))))))) : Nat) : Int) - (1 : Int))) (p3 ++ ((t613.1, (t613.2.1, t613.2.2)) :: ([] : (List (Int × (Int × Int))))))))
   (bindD ((ixAt p0 p1)) fun t615 =>
    bindD ((Go.Proofs.R.grow ((List.length p3) + (List.length ((t615.1, (t615.2.1, t615.2.2)) :: ([] : (List (Int × (Int × Int))))))))) fun t616 =>
    ancepsref07_sorted.l11 p0 p1 p2 (Go.IntKind.wrap Go.IntKind.i64 ((((List.length (p3 ++ ((t615.1, (t615.2.1, t615.2.2)) :: ([] : (List (Int × (Int × Int))))))) : Nat) : Int) - (1 : Int))) (p3 ++ ((t615.1, (t615.2.1, t615.2.2)) :: ([] : (List (Int × (Int × Int)))))))) := (loopAt_step Go.Proofs.C07.ctx 69 6 _).trans (by kernel_rfl)
theorem automaton_useful.l3_eq (p0 : (List (List Int))) (p1 : Int) (p2 : Int) (p3 : Int) (p4 : Int) (p5 : (List (List Int))) (p6 : (List Bool)) (p7 : (List (List Int))) : automaton_useful.l3 p0 p1 p2 p3 p4 p5 p6 p7 =
  ifB (decide (p2 < p1))
   (bindD ((ixAt p0 p2)) fun t617 =>
   automaton_useful.l6 p2 p0 p1 p2 t617 (((List.length t617) : Nat) : Int) (0 : Int) p3 p4 p5 p6 p7)
  (bindD ((Go.Proofs.R.mkLen (((List.length p5) : Nat) : Int) (((List.length p5) : Nat) : Int))) fun t618 =>
   automaton_useful.l15 p6 (((List.length p6) : Nat) : Int) (0 : Int) p7 (List.replicate t618 false) ([] : (List Int))) := (loopAt_step Go.Proofs.C07.ctx 99 3 _).trans (by kernel_rfl)
theorem automaton_classes.l12_eq (p0 : Int) (p1 : Int) (p2 : Int) (p3 : (List (List Int))) (p4 : (List Bool)) (p5 : (List Int)) : automaton_classes.l12 p0 p1 p2 p3 p4 p5 =
  bindD ((Go.Proofs.R.mkLen (((List.length p5) : Nat) : Int) (((List.length p5) : Nat) : Int))) fun t619 =>
  automaton_classes.l15 p0 p3 (((List.length p3) : Nat) : Int) (0 : Int) p1 p2 p3 p4 p5 ([] : (List ((List Int) × Int))) (List.replicate t619 (0 : Int)) := (loopAt_step Go.Proofs.C07.ctx 91 12 _).trans (by kernel_rfl)
theorem nondet_set_bool_81.l2_eq (p0 : (List Bool)) (p1 : Bool) (p2 : Int) (p3 : Int) : nondet_set_bool_81.l2 p0 p1 p2 p3 =
  ifB (decide (p3 < p2))
   (bindD ((ixAt p0 p3)) fun t620 =>
   ifB (p1 == t620)
    (some (p3, ()))
   (nondet_set_bool_81.l2 p0 p1 p2 (Go.IntKind.wrap Go.IntKind.i64 (p3 + (1 : Int)))))
  (some ((-(1 : Int)), ())) := (loopAt_step Go.Proofs.C07.ctx 81 2 _).trans (by kernel_rfl)
theorem slices_IndexFunc_int_int.l2_2_eq (p0 : (List Int)) (p1 : (List Bool)) (p2 : Int) (p3 : Int) : slices_IndexFunc_int_int.l2_2 p0 p1 p2 p3 =
  ifB (decide (p3 < p2))
   (bindD ((ixAt p0 p3)) fun t632 =>
   bindD (nondet_graph_accepts_1.f t632 p1) fun t633 =>
   ifB t633.1
    (some (p3, ()))
   (slices_IndexFunc_int_int.l2_2 p0 p1 p2 (Go.IntKind.wrap Go.IntKind.i64 (p3 + (1 : Int)))))
  (some ((-(1 : Int)), ())) := (loopAt_step Go.Proofs.C07.ctx 84 2 _).trans (by kernel_rfl)
theorem slices_IndexFunc_int_int.l2_3_eq (p0 : (List Int)) (p1 : Int) (p2 : Int) (p3 : Int) : slices_IndexFunc_int_int.l2_3 p0 p1 p2 p3 =
  ifB (decide (p3 < p2))
   (bindD ((ixAt p0 p3)) fun t634 =>
   bindD (automaton_Valid_1.f t634 p1) fun t635 =>
   ifB t635.1
    (some (p3, ()))
   (slices_IndexFunc_int_int.l2_3 p0 p1 p2 (Go.IntKind.wrap Go.IntKind.i64 (p3 + (1 : Int)))))
  (some ((-(1 : Int)), ())) := (loopAt_step Go.Proofs.C07.ctx 84 2 _).trans (by kernel_rfl)
theorem ancepsref07_sorted.l11_eq (p0 : (List (Int × (Int × Int)))) (p1 : Int) (p2 : Int) (p3 : Int) (p4 : (List (Int × (Int × Int)))) : ancepsref07_sorted.l11 p0 p1 p2 p3 p4 =
  ifB (decide (p3 > p2))
   (bindD ((ixAt p4 (Go.IntKind.wrap Go.IntKind.i64 (p3 - (1 : Int))))) fun t640 =>
   bindD ((ixAt p4 (Go.IntKind.wrap Go.IntKind.i64 (p3 - (1 : Int))))) fun t641 =>
   bindD ((ixAt p4 p3)) fun t642 =>
   bindD ((ixAt p4 p3)) fun t643 =>
   ancepsref07_sorted.l11 p0 p1 p2 (Go.IntKind.wrap Go.IntKind.i64 (p3 - (1 : Int))) (setRow p4 p3 (t641.1, (t641.2.1, t641.2.2))))
  (bindD ((ixAt p0 p1)) fun t644 =>
   bindD ((ixAt p4 p2)) fun t645 =>
   bindD ((ixAt p4 p2)) fun t646 =>
   ancepsref07_sorted.l3 p0 (Go.IntKind.wrap Go.IntKind.i64 (p1 + (1 : Int))) (setRow p4 p2 (t644.1, (t644.2.1, t644.2.2)))) := (loopAt_step Go.Proofs.C07.ctx 69 11 _).trans (by kernel_rfl)
theorem automaton_useful.l6_eq (p0 : Int) (p1 : (List (List Int))) (p2 : Int) (p3 : Int) (p4 : (List Int)) (p5 : Int) (p6 : Int) (p7 : Int) (p8 : Int) (p9 : (List (List Int))) (p10 : (List Bool)) (p11 : (List (List Int))) : automaton_useful.l6 p0 p1 p2 p3 p4 p5 p6 p7 p8 p9 p10 p11 =
  ifB (decide (p6 < p5))
   (bindD ((ixAt p4 p6)) fun t647 =>
   ifB (decide (t647 ≥ (0 : Int)))
    (bindD ((ixAt p11 t647)) fun t648 =>
    bindD ((ixAt p11 t647)) fun t649 =>
    bindD ((ixAt p11 t647)) fun t650 =>
    bindD ((Go.Proofs.R.grow ((List.length t650) + (List.length (p0 :: ([] : (List Int))))))) fun t651 =>
    bindD ((ixAt p11 t647)) fun t652 =>
    ifB (decide (t647 = t647))
     (automaton_useful.l6 p0 p1 p2 p3 p4 p5 (Go.IntKind.wrap Go.IntKind.i64 (p6 + (1 : Int))) p7 p8 p9 p10 (setRow p11 t647 (t650 ++ (p0 :: ([] : (List Int))))))
    (none))
   (automaton_useful.l6 p0 p1 p2 p3 p4 p5 (Go.IntKind.wrap Go.IntKind.i64 (p6 + (1 : Int))) p7 p8 p9 p10 p11))
  (automaton_useful.l3 p1 p2 (Go.IntKind.wrap Go.IntKind.i64 (p3 + (1 : Int))) p7 p8 p9 p10 p11) := (loopAt_step Go.Proofs.C07.ctx 99 6 _).trans (by kernel_rfl)
theorem automaton_useful.l15_eq (p0 : (List Bool)) (p1 : Int) (p2 : Int) (p3 : (List (List Int))) (p4 : (List Bool)) (p5 : (List Int)) : automaton_useful.l15 p0 p1 p2 p3 p4 p5 =
  ifB (decide (p2 < p1))
   (bindD ((ixAt p0 p2)) fun t653 =>
   ifB t653
    (bindD ((ixAt p4 p2)) fun t654 =>
    bindD ((ixAt p4 p2)) fun t655 =>
    bindD ((Go.Proofs.R.grow ((List.length p5) + (List.length (p2 :: ([] : (List Int))))))) fun t656 =>
    automaton_useful.l15 p0 p1 (Go.IntKind.wrap Go.IntKind.i64 (p2 + (1 : Int))) p3 (setRow p4 p2 true) (p5 ++ (p2 :: ([] : (List Int)))))
   (automaton_useful.l15 p0 p1 (Go.IntKind.wrap Go.IntKind.i64 (p2 + (1 : Int))) p3 p4 p5))
  (automaton_useful.l21 p3 p4 p5) := (loopAt_step Go.Proofs.C07.ctx 99 15 _).trans (by kernel_rfl)
theorem automaton_classes.l15_eq (p0 : Int) (p1 : (List (List Int))) (p2 : Int) (p3 : Int) (p4 : Int) (p5 : Int) (p6 : (List (List Int))) (p7 : (List Bool)) (p8 : (List Int)) (p9 : (List ((List Int) × Int))) (p10 : (List Int)) : automaton_classes.l15 p0 p1 p2 p3 p4 p5 p6 p7 p8 p9 p10 =
  ifB (decide (p3 < p2))
   (bindD ((ixAt p1 p3)) fun t657 =>
   bindD ((ixAt p8 p3)) fun t658 =>
   bindD ((ixAt p8 p3)) fun t659 =>
   ifB (t659 == (0 : Int))
    (automaton_classes.l15 p0 p1 p2 (Go.IntKind.wrap Go.IntKind.i64 (p3 + (1 : Int))) p4 p5 p6 p7 p8 p9 p10)
   (bindD ((ixAt p8 p3)) fun t660 =>
    bindD ((ixAt p8 p3)) fun t661 =>
    automaton_classes.l20 p0 p3 p1 p2 p3 t657 (((List.length t657) : Nat) : Int) (0 : Int) p4 p5 p6 p7 p8 p9 p10 (List.set (List.replicate (9 : Nat) (0 : Int)) (0 : Nat) t661)))
  (ifB ((((List.length p9) : Nat) : Int) == p0)
    (some (p10, ()))
   (automaton_classes.l12 (((List.length p9) : Nat) : Int) p4 p5 p6 p7 p10)) := (loopAt_step Go.Proofs.C07.ctx 91 15 _).trans (by kernel_rfl)
theorem nondet_graph_accepts_1.f_eq (p0 : Int) (p1 : (List Bool)) : nondet_graph_accepts_1.f p0 p1 =
  bindD ((ixAt p1 p0)) fun t662 =>
  some (t662, ()) := (Einf_call Go.Proofs.C07.ctx 82 _).trans (by kernel_rfl)
theorem automaton_Valid_1.f_eq (p0 : Int) (p1 : Int) : automaton_Valid_1.f p0 p1 =
  ifB (decide (p0 < (-(1 : Int))))
   (some (true, ()))
  (some ((decide (p0 ≥ p1)), ())) := (Einf_call Go.Proofs.C07.ctx 88 _).trans (by kernel_rfl)
theorem automaton_useful.l21_eq (p0 : (List (List Int))) (p1 : (List Bool)) (p2 : (List Int)) : automaton_useful.l21 p0 p1 p2 =
  ifB (decide ((((List.length p2) : Nat) : Int) > (0 : Int)))
   (bindD ((ixAt p2 (0 : Int))) fun t685 =>
   bindD ((ixAt p2 (0 : Int))) fun t686 =>
   bindD ((subL p2 (1 : Int) (((List.length p2) : Nat) : Int))) fun t687 =>
   bindD ((ixAt p0 t686)) fun t688 =>
   bindD ((ixAt p0 t686)) fun t689 =>
   automaton_useful.l25 t689 (((List.length t689) : Nat) : Int) (0 : Int) p0 p1 t687)
  (some (p1, ())) := (loopAt_step Go.Proofs.C07.ctx 99 21 _).trans (by kernel_rfl)
theorem automaton_classes.l20_eq (p0 : Int) (p1 : Int) (p2 : (List (List Int))) (p3 : Int) (p4 : Int) (p5 : (List Int)) (p6 : Int) (p7 : Int) (p8 : Int) (p9 : Int) (p10 : (List (List Int))) (p11 : (List Bool)) (p12 : (List Int)) (p13 : (List ((List Int) × Int))) (p14 : (List Int)) (p15 : (List Int)) : automaton_classes.l20 p0 p1 p2 p3 p4 p5 p6 p7 p8 p9 p10 p11 p12 p13 p14 p15 =
  ifB (decide (p7 < p6))
   (bindD ((ixAt p5 p7)) fun t690 =>
   ifB (decide (t690 ≥ (0 : Int)))
    (bindD ((ixAt p12 t690)) fun t691 =>
    bindD ((ixAt p12 t690)) fun t692 =>
    bindD ((ixAt p15 (Go.IntKind.wrap Go.IntKind.i64 (p7 + (1 : Int))))) fun t693 =>
    bindD ((ixAt p15 (Go.IntKind.wrap Go.IntKind.i64 (p7 + (1 : Int))))) fun t694 =>
    automaton_classes.l20 p0 p1 p2 p3 p4 p5 p6 (Go.IntKind.wrap Go.IntKind.i64 (p7 + (1 : Int))) p8 p9 p10 p11 p12 p13 p14 (setRow p15 (Go.IntKind.wrap Go.IntKind.i64 (p7 + (1 : Int))) t692))
   (automaton_classes.l20 p0 p1 p2 p3 p4 p5 p6 (Go.IntKind.wrap Go.IntKind.i64 (p7 + (1 : Int))) p8 p9 p10 p11 p12 p13 p14 p15))
  (ifB ((Go.Proofs.R.mget (Go.Proofs.R.Ty.arr (9 : Nat) (Go.Proofs.R.Ty.int Go.IntKind.i64)) (0 : Int) p15 p13).1 == (0 : Int))
    (bindD ((ixAt p14 p1)) fun t695 =>
    bindD ((ixAt p14 p1)) fun t696 =>
    automaton_classes.l15 p0 p2 p3 (Go.IntKind.wrap Go.IntKind.i64 (p4 + (1 : Int))) p8 p9 p10 p11 p12 (Go.Proofs.R.mput (Go.Proofs.R.Ty.arr (9 : Nat) (Go.Proofs.R.Ty.int Go.IntKind.i64)) p15 (Go.IntKind.wrap Go.IntKind.i64 ((((List.length p13) : Nat) : Int) + (1 : Int))) p13) (setRow p14 p1 (Go.Proofs.R.mget (Go.Proofs.R.Ty.arr (9 : Nat) (Go.Proofs.R.Ty.int Go.IntKind.i64)) (0 : Int) p15 (Go.Proofs.R.mput (Go.Proofs.R.Ty.arr (9 : Nat) (Go.Proofs.R.Ty.int Go.IntKind.i64)) p15 (Go.IntKind.wrap Go.IntKind.i64 ((((List.length p13) : Nat) : Int) + (1 : Int))) p13)).1))
   (bindD ((ixAt p14 p1)) fun t697 =>
    bindD ((ixAt p14 p1)) fun t698 =>
    automaton_classes.l15 p0 p2 p3 (Go.IntKind.wrap Go.IntKind.i64 (p4 + (1 : Int))) p8 p9 p10 p11 p12 p13 (setRow p14 p1 (Go.Proofs.R.mget (Go.Proofs.R.Ty.arr (9 : Nat) (Go.Proofs.R.Ty.int Go.IntKind.i64)) (0 : Int) p15 p13).1))) := (loopAt_step Go.Proofs.C07.ctx 91 20 _).trans (by kernel_rfl)
theorem automaton_useful.l25_eq (p0 : (List Int)) (p1 : Int) (p2 : Int) (p3 : (List (List Int))) (p4 : (List Bool)) (p5 : (List Int)) : automaton_useful.l25 p0 p1 p2 p3 p4 p5 =
  ifB (decide (p2 < p1))
   (bindD ((ixAt p0 p2)) fun t699 =>
   bindD ((ixAt p4 t699)) fun t700 =>
   bindD ((ixAt p4 t699)) fun t701 =>
   ifB (!t701)
    (bindD ((ixAt p4 t699)) fun t702 =>
    bindD ((ixAt p4 t699)) fun t703 =>
    bindD ((Go.Proofs.R.grow ((List.length p5) + (List.length (t699 :: ([] : (List Int))))))) fun t704 =>
    automaton_useful.l25 p0 p1 (Go.IntKind.wrap Go.IntKind.i64 (p2 + (1 : Int))) p3 (setRow p4 t699 true) (p5 ++ (t699 :: ([] : (List Int)))))
   (automaton_useful.l25 p0 p1 (Go.IntKind.wrap Go.IntKind.i64 (p2 + (1 : Int))) p3 p4 p5))
  (automaton_useful.l21 p3 p4 p5) := (loopAt_step Go.Proofs.C07.ctx 99 25 _).trans (by kernel_rfl)
end Go.Proofs.C07
