/- C07B: what the row's functions are, as the evaluator tells them. No condition. -/
import Derived.Test.YtmbloefhgkhoaaaC07
set_option linter.unusedVariables false
set_option linter.unusedSimpArgs false
set_option maxRecDepth 100000
set_option linter.unusedVariables false
namespace Go.Proofs.C07
open Go Go.Proofs.R
noncomputable def ancepslaw07_NondetParts.f (p0 : Int) (p1 : Int) (p2 : Int) (p3 : Int) (p4 : (List (List Int))) (p5 : Int) (p6 : Int) (p7 : Int) (p8 : Int) (p9 : (List (List Int))) (p10 : (List Int)) : Option (Bool × Unit) := (Go.Proofs.R.Einf Go.Proofs.C07.ctx).call 9 [(.agg [(.v (.int .u8) p0), (.v (.int .u8) p1), (.v (.int .u8) p2), (.v (.int .u8) p3), (.v (.sl (.arr 3 (.int .u8))) p4)]), (.agg [(.v (.int .u8) p5), (.v (.int .u8) p6), (.v (.int .u8) p7), (.v (.int .u8) p8), (.v (.sl (.arr 3 (.int .u8))) p9)]), (.one (.v (.sl (.int .u8)) p10))]
noncomputable def ancepslaw07_NondetLarge.f (p0 : Int) (p1 : Int) : Option (Bool × Unit) := (Go.Proofs.R.Einf Go.Proofs.C07.ctx).call 8 [(.one (.v (.int .u16) p0)), (.one (.v (.int .u16) p1))]
noncomputable def ancepslaw07_awake.f : Option (Bool × Unit) := (Go.Proofs.R.Einf Go.Proofs.C07.ctx).call 11 []
noncomputable def ancepsref07_Valid.f (p0 : Int) (p1 : Int) (p2 : (List Int)) (p3 : (List (Int × (Int × Int)))) (p4 : (List Int)) : Option (Int × Unit) := (Go.Proofs.R.Einf Go.Proofs.C07.ctx).call 13 [(.agg [(.v (.int .i64) p0), (.v (.int .i64) p1), (.v (.sl (.int .i64)) p2), (.v (.sl (.pair (.int .i64) (.pair (.int .i64) (.int .i64)))) p3), (.v (.sl (.int .i64)) p4)])]
noncomputable def ancepsref07_Word.f (p0 : Int) (p1 : Int) (p2 : (List Int)) (p3 : (List (Int × (Int × Int)))) (p4 : (List Int)) (p5 : (List Int)) : Option ((List Int) × Unit) := (Go.Proofs.R.Einf Go.Proofs.C07.ctx).call 18 [(.agg [(.v (.int .i64) p0), (.v (.int .i64) p1), (.v (.sl (.int .i64)) p2), (.v (.sl (.pair (.int .i64) (.pair (.int .i64) (.int .i64)))) p3), (.v (.sl (.int .i64)) p4)]), (.one (.v (.sl (.int .u8)) p5))]
noncomputable def nondet_Accepts.f (p0 : Int) (p1 : Int) (p2 : (List Int)) (p3 : (List (Int × (Int × Int)))) (p4 : (List Int)) (p5 : (List Int)) : Option (Bool × (Int × Unit)) := (Go.Proofs.R.Einf Go.Proofs.C07.ctx).call 19 [(.agg [(.v (.int .i64) p0), (.v (.int .i64) p1), (.v (.sl (.int .i64)) p2), (.v (.sl (.pair (.int .i64) (.pair (.int .i64) (.int .i64)))) p3), (.v (.sl (.int .i64)) p4)]), (.one (.v (.sl (.int .i64)) p5))]
noncomputable def slices_Clone_int_int.f (p0 : (List Int)) : Option ((List Int) × Unit) := (Go.Proofs.R.Einf Go.Proofs.C07.ctx).call 22 [(.one (.v (.sl (.int .i64)) p0))]
noncomputable def nondet_Valid.f (p0 : Int) (p1 : Int) (p2 : (List Int)) (p3 : (List (Int × (Int × Int)))) (p4 : (List Int)) : Option (Int × Unit) := (Go.Proofs.R.Einf Go.Proofs.C07.ctx).call 25 [(.agg [(.v (.int .i64) p0), (.v (.int .i64) p1), (.v (.sl (.int .i64)) p2), (.v (.sl (.pair (.int .i64) (.pair (.int .i64) (.int .i64)))) p3), (.v (.sl (.int .i64)) p4)])]
noncomputable def nondet_Union.f (p0 : Int) (p1 : Int) (p2 : (List Int)) (p3 : (List (Int × (Int × Int)))) (p4 : (List Int)) (p5 : Int) (p6 : Int) (p7 : (List Int)) (p8 : (List (Int × (Int × Int)))) (p9 : (List Int)) : Option (Int × (Int × ((List Int) × ((List (Int × (Int × Int))) × ((List Int) × (Int × Unit)))))) := (Go.Proofs.R.Einf Go.Proofs.C07.ctx).call 34 [(.agg [(.v (.int .i64) p0), (.v (.int .i64) p1), (.v (.sl (.int .i64)) p2), (.v (.sl (.pair (.int .i64) (.pair (.int .i64) (.int .i64)))) p3), (.v (.sl (.int .i64)) p4)]), (.agg [(.v (.int .i64) p5), (.v (.int .i64) p6), (.v (.sl (.int .i64)) p7), (.v (.sl (.pair (.int .i64) (.pair (.int .i64) (.int .i64)))) p8), (.v (.sl (.int .i64)) p9)])]
noncomputable def ancepsref07_Union.f (p0 : Int) (p1 : Int) (p2 : (List Int)) (p3 : (List (Int × (Int × Int)))) (p4 : (List Int)) (p5 : Int) (p6 : Int) (p7 : (List Int)) (p8 : (List (Int × (Int × Int)))) (p9 : (List Int)) : Option (Int × (Int × ((List Int) × ((List (Int × (Int × Int))) × ((List Int) × (Int × Unit)))))) := (Go.Proofs.R.Einf Go.Proofs.C07.ctx).call 40 [(.agg [(.v (.int .i64) p0), (.v (.int .i64) p1), (.v (.sl (.int .i64)) p2), (.v (.sl (.pair (.int .i64) (.pair (.int .i64) (.int .i64)))) p3), (.v (.sl (.int .i64)) p4)]), (.agg [(.v (.int .i64) p5), (.v (.int .i64) p6), (.v (.sl (.int .i64)) p7), (.v (.sl (.pair (.int .i64) (.pair (.int .i64) (.int .i64)))) p8), (.v (.sl (.int .i64)) p9)])]
noncomputable def nondet_Concat.f (p0 : Int) (p1 : Int) (p2 : (List Int)) (p3 : (List (Int × (Int × Int)))) (p4 : (List Int)) (p5 : Int) (p6 : Int) (p7 : (List Int)) (p8 : (List (Int × (Int × Int)))) (p9 : (List Int)) : Option (Int × (Int × ((List Int) × ((List (Int × (Int × Int))) × ((List Int) × (Int × Unit)))))) := (Go.Proofs.R.Einf Go.Proofs.C07.ctx).call 36 [(.agg [(.v (.int .i64) p0), (.v (.int .i64) p1), (.v (.sl (.int .i64)) p2), (.v (.sl (.pair (.int .i64) (.pair (.int .i64) (.int .i64)))) p3), (.v (.sl (.int .i64)) p4)]), (.agg [(.v (.int .i64) p5), (.v (.int .i64) p6), (.v (.sl (.int .i64)) p7), (.v (.sl (.pair (.int .i64) (.pair (.int .i64) (.int .i64)))) p8), (.v (.sl (.int .i64)) p9)])]
noncomputable def ancepsref07_Concat.f (p0 : Int) (p1 : Int) (p2 : (List Int)) (p3 : (List (Int × (Int × Int)))) (p4 : (List Int)) (p5 : Int) (p6 : Int) (p7 : (List Int)) (p8 : (List (Int × (Int × Int)))) (p9 : (List Int)) : Option (Int × (Int × ((List Int) × ((List (Int × (Int × Int))) × ((List Int) × (Int × Unit)))))) := (Go.Proofs.R.Einf Go.Proofs.C07.ctx).call 41 [(.agg [(.v (.int .i64) p0), (.v (.int .i64) p1), (.v (.sl (.int .i64)) p2), (.v (.sl (.pair (.int .i64) (.pair (.int .i64) (.int .i64)))) p3), (.v (.sl (.int .i64)) p4)]), (.agg [(.v (.int .i64) p5), (.v (.int .i64) p6), (.v (.sl (.int .i64)) p7), (.v (.sl (.pair (.int .i64) (.pair (.int .i64) (.int .i64)))) p8), (.v (.sl (.int .i64)) p9)])]
noncomputable def nondet_Star.f (p0 : Int) (p1 : Int) (p2 : (List Int)) (p3 : (List (Int × (Int × Int)))) (p4 : (List Int)) : Option (Int × (Int × ((List Int) × ((List (Int × (Int × Int))) × ((List Int) × (Int × Unit)))))) := (Go.Proofs.R.Einf Go.Proofs.C07.ctx).call 35 [(.agg [(.v (.int .i64) p0), (.v (.int .i64) p1), (.v (.sl (.int .i64)) p2), (.v (.sl (.pair (.int .i64) (.pair (.int .i64) (.int .i64)))) p3), (.v (.sl (.int .i64)) p4)])]
noncomputable def ancepsref07_Star.f (p0 : Int) (p1 : Int) (p2 : (List Int)) (p3 : (List (Int × (Int × Int)))) (p4 : (List Int)) : Option (Int × (Int × ((List Int) × ((List (Int × (Int × Int))) × ((List Int) × (Int × Unit)))))) := (Go.Proofs.R.Einf Go.Proofs.C07.ctx).call 42 [(.agg [(.v (.int .i64) p0), (.v (.int .i64) p1), (.v (.sl (.int .i64)) p2), (.v (.sl (.pair (.int .i64) (.pair (.int .i64) (.int .i64)))) p3), (.v (.sl (.int .i64)) p4)])]
noncomputable def ancepsref07_Made.f (p0 : Int) (p1 : Int) (p2 : Int) (p3 : Int) (p4 : (List (List Int))) : Option (Int × (Int × ((List Int) × ((List (Int × (Int × Int))) × ((List Int) × Unit))))) := (Go.Proofs.R.Einf Go.Proofs.C07.ctx).call 31 [(.agg [(.v (.int .u8) p0), (.v (.int .u8) p1), (.v (.int .u8) p2), (.v (.int .u8) p3), (.v (.sl (.arr 3 (.int .u8))) p4)])]
noncomputable def ancepslaw07_NondetParts.l16 (p0 : (List Int)) (p1 : Bool) (p2 : Int) (p3 : Int) (p4 : Int) (p5 : Int) (p6 : (List Int)) (p7 : (List (Int × (Int × Int)))) (p8 : (List Int)) (p9 : Int) (p10 : Int) (p11 : (List Int)) (p12 : (List (Int × (Int × Int)))) (p13 : (List Int)) (p14 : Int) (p15 : Int) (p16 : (List Int)) (p17 : (List (Int × (Int × Int)))) (p18 : (List Int)) (p19 : Int) (p20 : Int) (p21 : (List Int)) (p22 : (List (Int × (Int × Int)))) (p23 : (List Int)) (p24 : Int) (p25 : Int) (p26 : (List Int)) (p27 : (List (Int × (Int × Int)))) (p28 : (List Int)) (p29 : (List Bool)) : Option (Bool × Unit) := Go.Proofs.R.loopAt Go.Proofs.C07.ctx (Go.Proofs.R.Einf Go.Proofs.C07.ctx) 9 16 (.mk [(7, (.one (.ref 7 0))), (8, (.one (.ref 15 0))), (9, (.one (.ref 23 0))), (11, (.one (.ref 31 0))), (13, (.one (.ref 39 0))), (15, (.one (.v (.sl (.int .i64)) p0))), (16, (.one (.clo 37 []))), (17, (.one (.v .bool p1))), (18, (.one (.row 47))), (74, (.one (.v (.int .i64) p2))), (75, (.one (.v (.int .i64) p3)))] [(7, (.box 25 [(.v (.int .i64) p4), (.v (.int .i64) p5), (.v (.sl (.int .i64)) p6), (.v (.sl (.pair (.int .i64) (.pair (.int .i64) (.int .i64)))) p7), (.v (.sl (.int .i64)) p8)])), (15, (.box 25 [(.v (.int .i64) p9), (.v (.int .i64) p10), (.v (.sl (.int .i64)) p11), (.v (.sl (.pair (.int .i64) (.pair (.int .i64) (.int .i64)))) p12), (.v (.sl (.int .i64)) p13)])), (23, (.box 25 [(.v (.int .i64) p14), (.v (.int .i64) p15), (.v (.sl (.int .i64)) p16), (.v (.sl (.pair (.int .i64) (.pair (.int .i64) (.int .i64)))) p17), (.v (.sl (.int .i64)) p18)])), (31, (.box 25 [(.v (.int .i64) p19), (.v (.int .i64) p20), (.v (.sl (.int .i64)) p21), (.v (.sl (.pair (.int .i64) (.pair (.int .i64) (.int .i64)))) p22), (.v (.sl (.int .i64)) p23)])), (39, (.box 25 [(.v (.int .i64) p24), (.v (.int .i64) p25), (.v (.sl (.int .i64)) p26), (.v (.sl (.pair (.int .i64) (.pair (.int .i64) (.int .i64)))) p27), (.v (.sl (.int .i64)) p28)])), (47, (.row 4 .bool p29 false))])
noncomputable def ancepslaw07_NondetLarge.l12 (p0 : Int) (p1 : Int) (p2 : (List ((Int × (Int × ((List Int) × ((List (Int × (Int × Int))) × (List Int))))) × Int))) : Option (Bool × Unit) := Go.Proofs.R.loopAt Go.Proofs.C07.ctx (Go.Proofs.R.Einf Go.Proofs.C07.ctx) 8 12 (.mk [(96, (.one (.row 7))), (97, (.one (.v (.int .i64) p0))), (98, (.one (.v (.int .i64) p1)))] [(7, (.row 64 (.pair (.pair (.int .i64) (.pair (.int .i64) (.pair (.sl (.int .i64)) (.pair (.sl (.pair (.int .i64) (.pair (.int .i64) (.int .i64)))) (.sl (.int .i64)))))) (.int .i64)) p2 false))])
noncomputable def ancepsref07_ascending.f (p0 : (List Int)) (p1 : Int) : Option (Bool × Unit) := (Go.Proofs.R.Einf Go.Proofs.C07.ctx).call 44 [(.one (.v (.sl (.int .i64)) p0)), (.one (.v (.int .i64) p1))]
noncomputable def ancepsref07_Valid.l6 (p0 : Int) (p1 : Int) (p2 : Int) (p3 : (List Int)) (p4 : (List (Int × (Int × Int)))) (p5 : (List Int)) : Option (Int × Unit) := Go.Proofs.R.loopAt Go.Proofs.C07.ctx (Go.Proofs.R.Einf Go.Proofs.C07.ctx) 13 6 (.mk [(1, (.one (.ref 7 0))), (3, (.one (.v (.int .i64) p0)))] [(7, (.box 25 [(.v (.int .i64) p1), (.v (.int .i64) p2), (.v (.sl (.int .i64)) p3), (.v (.sl (.pair (.int .i64) (.pair (.int .i64) (.int .i64)))) p4), (.v (.sl (.int .i64)) p5)]))])
noncomputable def api_Edge.f (p0 : (List (Int × (Int × Int)))) : Option ((List (Int × (Int × Int))) × Unit) := (Go.Proofs.R.Einf Go.Proofs.C07.ctx).call 53 [(.one (.v (.sl (.pair (.int .i64) (.pair (.int .i64) (.int .i64)))) p0))]
noncomputable def nondet_open.f (p0 : Int) (p1 : Int) (p2 : (List Int)) (p3 : (List (Int × (Int × Int)))) (p4 : (List Int)) : Option (Int × (Int × ((List Int) × ((List (Int × (Int × Int))) × ((List Int) × ((List (List (Int × (Int × Int)))) × Unit)))))) := (Go.Proofs.R.Einf Go.Proofs.C07.ctx).call 46 [(.agg [(.v (.int .i64) p0), (.v (.int .i64) p1), (.v (.sl (.int .i64)) p2), (.v (.sl (.pair (.int .i64) (.pair (.int .i64) (.int .i64)))) p3), (.v (.sl (.int .i64)) p4)])]
noncomputable def nondet_graph_closure.f (p0 : Int) (p1 : Int) (p2 : (List Int)) (p3 : (List (Int × (Int × Int)))) (p4 : (List Int)) (p5 : (List (List (Int × (Int × Int))))) (p6 : (List Int)) : Option ((List Bool) × Unit) := (Go.Proofs.R.Einf Go.Proofs.C07.ctx).call 47 [(.agg [(.v (.int .i64) p0), (.v (.int .i64) p1), (.v (.sl (.int .i64)) p2), (.v (.sl (.pair (.int .i64) (.pair (.int .i64) (.int .i64)))) p3), (.v (.sl (.int .i64)) p4), (.v (.sl (.sl (.pair (.int .i64) (.pair (.int .i64) (.int .i64))))) p5)]), (.one (.v (.sl (.int .i64)) p6))]
noncomputable def ancepsref07_Word.l3 (p0 : (List Int)) (p1 : Int) (p2 : Int) (p3 : Int) (p4 : (List Int)) (p5 : (List (Int × (Int × Int)))) (p6 : (List Int)) (p7 : (List Int)) : Option ((List Int) × Unit) := Go.Proofs.R.loopAt Go.Proofs.C07.ctx (Go.Proofs.R.Einf Go.Proofs.C07.ctx) 18 3 (.mk [(1, (.one (.v (.sl (.int .u8)) p0))), (2, (.one (.ref 7 0))), (5, (.one (.row 15))), (6, (.one (.v (.int .i64) p1)))] [(7, (.box 25 [(.v (.int .i64) p2), (.v (.int .i64) p3), (.v (.sl (.int .i64)) p4), (.v (.sl (.pair (.int .i64) (.pair (.int .i64) (.int .i64)))) p5), (.v (.sl (.int .i64)) p6)])), (15, (.row 3 (.int .i64) p7 false))])
noncomputable def slices_ContainsFunc_int_int.f (p0 : (List Int)) (p1 : Int) (p2 : Int) (p3 : (List Int)) (p4 : (List (Int × (Int × Int)))) (p5 : (List Int)) : Option (Bool × Unit) := (Go.Proofs.R.Einf Go.Proofs.C07.ctx).call 59 [(.one (.v (.sl (.int .i64)) p0)), (.one (.clo 60 [(.pref [(.v (.int .i64) p1), (.v (.int .i64) p2), (.v (.sl (.int .i64)) p3), (.v (.sl (.pair (.int .i64) (.pair (.int .i64) (.int .i64)))) p4), (.v (.sl (.int .i64)) p5)] 0)]))]
noncomputable def nondet_Accepts.l9 (p0 : (List Int)) (p1 : Int) (p2 : Int) (p3 : Int) (p4 : Int) (p5 : (List Int)) (p6 : (List (Int × (Int × Int)))) (p7 : (List Int)) (p8 : (List (List (Int × (Int × Int))))) (p9 : (List Bool)) : Option (Bool × (Int × Unit)) := Go.Proofs.R.loopAt Go.Proofs.C07.ctx (Go.Proofs.R.Einf Go.Proofs.C07.ctx) 19 9 (.mk [(7, (.one (.ref 7 0))), (8, (.one (.row 15))), (25, (.one (.v (.sl (.int .i64)) p0))), (26, (.one (.v (.int .i64) p1))), (27, (.one (.v (.int .i64) p2)))] [(7, (.box 78 [(.v (.int .i64) p3), (.v (.int .i64) p4), (.v (.sl (.int .i64)) p5), (.v (.sl (.pair (.int .i64) (.pair (.int .i64) (.int .i64)))) p6), (.v (.sl (.int .i64)) p7), (.v (.sl (.sl (.pair (.int .i64) (.pair (.int .i64) (.int .i64))))) p8)])), (15, (.row 4 .bool p9 false))])
noncomputable def nondet_set_list.f (p0 : (List Bool)) : Option ((List Int) × Unit) := (Go.Proofs.R.Einf Go.Proofs.C07.ctx).call 63 [(.one (.v (.sl .bool) p0))]
noncomputable def nondet_ascends.f (p0 : (List Int)) (p1 : Int) : Option (Bool × Unit) := (Go.Proofs.R.Einf Go.Proofs.C07.ctx).call 64 [(.one (.v (.sl (.int .i64)) p0)), (.one (.v (.int .i64) p1))]
noncomputable def nondet_Valid.l6 (p0 : (List (Int × (Int × Int)))) (p1 : Int) (p2 : Int) (p3 : Int) (p4 : Int) (p5 : (List Int)) (p6 : (List (Int × (Int × Int)))) (p7 : (List Int)) : Option (Int × Unit) := Go.Proofs.R.loopAt Go.Proofs.C07.ctx (Go.Proofs.R.Einf Go.Proofs.C07.ctx) 25 6 (.mk [(1, (.one (.ref 7 0))), (44, (.one (.v (.sl (.pair (.int .i64) (.pair (.int .i64) (.int .i64)))) p0))), (45, (.one (.v (.int .i64) p1))), (46, (.one (.v (.int .i64) p2)))] [(7, (.box 25 [(.v (.int .i64) p3), (.v (.int .i64) p4), (.v (.sl (.int .i64)) p5), (.v (.sl (.pair (.int .i64) (.pair (.int .i64) (.int .i64)))) p6), (.v (.sl (.int .i64)) p7)]))])
noncomputable def nondet_beside.f (p0 : Int) (p1 : Int) (p2 : (List Int)) (p3 : (List (Int × (Int × Int)))) (p4 : (List Int)) (p5 : Int) (p6 : Int) (p7 : (List Int)) (p8 : (List (Int × (Int × Int)))) (p9 : (List Int)) : Option (Int × (Int × ((List Int) × ((List (Int × (Int × Int))) × ((List Int) × (Int × Unit)))))) := (Go.Proofs.R.Einf Go.Proofs.C07.ctx).call 71 [(.agg [(.v (.int .i64) p0), (.v (.int .i64) p1), (.v (.sl (.int .i64)) p2), (.v (.sl (.pair (.int .i64) (.pair (.int .i64) (.int .i64)))) p3), (.v (.sl (.int .i64)) p4)]), (.agg [(.v (.int .i64) p5), (.v (.int .i64) p6), (.v (.sl (.int .i64)) p7), (.v (.sl (.pair (.int .i64) (.pair (.int .i64) (.int .i64)))) p8), (.v (.sl (.int .i64)) p9)])]
noncomputable def nondet_moved.f (p0 : (List Int)) (p1 : Int) : Option ((List Int) × Unit) := (Go.Proofs.R.Einf Go.Proofs.C07.ctx).call 72 [(.one (.v (.sl (.int .i64)) p0)), (.one (.v (.int .i64) p1))]
noncomputable def nondet_order.f (p0 : Int) (p1 : Int) (p2 : Int) (p3 : Int) (p4 : Int) (p5 : Int) : Option (Int × Unit) := (Go.Proofs.R.Einf Go.Proofs.C07.ctx).call 65 [(.agg [(.v (.int .i64) p0), (.v (.int .i64) p1), (.v (.int .i64) p2)]), (.agg [(.v (.int .i64) p3), (.v (.int .i64) p4), (.v (.int .i64) p5)])]
noncomputable def ancepsref07_two.f (p0 : Int) (p1 : Int) (p2 : (List Int)) (p3 : (List (Int × (Int × Int)))) (p4 : (List Int)) (p5 : Int) (p6 : Int) (p7 : (List Int)) (p8 : (List (Int × (Int × Int)))) (p9 : (List Int)) : Option (Int × Unit) := (Go.Proofs.R.Einf Go.Proofs.C07.ctx).call 74 [(.agg [(.v (.int .i64) p0), (.v (.int .i64) p1), (.v (.sl (.int .i64)) p2), (.v (.sl (.pair (.int .i64) (.pair (.int .i64) (.int .i64)))) p3), (.v (.sl (.int .i64)) p4)]), (.agg [(.v (.int .i64) p5), (.v (.int .i64) p6), (.v (.sl (.int .i64)) p7), (.v (.sl (.pair (.int .i64) (.pair (.int .i64) (.int .i64)))) p8), (.v (.sl (.int .i64)) p9)])]
noncomputable def ancepsref07_both.f (p0 : Int) (p1 : Int) (p2 : (List Int)) (p3 : (List (Int × (Int × Int)))) (p4 : (List Int)) (p5 : Int) (p6 : Int) (p7 : (List Int)) (p8 : (List (Int × (Int × Int)))) (p9 : (List Int)) : Option (Int × (Int × ((List Int) × ((List (Int × (Int × Int))) × ((List Int) × Unit))))) := (Go.Proofs.R.Einf Go.Proofs.C07.ctx).call 75 [(.agg [(.v (.int .i64) p0), (.v (.int .i64) p1), (.v (.sl (.int .i64)) p2), (.v (.sl (.pair (.int .i64) (.pair (.int .i64) (.int .i64)))) p3), (.v (.sl (.int .i64)) p4)]), (.agg [(.v (.int .i64) p5), (.v (.int .i64) p6), (.v (.sl (.int .i64)) p7), (.v (.sl (.pair (.int .i64) (.pair (.int .i64) (.int .i64)))) p8), (.v (.sl (.int .i64)) p9)])]
noncomputable def ancepsref07_moved.f (p0 : (List Int)) (p1 : Int) : Option ((List Int) × Unit) := (Go.Proofs.R.Einf Go.Proofs.C07.ctx).call 76 [(.one (.v (.sl (.int .i64)) p0)), (.one (.v (.int .i64) p1))]
noncomputable def ancepsref07_large.f (p0 : Int) (p1 : Int) (p2 : (List Int)) (p3 : (List (Int × (Int × Int)))) (p4 : (List Int)) : Option (Bool × Unit) := (Go.Proofs.R.Einf Go.Proofs.C07.ctx).call 77 [(.agg [(.v (.int .i64) p0), (.v (.int .i64) p1), (.v (.sl (.int .i64)) p2), (.v (.sl (.pair (.int .i64) (.pair (.int .i64) (.int .i64)))) p3), (.v (.sl (.int .i64)) p4)])]
noncomputable def nondet_Concat.l8 (p0 : (List Int)) (p1 : Int) (p2 : Int) (p3 : Int) (p4 : Int) (p5 : (List Int)) (p6 : (List (Int × (Int × Int)))) (p7 : (List Int)) (p8 : Int) (p9 : Int) (p10 : (List Int)) (p11 : (List (Int × (Int × Int)))) (p12 : (List Int)) (p13 : Int) (p14 : Int) (p15 : Int) (p16 : Int) (p17 : (List Int)) (p18 : (List (Int × (Int × Int)))) (p19 : (List Int)) (p20 : (List Int)) (p21 : (List (Int × (Int × Int)))) (p22 : (List Int)) : Option (Int × (Int × ((List Int) × ((List (Int × (Int × Int))) × ((List Int) × (Int × Unit)))))) := Go.Proofs.R.loopAt Go.Proofs.C07.ctx (Go.Proofs.R.Einf Go.Proofs.C07.ctx) 36 8 (.mk [(2, (.one (.ref 7 0))), (3, (.one (.ref 15 0))), (4, (.one (.ref 23 0))), (6, (.one (.ref 31 0))), (46, (.one (.v (.sl (.int .i64)) p0))), (47, (.one (.v (.int .i64) p1))), (48, (.one (.v (.int .i64) p2)))] [(7, (.box 25 [(.v (.int .i64) p3), (.v (.int .i64) p4), (.v (.sl (.int .i64)) p5), (.v (.sl (.pair (.int .i64) (.pair (.int .i64) (.int .i64)))) p6), (.v (.sl (.int .i64)) p7)])), (15, (.box 25 [(.v (.int .i64) p8), (.v (.int .i64) p9), (.v (.sl (.int .i64)) p10), (.v (.sl (.pair (.int .i64) (.pair (.int .i64) (.int .i64)))) p11), (.v (.sl (.int .i64)) p12)])), (23, (.box 25 [(.v (.int .i64) p13), (.v (.int .i64) p14), (.row 39), (.row 47), (.row 55)])), (31, (.box 25 [(.v (.int .i64) p15), (.v (.int .i64) p16), (.row 63), (.row 71), (.row 79)])), (39, (.row 3 (.int .i64) p17 false)), (47, (.row 74 (.pair (.int .i64) (.pair (.int .i64) (.int .i64))) p18 false)), (55, (.row 3 (.int .i64) p19 false)), (63, (.row 3 (.int .i64) p20 false)), (71, (.row 74 (.pair (.int .i64) (.pair (.int .i64) (.int .i64))) p21 false)), (79, (.row 3 (.int .i64) p22 false))])
noncomputable def ancepsref07_Concat.l8 (p0 : Int) (p1 : Int) (p2 : Int) (p3 : (List Int)) (p4 : (List (Int × (Int × Int)))) (p5 : (List Int)) (p6 : Int) (p7 : Int) (p8 : (List Int)) (p9 : (List (Int × (Int × Int)))) (p10 : (List Int)) (p11 : Int) (p12 : Int) (p13 : Int) (p14 : Int) (p15 : (List Int)) (p16 : (List (Int × (Int × Int)))) (p17 : (List Int)) (p18 : (List Int)) (p19 : (List (Int × (Int × Int)))) (p20 : (List Int)) : Option (Int × (Int × ((List Int) × ((List (Int × (Int × Int))) × ((List Int) × (Int × Unit)))))) := Go.Proofs.R.loopAt Go.Proofs.C07.ctx (Go.Proofs.R.Einf Go.Proofs.C07.ctx) 41 8 (.mk [(2, (.one (.ref 7 0))), (3, (.one (.ref 15 0))), (4, (.one (.ref 23 0))), (7, (.one (.ref 31 0))), (8, (.one (.v (.int .i64) p0)))] [(7, (.box 25 [(.v (.int .i64) p1), (.v (.int .i64) p2), (.v (.sl (.int .i64)) p3), (.v (.sl (.pair (.int .i64) (.pair (.int .i64) (.int .i64)))) p4), (.v (.sl (.int .i64)) p5)])), (15, (.box 25 [(.v (.int .i64) p6), (.v (.int .i64) p7), (.v (.sl (.int .i64)) p8), (.v (.sl (.pair (.int .i64) (.pair (.int .i64) (.int .i64)))) p9), (.v (.sl (.int .i64)) p10)])), (23, (.box 25 [(.v (.int .i64) p11), (.v (.int .i64) p12), (.row 39), (.row 47), (.row 55)])), (31, (.box 25 [(.v (.int .i64) p13), (.v (.int .i64) p14), (.row 63), (.row 71), (.row 79)])), (39, (.row 3 (.int .i64) p15 false)), (47, (.row 74 (.pair (.int .i64) (.pair (.int .i64) (.int .i64))) p16 false)), (55, (.row 3 (.int .i64) p17 false)), (63, (.row 3 (.int .i64) p18 false)), (71, (.row 74 (.pair (.int .i64) (.pair (.int .i64) (.int .i64))) p19 false)), (79, (.row 3 (.int .i64) p20 false))])
noncomputable def nondet_Star.l7 (p0 : Int) (p1 : (List Int)) (p2 : Int) (p3 : Int) (p4 : Int) (p5 : Int) (p6 : (List Int)) (p7 : (List (Int × (Int × Int)))) (p8 : (List Int)) (p9 : Int) (p10 : Int) (p11 : Int) (p12 : Int) (p13 : (List Int)) (p14 : (List (Int × (Int × Int)))) (p15 : (List Int)) (p16 : (List Int)) (p17 : (List (Int × (Int × Int)))) (p18 : (List Int)) : Option (Int × (Int × ((List Int) × ((List (Int × (Int × Int))) × ((List Int) × (Int × Unit)))))) := Go.Proofs.R.loopAt Go.Proofs.C07.ctx (Go.Proofs.R.Einf Go.Proofs.C07.ctx) 35 7 (.mk [(1, (.one (.ref 7 0))), (2, (.one (.ref 15 0))), (5, (.one (.v (.int .i64) p0))), (6, (.one (.ref 23 0))), (32, (.one (.v (.sl (.int .i64)) p1))), (33, (.one (.v (.int .i64) p2))), (34, (.one (.v (.int .i64) p3)))] [(7, (.box 25 [(.v (.int .i64) p4), (.v (.int .i64) p5), (.v (.sl (.int .i64)) p6), (.v (.sl (.pair (.int .i64) (.pair (.int .i64) (.int .i64)))) p7), (.v (.sl (.int .i64)) p8)])), (15, (.box 25 [(.v (.int .i64) p9), (.v (.int .i64) p10), (.row 31), (.row 39), (.row 47)])), (23, (.box 25 [(.v (.int .i64) p11), (.v (.int .i64) p12), (.row 55), (.row 63), (.row 71)])), (31, (.row 3 (.int .i64) p13 false)), (39, (.row 74 (.pair (.int .i64) (.pair (.int .i64) (.int .i64))) p14 false)), (47, (.row 3 (.int .i64) p15 false)), (55, (.row 3 (.int .i64) p16 false)), (63, (.row 74 (.pair (.int .i64) (.pair (.int .i64) (.int .i64))) p17 false)), (71, (.row 3 (.int .i64) p18 false))])
noncomputable def ancepsref07_Star.l8 (p0 : Int) (p1 : Int) (p2 : Int) (p3 : Int) (p4 : (List Int)) (p5 : (List (Int × (Int × Int)))) (p6 : (List Int)) (p7 : Int) (p8 : Int) (p9 : Int) (p10 : Int) (p11 : (List Int)) (p12 : (List (Int × (Int × Int)))) (p13 : (List Int)) (p14 : (List Int)) (p15 : (List (Int × (Int × Int)))) (p16 : (List Int)) : Option (Int × (Int × ((List Int) × ((List (Int × (Int × Int))) × ((List Int) × (Int × Unit)))))) := Go.Proofs.R.loopAt Go.Proofs.C07.ctx (Go.Proofs.R.Einf Go.Proofs.C07.ctx) 42 8 (.mk [(1, (.one (.ref 7 0))), (2, (.one (.ref 15 0))), (5, (.one (.v (.int .i64) p0))), (6, (.one (.ref 23 0))), (7, (.one (.v (.int .i64) p1)))] [(7, (.box 25 [(.v (.int .i64) p2), (.v (.int .i64) p3), (.v (.sl (.int .i64)) p4), (.v (.sl (.pair (.int .i64) (.pair (.int .i64) (.int .i64)))) p5), (.v (.sl (.int .i64)) p6)])), (15, (.box 25 [(.v (.int .i64) p7), (.v (.int .i64) p8), (.row 31), (.row 39), (.row 47)])), (23, (.box 25 [(.v (.int .i64) p9), (.v (.int .i64) p10), (.row 55), (.row 63), (.row 71)])), (31, (.row 3 (.int .i64) p11 false)), (39, (.row 74 (.pair (.int .i64) (.pair (.int .i64) (.int .i64))) p12 false)), (47, (.row 3 (.int .i64) p13 false)), (55, (.row 3 (.int .i64) p14 false)), (63, (.row 74 (.pair (.int .i64) (.pair (.int .i64) (.int .i64))) p15 false)), (71, (.row 3 (.int .i64) p16 false))])
noncomputable def ancepsref07_bits.f (p0 : Int) (p1 : Int) : Option ((List Int) × Unit) := (Go.Proofs.R.Einf Go.Proofs.C07.ctx).call 68 [(.one (.v (.int .u8) p0)), (.one (.v (.int .i64) p1))]
noncomputable def ancepsref07_Made.l5 (p0 : Int) (p1 : Int) (p2 : Int) (p3 : Int) (p4 : Int) (p5 : (List (List Int))) (p6 : Int) (p7 : Int) (p8 : Int) (p9 : Int) (p10 : (List (Int × (Int × Int)))) (p11 : (List Int)) (p12 : (List (Int × (Int × Int)))) (p13 : (List Int)) (p14 : (List Int)) (p15 : (List (Int × (Int × Int)))) (p16 : (List Int)) : Option (Int × (Int × ((List Int) × ((List (Int × (Int × Int))) × ((List Int) × Unit))))) := Go.Proofs.R.loopAt Go.Proofs.C07.ctx (Go.Proofs.R.Einf Go.Proofs.C07.ctx) 31 5 (.mk [(1, (.one (.ref 7 0))), (2, (.one (.ref 15 0))), (3, (.one (.ref 23 0))), (4, (.one (.row 31))), (5, (.one (.v (.int .i64) p0)))] [(7, (.box 56 [(.v (.int .u8) p1), (.v (.int .u8) p2), (.v (.int .u8) p3), (.v (.int .u8) p4), (.v (.sl (.arr 3 (.int .u8))) p5)])), (15, (.box 25 [(.v (.int .i64) p6), (.v (.int .i64) p7), (.row 39), (.row 47), (.row 55)])), (23, (.box 25 [(.v (.int .i64) p8), (.v (.int .i64) p9), (.row 63), (.row 71), (.row 79)])), (31, (.row 74 (.pair (.int .i64) (.pair (.int .i64) (.int .i64))) p10 false)), (39, (.row 3 (.int .i64) p11 false)), (47, (.row 74 (.pair (.int .i64) (.pair (.int .i64) (.int .i64))) p12 false)), (55, (.row 3 (.int .i64) p13 false)), (63, (.row 3 (.int .i64) p14 false)), (71, (.row 74 (.pair (.int .i64) (.pair (.int .i64) (.int .i64))) p15 false)), (79, (.row 3 (.int .i64) p16 false))])
noncomputable def ancepslaw07_NondetParts.l20 (p0 : (List Int)) (p1 : Bool) (p2 : Int) (p3 : Int) (p4 : Int) (p5 : Int) (p6 : Int) (p7 : Int) (p8 : Int) (p9 : (List Int)) (p10 : (List (Int × (Int × Int)))) (p11 : (List Int)) (p12 : Int) (p13 : Int) (p14 : (List Int)) (p15 : (List (Int × (Int × Int)))) (p16 : (List Int)) (p17 : Int) (p18 : Int) (p19 : (List Int)) (p20 : (List (Int × (Int × Int)))) (p21 : (List Int)) (p22 : Int) (p23 : Int) (p24 : (List Int)) (p25 : (List (Int × (Int × Int)))) (p26 : (List Int)) (p27 : Int) (p28 : Int) (p29 : (List Int)) (p30 : (List (Int × (Int × Int)))) (p31 : (List Int)) (p32 : (List Bool)) : Option (Bool × Unit) := Go.Proofs.R.loopAt Go.Proofs.C07.ctx (Go.Proofs.R.Einf Go.Proofs.C07.ctx) 9 20 (.mk [(7, (.one (.ref 7 0))), (8, (.one (.ref 15 0))), (9, (.one (.ref 23 0))), (11, (.one (.ref 31 0))), (13, (.one (.ref 39 0))), (15, (.one (.v (.sl (.int .i64)) p0))), (16, (.one (.clo 37 []))), (17, (.one (.v .bool p1))), (18, (.one (.row 47))), (19, (.one (.v (.int .i64) p2))), (74, (.one (.v (.int .i64) p3))), (75, (.one (.v (.int .i64) p4))), (95, (.one (.v (.int .i64) p5))), (96, (.one (.v (.int .i64) p6)))] [(7, (.box 25 [(.v (.int .i64) p7), (.v (.int .i64) p8), (.v (.sl (.int .i64)) p9), (.v (.sl (.pair (.int .i64) (.pair (.int .i64) (.int .i64)))) p10), (.v (.sl (.int .i64)) p11)])), (15, (.box 25 [(.v (.int .i64) p12), (.v (.int .i64) p13), (.v (.sl (.int .i64)) p14), (.v (.sl (.pair (.int .i64) (.pair (.int .i64) (.int .i64)))) p15), (.v (.sl (.int .i64)) p16)])), (23, (.box 25 [(.v (.int .i64) p17), (.v (.int .i64) p18), (.v (.sl (.int .i64)) p19), (.v (.sl (.pair (.int .i64) (.pair (.int .i64) (.int .i64)))) p20), (.v (.sl (.int .i64)) p21)])), (31, (.box 25 [(.v (.int .i64) p22), (.v (.int .i64) p23), (.v (.sl (.int .i64)) p24), (.v (.sl (.pair (.int .i64) (.pair (.int .i64) (.int .i64)))) p25), (.v (.sl (.int .i64)) p26)])), (39, (.box 25 [(.v (.int .i64) p27), (.v (.int .i64) p28), (.v (.sl (.int .i64)) p29), (.v (.sl (.pair (.int .i64) (.pair (.int .i64) (.int .i64)))) p30), (.v (.sl (.int .i64)) p31)])), (47, (.row 4 .bool p32 false))])
noncomputable def ancepslaw07_NondetParts_1.f (p0 : Int) (p1 : Int) (p2 : (List Int)) (p3 : (List (Int × (Int × Int)))) (p4 : (List Int)) (p5 : (List Int)) : Option (Bool × Unit) := (Go.Proofs.R.Einf Go.Proofs.C07.ctx).call 37 [(.agg [(.v (.int .i64) p0), (.v (.int .i64) p1), (.v (.sl (.int .i64)) p2), (.v (.sl (.pair (.int .i64) (.pair (.int .i64) (.int .i64)))) p3), (.v (.sl (.int .i64)) p4)]), (.one (.v (.sl (.int .i64)) p5))]
noncomputable def ancepsref07_ascending.l2 (p0 : (List Int)) (p1 : Int) (p2 : Int) : Option (Bool × Unit) := Go.Proofs.R.loopAt Go.Proofs.C07.ctx (Go.Proofs.R.Einf Go.Proofs.C07.ctx) 44 2 (.mk [(0, (.one (.v (.sl (.int .i64)) p0))), (1, (.one (.v (.int .i64) p1))), (5, (.one (.v (.int .i64) p2)))] [])
noncomputable def ancepsref07_ahead.f (p0 : Int) (p1 : Int) (p2 : Int) (p3 : Int) (p4 : Int) (p5 : Int) : Option (Bool × Unit) := (Go.Proofs.R.Einf Go.Proofs.C07.ctx).call 45 [(.agg [(.v (.int .i64) p0), (.v (.int .i64) p1), (.v (.int .i64) p2)]), (.agg [(.v (.int .i64) p3), (.v (.int .i64) p4), (.v (.int .i64) p5)])]
noncomputable def nondet_open.l3 (p0 : (List (Int × (Int × Int)))) (p1 : Int) (p2 : Int) (p3 : Int) (p4 : Int) (p5 : Int) (p6 : Int) (p7 : (List Int)) (p8 : (List (Int × (Int × Int)))) (p9 : (List Int)) (p10 : (List Int)) (p11 : (List (Int × (Int × Int)))) (p12 : (List Int)) (p13 : (List (List (Int × (Int × Int))))) (p14 : (List (List (Int × (Int × Int))))) : Option (Int × (Int × ((List Int) × ((List (Int × (Int × Int))) × ((List Int) × ((List (List (Int × (Int × Int)))) × Unit)))))) := Go.Proofs.R.loopAt Go.Proofs.C07.ctx (Go.Proofs.R.Einf Go.Proofs.C07.ctx) 46 3 (.mk [(2, (.one (.ref 7 0))), (3, (.one (.ref 15 0))), (12, (.one (.v (.sl (.pair (.int .i64) (.pair (.int .i64) (.int .i64)))) p0))), (13, (.one (.v (.int .i64) p1))), (14, (.one (.v (.int .i64) p2)))] [(7, (.box 78 [(.v (.int .i64) p3), (.v (.int .i64) p4), (.row 23), (.row 31), (.row 39), (.row 47)])), (15, (.box 78 [(.v (.int .i64) p5), (.v (.int .i64) p6), (.v (.sl (.int .i64)) p7), (.v (.sl (.pair (.int .i64) (.pair (.int .i64) (.int .i64)))) p8), (.v (.sl (.int .i64)) p9), (.row 55)])), (23, (.row 3 (.int .i64) p10 false)), (31, (.row 74 (.pair (.int .i64) (.pair (.int .i64) (.int .i64))) p11 false)), (39, (.row 3 (.int .i64) p12 false)), (47, (.row 23 (.sl (.pair (.int .i64) (.pair (.int .i64) (.int .i64)))) p13 false)), (55, (.rows 23 74 (.pair (.int .i64) (.pair (.int .i64) (.int .i64))) p14 .full))])
noncomputable def nondet_graph_closure.l4 (p0 : Int) (p1 : Int) (p2 : Int) (p3 : Int) (p4 : (List Int)) (p5 : (List (Int × (Int × Int)))) (p6 : (List Int)) (p7 : (List (List (Int × (Int × Int))))) (p8 : (List Bool)) (p9 : (List Int)) : Option ((List Bool) × Unit) := Go.Proofs.R.loopAt Go.Proofs.C07.ctx (Go.Proofs.R.Einf Go.Proofs.C07.ctx) 47 4 (.mk [(2, (.one (.ref 7 0))), (5, (.one (.row 15))), (6, (.one (.row 23))), (18, (.one (.row 23))), (19, (.one (.v (.int .i64) p0))), (20, (.one (.v (.int .i64) p1)))] [(7, (.box 78 [(.v (.int .i64) p2), (.v (.int .i64) p3), (.v (.sl (.int .i64)) p4), (.v (.sl (.pair (.int .i64) (.pair (.int .i64) (.int .i64)))) p5), (.v (.sl (.int .i64)) p6), (.v (.sl (.sl (.pair (.int .i64) (.pair (.int .i64) (.int .i64))))) p7)])), (15, (.row 4 .bool p8 false)), (23, (.row 3 (.int .i64) p9 false))])
noncomputable def slices_IndexFunc_int_int.f (p0 : (List Int)) (p1 : Int) (p2 : Int) (p3 : (List Int)) (p4 : (List (Int × (Int × Int)))) (p5 : (List Int)) : Option (Int × Unit) := (Go.Proofs.R.Einf Go.Proofs.C07.ctx).call 84 [(.one (.v (.sl (.int .i64)) p0)), (.one (.clo 60 [(.pref [(.v (.int .i64) p1), (.v (.int .i64) p2), (.v (.sl (.int .i64)) p3), (.v (.sl (.pair (.int .i64) (.pair (.int .i64) (.int .i64)))) p4), (.v (.sl (.int .i64)) p5)] 0)]))]
noncomputable def nondet_graph_step.f (p0 : Int) (p1 : Int) (p2 : (List Int)) (p3 : (List (Int × (Int × Int)))) (p4 : (List Int)) (p5 : (List (List (Int × (Int × Int))))) (p6 : (List Bool)) (p7 : Int) : Option ((List Bool) × Unit) := (Go.Proofs.R.Einf Go.Proofs.C07.ctx).call 50 [(.agg [(.v (.int .i64) p0), (.v (.int .i64) p1), (.v (.sl (.int .i64)) p2), (.v (.sl (.pair (.int .i64) (.pair (.int .i64) (.int .i64)))) p3), (.v (.sl (.int .i64)) p4), (.v (.sl (.sl (.pair (.int .i64) (.pair (.int .i64) (.int .i64))))) p5)]), (.one (.v (.sl .bool) p6)), (.one (.v (.int .i64) p7))]
noncomputable def nondet_graph_accepts.f (p0 : Int) (p1 : Int) (p2 : (List Int)) (p3 : (List (Int × (Int × Int)))) (p4 : (List Int)) (p5 : (List (List (Int × (Int × Int))))) (p6 : (List Bool)) : Option (Bool × Unit) := (Go.Proofs.R.Einf Go.Proofs.C07.ctx).call 52 [(.agg [(.v (.int .i64) p0), (.v (.int .i64) p1), (.v (.sl (.int .i64)) p2), (.v (.sl (.pair (.int .i64) (.pair (.int .i64) (.int .i64)))) p3), (.v (.sl (.int .i64)) p4), (.v (.sl (.sl (.pair (.int .i64) (.pair (.int .i64) (.int .i64))))) p5)]), (.one (.v (.sl .bool) p6))]
noncomputable def nondet_set_list.l3 (p0 : (List Bool)) (p1 : Int) (p2 : Int) (p3 : (List Int)) : Option ((List Int) × Unit) := Go.Proofs.R.loopAt Go.Proofs.C07.ctx (Go.Proofs.R.Einf Go.Proofs.C07.ctx) 63 3 (.mk [(3, (.one (.row 7))), (6, (.one (.v (.sl .bool) p0))), (7, (.one (.v (.int .i64) p1))), (8, (.one (.v (.int .i64) p2)))] [(7, (.row 3 (.int .i64) p3 false))])
noncomputable def nondet_ascends.l2 (p0 : (List Int)) (p1 : Int) (p2 : (List Int)) (p3 : Int) (p4 : Int) : Option (Bool × Unit) := Go.Proofs.R.loopAt Go.Proofs.C07.ctx (Go.Proofs.R.Einf Go.Proofs.C07.ctx) 64 2 (.mk [(0, (.one (.v (.sl (.int .i64)) p0))), (1, (.one (.v (.int .i64) p1))), (7, (.one (.v (.sl (.int .i64)) p2))), (8, (.one (.v (.int .i64) p3))), (9, (.one (.v (.int .i64) p4)))] [])
noncomputable def ancepsref07_sorted.f (p0 : (List (Int × (Int × Int)))) : Option ((List (Int × (Int × Int))) × Unit) := (Go.Proofs.R.Einf Go.Proofs.C07.ctx).call 69 [(.one (.v (.sl (.pair (.int .i64) (.pair (.int .i64) (.int .i64)))) p0))]
noncomputable def nondet_beside.l5 (p0 : (List (Int × (Int × Int)))) (p1 : Int) (p2 : Int) (p3 : Int) (p4 : Int) (p5 : (List Int)) (p6 : (List (Int × (Int × Int)))) (p7 : (List Int)) (p8 : Int) (p9 : Int) (p10 : Int) (p11 : Int) (p12 : (List Int)) (p13 : (List (Int × (Int × Int)))) (p14 : (List Int)) (p15 : (List Int)) (p16 : (List (Int × (Int × Int)))) (p17 : (List Int)) : Option (Int × (Int × ((List Int) × ((List (Int × (Int × Int))) × ((List Int) × (Int × Unit)))))) := Go.Proofs.R.loopAt Go.Proofs.C07.ctx (Go.Proofs.R.Einf Go.Proofs.C07.ctx) 71 5 (.mk [(2, (.one (.ref 7 0))), (4, (.one (.ref 15 0))), (6, (.one (.ref 23 0))), (37, (.one (.v (.sl (.pair (.int .i64) (.pair (.int .i64) (.int .i64)))) p0))), (38, (.one (.v (.int .i64) p1))), (39, (.one (.v (.int .i64) p2)))] [(7, (.box 25 [(.v (.int .i64) p3), (.v (.int .i64) p4), (.v (.sl (.int .i64)) p5), (.v (.sl (.pair (.int .i64) (.pair (.int .i64) (.int .i64)))) p6), (.v (.sl (.int .i64)) p7)])), (15, (.box 25 [(.v (.int .i64) p8), (.v (.int .i64) p9), (.row 31), (.row 39), (.row 47)])), (23, (.box 25 [(.v (.int .i64) p10), (.v (.int .i64) p11), (.row 55), (.row 63), (.row 71)])), (31, (.row 3 (.int .i64) p12 false)), (39, (.row 74 (.pair (.int .i64) (.pair (.int .i64) (.int .i64))) p13 false)), (47, (.row 3 (.int .i64) p14 false)), (55, (.row 3 (.int .i64) p15 false)), (63, (.row 74 (.pair (.int .i64) (.pair (.int .i64) (.int .i64))) p16 false)), (71, (.row 3 (.int .i64) p17 false))])
noncomputable def nondet_moved.l3 (p0 : Int) (p1 : (List Int)) (p2 : Int) (p3 : Int) (p4 : (List Int)) : Option ((List Int) × Unit) := Go.Proofs.R.loopAt Go.Proofs.C07.ctx (Go.Proofs.R.Einf Go.Proofs.C07.ctx) 72 3 (.mk [(1, (.one (.v (.int .i64) p0))), (5, (.one (.row 7))), (8, (.one (.v (.sl (.int .i64)) p1))), (9, (.one (.v (.int .i64) p2))), (10, (.one (.v (.int .i64) p3)))] [(7, (.row 3 (.int .i64) p4 false))])
noncomputable def cmp_Compare_int.f (p0 : Int) (p1 : Int) : Option (Int × Unit) := (Go.Proofs.R.Einf Go.Proofs.C07.ctx).call 87 [(.one (.v (.int .i64) p0)), (.one (.v (.int .i64) p1))]
noncomputable def cmp_Or_int.f (p0 : (List Int)) : Option (Int × Unit) := (Go.Proofs.R.Einf Go.Proofs.C07.ctx).call 86 [(.one (.v (.sl (.int .i64)) p0))]
noncomputable def ancepsref07_both.l4 (p0 : Int) (p1 : Int) (p2 : Int) (p3 : (List Int)) (p4 : (List (Int × (Int × Int)))) (p5 : (List Int)) (p6 : Int) (p7 : Int) (p8 : (List Int)) (p9 : (List (Int × (Int × Int)))) (p10 : (List Int)) (p11 : Int) (p12 : Int) (p13 : Int) (p14 : Int) (p15 : (List Int)) (p16 : (List (Int × (Int × Int)))) (p17 : (List Int)) (p18 : (List Int)) (p19 : (List (Int × (Int × Int)))) (p20 : (List Int)) : Option (Int × (Int × ((List Int) × ((List (Int × (Int × Int))) × ((List Int) × Unit))))) := Go.Proofs.R.loopAt Go.Proofs.C07.ctx (Go.Proofs.R.Einf Go.Proofs.C07.ctx) 75 4 (.mk [(2, (.one (.ref 7 0))), (3, (.one (.ref 15 0))), (4, (.one (.ref 23 0))), (5, (.one (.ref 31 0))), (6, (.one (.v (.int .i64) p0)))] [(7, (.box 25 [(.v (.int .i64) p1), (.v (.int .i64) p2), (.v (.sl (.int .i64)) p3), (.v (.sl (.pair (.int .i64) (.pair (.int .i64) (.int .i64)))) p4), (.v (.sl (.int .i64)) p5)])), (15, (.box 25 [(.v (.int .i64) p6), (.v (.int .i64) p7), (.v (.sl (.int .i64)) p8), (.v (.sl (.pair (.int .i64) (.pair (.int .i64) (.int .i64)))) p9), (.v (.sl (.int .i64)) p10)])), (23, (.box 25 [(.v (.int .i64) p11), (.v (.int .i64) p12), (.row 39), (.row 47), (.row 55)])), (31, (.box 25 [(.v (.int .i64) p13), (.v (.int .i64) p14), (.row 63), (.row 71), (.row 79)])), (39, (.row 3 (.int .i64) p15 false)), (47, (.row 74 (.pair (.int .i64) (.pair (.int .i64) (.int .i64))) p16 false)), (55, (.row 3 (.int .i64) p17 false)), (63, (.row 3 (.int .i64) p18 false)), (71, (.row 74 (.pair (.int .i64) (.pair (.int .i64) (.int .i64))) p19 false)), (79, (.row 3 (.int .i64) p20 false))])
noncomputable def ancepsref07_moved.l3 (p0 : (List Int)) (p1 : Int) (p2 : Int) (p3 : (List Int)) : Option ((List Int) × Unit) := Go.Proofs.R.loopAt Go.Proofs.C07.ctx (Go.Proofs.R.Einf Go.Proofs.C07.ctx) 76 3 (.mk [(0, (.one (.v (.sl (.int .i64)) p0))), (1, (.one (.v (.int .i64) p1))), (5, (.one (.row 7))), (6, (.one (.v (.int .i64) p2)))] [(7, (.row 3 (.int .i64) p3 false))])
noncomputable def nondet_Concat.l11 (p0 : Int) (p1 : (List Int)) (p2 : Int) (p3 : Int) (p4 : (List Int)) (p5 : Int) (p6 : Int) (p7 : Int) (p8 : Int) (p9 : (List Int)) (p10 : (List (Int × (Int × Int)))) (p11 : (List Int)) (p12 : Int) (p13 : Int) (p14 : (List Int)) (p15 : (List (Int × (Int × Int)))) (p16 : (List Int)) (p17 : Int) (p18 : Int) (p19 : Int) (p20 : Int) (p21 : (List Int)) (p22 : (List (Int × (Int × Int)))) (p23 : (List Int)) (p24 : (List Int)) (p25 : (List (Int × (Int × Int)))) (p26 : (List Int)) : Option (Int × (Int × ((List Int) × ((List (Int × (Int × Int))) × ((List Int) × (Int × Unit)))))) := Go.Proofs.R.loopAt Go.Proofs.C07.ctx (Go.Proofs.R.Einf Go.Proofs.C07.ctx) 36 11 (.mk [(2, (.one (.ref 7 0))), (3, (.one (.ref 15 0))), (4, (.one (.ref 23 0))), (6, (.one (.ref 31 0))), (9, (.one (.v (.int .i64) p0))), (46, (.one (.v (.sl (.int .i64)) p1))), (47, (.one (.v (.int .i64) p2))), (48, (.one (.v (.int .i64) p3))), (53, (.one (.v (.sl (.int .i64)) p4))), (54, (.one (.v (.int .i64) p5))), (55, (.one (.v (.int .i64) p6)))] [(7, (.box 25 [(.v (.int .i64) p7), (.v (.int .i64) p8), (.v (.sl (.int .i64)) p9), (.v (.sl (.pair (.int .i64) (.pair (.int .i64) (.int .i64)))) p10), (.v (.sl (.int .i64)) p11)])), (15, (.box 25 [(.v (.int .i64) p12), (.v (.int .i64) p13), (.v (.sl (.int .i64)) p14), (.v (.sl (.pair (.int .i64) (.pair (.int .i64) (.int .i64)))) p15), (.v (.sl (.int .i64)) p16)])), (23, (.box 25 [(.v (.int .i64) p17), (.v (.int .i64) p18), (.row 39), (.row 47), (.row 55)])), (31, (.box 25 [(.v (.int .i64) p19), (.v (.int .i64) p20), (.row 63), (.row 71), (.row 79)])), (39, (.row 3 (.int .i64) p21 false)), (47, (.row 74 (.pair (.int .i64) (.pair (.int .i64) (.int .i64))) p22 false)), (55, (.row 3 (.int .i64) p23 false)), (63, (.row 3 (.int .i64) p24 false)), (71, (.row 74 (.pair (.int .i64) (.pair (.int .i64) (.int .i64))) p25 false)), (79, (.row 3 (.int .i64) p26 false))])
noncomputable def ancepsref07_Concat.l11 (p0 : Int) (p1 : Int) (p2 : Int) (p3 : Int) (p4 : (List Int)) (p5 : (List (Int × (Int × Int)))) (p6 : (List Int)) (p7 : Int) (p8 : Int) (p9 : (List Int)) (p10 : (List (Int × (Int × Int)))) (p11 : (List Int)) (p12 : Int) (p13 : Int) (p14 : Int) (p15 : Int) (p16 : (List Int)) (p17 : (List (Int × (Int × Int)))) (p18 : (List Int)) (p19 : (List Int)) (p20 : (List (Int × (Int × Int)))) (p21 : (List Int)) : Option (Int × (Int × ((List Int) × ((List (Int × (Int × Int))) × ((List Int) × (Int × Unit)))))) := Go.Proofs.R.loopAt Go.Proofs.C07.ctx (Go.Proofs.R.Einf Go.Proofs.C07.ctx) 41 11 (.mk [(2, (.one (.ref 7 0))), (3, (.one (.ref 15 0))), (4, (.one (.ref 23 0))), (7, (.one (.ref 31 0))), (8, (.one (.v (.int .i64) p0))), (9, (.one (.v (.int .i64) p1)))] [(7, (.box 25 [(.v (.int .i64) p2), (.v (.int .i64) p3), (.v (.sl (.int .i64)) p4), (.v (.sl (.pair (.int .i64) (.pair (.int .i64) (.int .i64)))) p5), (.v (.sl (.int .i64)) p6)])), (15, (.box 25 [(.v (.int .i64) p7), (.v (.int .i64) p8), (.v (.sl (.int .i64)) p9), (.v (.sl (.pair (.int .i64) (.pair (.int .i64) (.int .i64)))) p10), (.v (.sl (.int .i64)) p11)])), (23, (.box 25 [(.v (.int .i64) p12), (.v (.int .i64) p13), (.row 39), (.row 47), (.row 55)])), (31, (.box 25 [(.v (.int .i64) p14), (.v (.int .i64) p15), (.row 63), (.row 71), (.row 79)])), (39, (.row 3 (.int .i64) p16 false)), (47, (.row 74 (.pair (.int .i64) (.pair (.int .i64) (.int .i64))) p17 false)), (55, (.row 3 (.int .i64) p18 false)), (63, (.row 3 (.int .i64) p19 false)), (71, (.row 74 (.pair (.int .i64) (.pair (.int .i64) (.int .i64))) p20 false)), (79, (.row 3 (.int .i64) p21 false))])
noncomputable def nondet_Star.l12 (p0 : Int) (p1 : (List Int)) (p2 : Int) (p3 : Int) (p4 : Int) (p5 : Int) (p6 : Int) (p7 : Int) (p8 : (List Int)) (p9 : (List (Int × (Int × Int)))) (p10 : (List Int)) (p11 : (List Int)) (p12 : (List (Int × (Int × Int)))) (p13 : (List Int)) : Option (Int × (Int × ((List Int) × ((List (Int × (Int × Int))) × ((List Int) × (Int × Unit)))))) := Go.Proofs.R.loopAt Go.Proofs.C07.ctx (Go.Proofs.R.Einf Go.Proofs.C07.ctx) 35 12 (.mk [(2, (.one (.ref 7 0))), (5, (.one (.v (.int .i64) p0))), (6, (.one (.ref 15 0))), (48, (.one (.v (.sl (.int .i64)) p1))), (49, (.one (.v (.int .i64) p2))), (50, (.one (.v (.int .i64) p3)))] [(7, (.box 25 [(.v (.int .i64) p4), (.v (.int .i64) p5), (.row 23), (.row 31), (.row 39)])), (15, (.box 25 [(.v (.int .i64) p6), (.v (.int .i64) p7), (.row 47), (.row 55), (.row 63)])), (23, (.row 3 (.int .i64) p8 false)), (31, (.row 74 (.pair (.int .i64) (.pair (.int .i64) (.int .i64))) p9 false)), (39, (.row 3 (.int .i64) p10 false)), (47, (.row 3 (.int .i64) p11 false)), (55, (.row 74 (.pair (.int .i64) (.pair (.int .i64) (.int .i64))) p12 false)), (63, (.row 3 (.int .i64) p13 false))])
noncomputable def ancepsref07_Star.l12 (p0 : Int) (p1 : Int) (p2 : Int) (p3 : Int) (p4 : (List Int)) (p5 : (List (Int × (Int × Int)))) (p6 : (List Int)) (p7 : Int) (p8 : Int) (p9 : Int) (p10 : Int) (p11 : (List Int)) (p12 : (List (Int × (Int × Int)))) (p13 : (List Int)) (p14 : (List Int)) (p15 : (List (Int × (Int × Int)))) (p16 : (List Int)) : Option (Int × (Int × ((List Int) × ((List (Int × (Int × Int))) × ((List Int) × (Int × Unit)))))) := Go.Proofs.R.loopAt Go.Proofs.C07.ctx (Go.Proofs.R.Einf Go.Proofs.C07.ctx) 42 12 (.mk [(1, (.one (.ref 7 0))), (2, (.one (.ref 15 0))), (5, (.one (.v (.int .i64) p0))), (6, (.one (.ref 23 0))), (8, (.one (.v (.int .i64) p1)))] [(7, (.box 25 [(.v (.int .i64) p2), (.v (.int .i64) p3), (.v (.sl (.int .i64)) p4), (.v (.sl (.pair (.int .i64) (.pair (.int .i64) (.int .i64)))) p5), (.v (.sl (.int .i64)) p6)])), (15, (.box 25 [(.v (.int .i64) p7), (.v (.int .i64) p8), (.row 31), (.row 39), (.row 47)])), (23, (.box 25 [(.v (.int .i64) p9), (.v (.int .i64) p10), (.row 55), (.row 63), (.row 71)])), (31, (.row 3 (.int .i64) p11 false)), (39, (.row 74 (.pair (.int .i64) (.pair (.int .i64) (.int .i64))) p12 false)), (47, (.row 3 (.int .i64) p13 false)), (55, (.row 3 (.int .i64) p14 false)), (63, (.row 74 (.pair (.int .i64) (.pair (.int .i64) (.int .i64))) p15 false)), (71, (.row 3 (.int .i64) p16 false))])
noncomputable def ancepsref07_bits.l3 (p0 : Int) (p1 : Int) (p2 : Int) (p3 : (List Int)) : Option ((List Int) × Unit) := Go.Proofs.R.loopAt Go.Proofs.C07.ctx (Go.Proofs.R.Einf Go.Proofs.C07.ctx) 68 3 (.mk [(0, (.one (.v (.int .u8) p0))), (1, (.one (.v (.int .i64) p1))), (5, (.one (.row 7))), (6, (.one (.v (.int .i64) p2)))] [(7, (.row 3 (.int .i64) p3 false))])
noncomputable def nondet_graph_closure.l8 (p0 : Int) (p1 : Int) (p2 : (List Int)) (p3 : (List (Int × (Int × Int)))) (p4 : (List Int)) (p5 : (List (List (Int × (Int × Int))))) (p6 : (List Bool)) (p7 : (List Int)) : Option ((List Bool) × Unit) := Go.Proofs.R.loopAt Go.Proofs.C07.ctx (Go.Proofs.R.Einf Go.Proofs.C07.ctx) 47 8 (.mk [(2, (.one (.ref 7 0))), (5, (.one (.row 15))), (6, (.one (.row 23)))] [(7, (.box 78 [(.v (.int .i64) p0), (.v (.int .i64) p1), (.v (.sl (.int .i64)) p2), (.v (.sl (.pair (.int .i64) (.pair (.int .i64) (.int .i64)))) p3), (.v (.sl (.int .i64)) p4), (.v (.sl (.sl (.pair (.int .i64) (.pair (.int .i64) (.int .i64))))) p5)])), (15, (.row 4 .bool p6 false)), (23, (.row 3 (.int .i64) p7 false))])
noncomputable def slices_IndexFunc_int_int.l2 (p0 : (List Int)) (p1 : Int) (p2 : Int) (p3 : (List Int)) (p4 : (List (Int × (Int × Int)))) (p5 : (List Int)) (p6 : Int) (p7 : Int) : Option (Int × Unit) := Go.Proofs.R.loopAt Go.Proofs.C07.ctx (Go.Proofs.R.Einf Go.Proofs.C07.ctx) 84 2 (.mk [(0, (.one (.v (.sl (.int .i64)) p0))), (1, (.one (.clo 60 [(.pref [(.v (.int .i64) p1), (.v (.int .i64) p2), (.v (.sl (.int .i64)) p3), (.v (.sl (.pair (.int .i64) (.pair (.int .i64) (.int .i64)))) p4), (.v (.sl (.int .i64)) p5)] 0)]))), (7, (.one (.v (.int .i64) p6))), (8, (.one (.v (.int .i64) p7)))] [])
noncomputable def nondet_graph_step.l3 (p0 : Int) (p1 : Int) (p2 : Int) (p3 : Int) (p4 : Int) (p5 : (List Int)) (p6 : (List (Int × (Int × Int)))) (p7 : (List Int)) (p8 : (List (List (Int × (Int × Int))))) (p9 : (List Int)) (p10 : (List Int)) : Option ((List Bool) × Unit) := Go.Proofs.R.loopAt Go.Proofs.C07.ctx (Go.Proofs.R.Einf Go.Proofs.C07.ctx) 50 3 (.mk [(2, (.one (.v (.int .i64) p0))), (3, (.one (.ref 7 0))), (7, (.one (.row 15))), (13, (.one (.row 23))), (14, (.one (.v (.int .i64) p1))), (15, (.one (.v (.int .i64) p2)))] [(7, (.box 78 [(.v (.int .i64) p3), (.v (.int .i64) p4), (.v (.sl (.int .i64)) p5), (.v (.sl (.pair (.int .i64) (.pair (.int .i64) (.int .i64)))) p6), (.v (.sl (.int .i64)) p7), (.v (.sl (.sl (.pair (.int .i64) (.pair (.int .i64) (.int .i64))))) p8)])), (15, (.row 3 (.int .i64) p9 false)), (23, (.row 3 (.int .i64) p10 false))])
noncomputable def slices_ContainsFunc_int_int.f2 (p0 : (List Int)) (p1 : (List Bool)) : Option (Bool × Unit) := (Go.Proofs.R.Einf Go.Proofs.C07.ctx).call 59 [(.one (.v (.sl (.int .i64)) p0)), (.one (.clo 82 [(.pref [(.v (.sl .bool) p1)] 0)]))]
noncomputable def ancepsref07_sorted.l3 (p0 : (List (Int × (Int × Int)))) (p1 : Int) (p2 : (List (Int × (Int × Int)))) : Option ((List (Int × (Int × Int))) × Unit) := Go.Proofs.R.loopAt Go.Proofs.C07.ctx (Go.Proofs.R.Einf Go.Proofs.C07.ctx) 69 3 (.mk [(0, (.one (.v (.sl (.pair (.int .i64) (.pair (.int .i64) (.int .i64)))) p0))), (3, (.one (.row 7))), (4, (.one (.v (.int .i64) p1)))] [(7, (.row 74 (.pair (.int .i64) (.pair (.int .i64) (.int .i64))) p2 false))])
noncomputable def cmp_isNaN_int.f (p0 : Int) : Option (Bool × Unit) := (Go.Proofs.R.Einf Go.Proofs.C07.ctx).call 94 [(.one (.v (.int .i64) p0))]
noncomputable def cmp_Or_int.l3 (p0 : Int) (p1 : (List Int)) (p2 : Int) (p3 : Int) : Option (Int × Unit) := Go.Proofs.R.loopAt Go.Proofs.C07.ctx (Go.Proofs.R.Einf Go.Proofs.C07.ctx) 86 3 (.mk [(3, (.one (.v (.int .i64) p0))), (6, (.one (.v (.sl (.int .i64)) p1))), (7, (.one (.v (.int .i64) p2))), (8, (.one (.v (.int .i64) p3)))] [])
noncomputable def nondet_graph_closure.l12 (p0 : (List (Int × (Int × Int)))) (p1 : Int) (p2 : Int) (p3 : Int) (p4 : Int) (p5 : (List Int)) (p6 : (List (Int × (Int × Int)))) (p7 : (List Int)) (p8 : (List (List (Int × (Int × Int))))) (p9 : (List Bool)) (p10 : (List Int)) : Option ((List Bool) × Unit) := Go.Proofs.R.loopAt Go.Proofs.C07.ctx (Go.Proofs.R.Einf Go.Proofs.C07.ctx) 47 12 (.mk [(2, (.one (.ref 7 0))), (5, (.one (.row 15))), (6, (.one (.row 23))), (46, (.one (.v (.sl (.pair (.int .i64) (.pair (.int .i64) (.int .i64)))) p0))), (47, (.one (.v (.int .i64) p1))), (48, (.one (.v (.int .i64) p2)))] [(7, (.box 78 [(.v (.int .i64) p3), (.v (.int .i64) p4), (.v (.sl (.int .i64)) p5), (.v (.sl (.pair (.int .i64) (.pair (.int .i64) (.int .i64)))) p6), (.v (.sl (.int .i64)) p7), (.v (.sl (.sl (.pair (.int .i64) (.pair (.int .i64) (.int .i64))))) p8)])), (15, (.row 4 .bool p9 false)), (23, (.row 3 (.int .i64) p10 false))])
noncomputable def nondet_Accepts_1.f (p0 : Int) (p1 : Int) (p2 : Int) (p3 : (List Int)) (p4 : (List (Int × (Int × Int)))) (p5 : (List Int)) : Option (Bool × Unit) := (Go.Proofs.R.Einf Go.Proofs.C07.ctx).call 60 [(.one (.v (.int .i64) p0)), (.one (.pref [(.v (.int .i64) p1), (.v (.int .i64) p2), (.v (.sl (.int .i64)) p3), (.v (.sl (.pair (.int .i64) (.pair (.int .i64) (.int .i64)))) p4), (.v (.sl (.int .i64)) p5)] 0))]
noncomputable def nondet_graph_step.l6 (p0 : Int) (p1 : Int) (p2 : Int) (p3 : (List (Int × (Int × Int)))) (p4 : Int) (p5 : Int) (p6 : Int) (p7 : Int) (p8 : (List Int)) (p9 : (List (Int × (Int × Int)))) (p10 : (List Int)) (p11 : (List (List (Int × (Int × Int))))) (p12 : (List Int)) (p13 : (List Int)) : Option ((List Bool) × Unit) := Go.Proofs.R.loopAt Go.Proofs.C07.ctx (Go.Proofs.R.Einf Go.Proofs.C07.ctx) 50 6 (.mk [(2, (.one (.v (.int .i64) p0))), (3, (.one (.ref 7 0))), (7, (.one (.row 15))), (13, (.one (.row 23))), (14, (.one (.v (.int .i64) p1))), (15, (.one (.v (.int .i64) p2))), (23, (.one (.v (.sl (.pair (.int .i64) (.pair (.int .i64) (.int .i64)))) p3))), (24, (.one (.v (.int .i64) p4))), (25, (.one (.v (.int .i64) p5)))] [(7, (.box 78 [(.v (.int .i64) p6), (.v (.int .i64) p7), (.v (.sl (.int .i64)) p8), (.v (.sl (.pair (.int .i64) (.pair (.int .i64) (.int .i64)))) p9), (.v (.sl (.int .i64)) p10), (.v (.sl (.sl (.pair (.int .i64) (.pair (.int .i64) (.int .i64))))) p11)])), (15, (.row 3 (.int .i64) p12 false)), (23, (.row 3 (.int .i64) p13 false))])
noncomputable def slices_IndexFunc_int_int.f2 (p0 : (List Int)) (p1 : (List Bool)) : Option (Int × Unit) := (Go.Proofs.R.Einf Go.Proofs.C07.ctx).call 84 [(.one (.v (.sl (.int .i64)) p0)), (.one (.clo 82 [(.pref [(.v (.sl .bool) p1)] 0)]))]
noncomputable def ancepsref07_sorted.l6 (p0 : (List (Int × (Int × Int)))) (p1 : Int) (p2 : Int) (p3 : (List (Int × (Int × Int)))) : Option ((List (Int × (Int × Int))) × Unit) := Go.Proofs.R.loopAt Go.Proofs.C07.ctx (Go.Proofs.R.Einf Go.Proofs.C07.ctx) 69 6 (.mk [(0, (.one (.v (.sl (.pair (.int .i64) (.pair (.int .i64) (.int .i64)))) p0))), (3, (.one (.row 7))), (4, (.one (.v (.int .i64) p1))), (5, (.one (.v (.int .i64) p2)))] [(7, (.row 74 (.pair (.int .i64) (.pair (.int .i64) (.int .i64))) p3 false))])
noncomputable def slices_IndexFunc_int_int.l2_2 (p0 : (List Int)) (p1 : (List Bool)) (p2 : Int) (p3 : Int) : Option (Int × Unit) := Go.Proofs.R.loopAt Go.Proofs.C07.ctx (Go.Proofs.R.Einf Go.Proofs.C07.ctx) 84 2 (.mk [(0, (.one (.v (.sl (.int .i64)) p0))), (1, (.one (.clo 82 [(.pref [(.v (.sl .bool) p1)] 0)]))), (7, (.one (.v (.int .i64) p2))), (8, (.one (.v (.int .i64) p3)))] [])
noncomputable def ancepsref07_sorted.l11 (p0 : (List (Int × (Int × Int)))) (p1 : Int) (p2 : Int) (p3 : Int) (p4 : (List (Int × (Int × Int)))) : Option ((List (Int × (Int × Int))) × Unit) := Go.Proofs.R.loopAt Go.Proofs.C07.ctx (Go.Proofs.R.Einf Go.Proofs.C07.ctx) 69 11 (.mk [(0, (.one (.v (.sl (.pair (.int .i64) (.pair (.int .i64) (.int .i64)))) p0))), (3, (.one (.row 7))), (4, (.one (.v (.int .i64) p1))), (5, (.one (.v (.int .i64) p2))), (6, (.one (.v (.int .i64) p3)))] [(7, (.row 74 (.pair (.int .i64) (.pair (.int .i64) (.int .i64))) p4 false))])
noncomputable def nondet_graph_accepts_1.f (p0 : Int) (p1 : (List Bool)) : Option (Bool × Unit) := (Go.Proofs.R.Einf Go.Proofs.C07.ctx).call 82 [(.one (.v (.int .i64) p0)), (.one (.pref [(.v (.sl .bool) p1)] 0))]
theorem ancepslaw07_NondetParts.f_eq (p0 : Int) (p1 : Int) (p2 : Int) (p3 : Int) (p4 : (List (List Int))) (p5 : Int) (p6 : Int) (p7 : Int) (p8 : Int) (p9 : (List (List Int))) (p10 : (List Int)) : ancepslaw07_NondetParts.f p0 p1 p2 p3 p4 p5 p6 p7 p8 p9 p10 =
  bindD (ancepslaw07_awake.f) fun t155 =>
  ifB (!t155.1)
   (bindD (ancepslaw07_awake.f) fun t156 =>
   some (t156.1, ()))
  (ifB (decide ((((List.length p10) : Nat) : Int) > (20 : Int)))
    (bindD (ancepslaw07_awake.f) fun t157 =>
    some (t157.1, ()))
   (bindD (ancepsref07_Made.f p0 p1 p2 p3 p4) fun t158 =>
    bindD (ancepsref07_Made.f p0 p6 p7 p8 p9) fun t159 =>
    bindD (nondet_Union.f t158.1 t158.2.1 t158.2.2.1 t158.2.2.2.1 t158.2.2.2.2.1 t159.1 t159.2.1 t159.2.2.1 t159.2.2.2.1 t159.2.2.2.2.1) fun t160 =>
    bindD (nondet_Concat.f t158.1 t158.2.1 t158.2.2.1 t158.2.2.2.1 t158.2.2.2.2.1 t159.1 t159.2.1 t159.2.2.1 t159.2.2.2.1 t159.2.2.2.2.1) fun t161 =>
    bindD (nondet_Star.f t158.1 t158.2.1 t158.2.2.1 t158.2.2.2.1 t158.2.2.2.2.1) fun t162 =>
    ifB (t160.2.2.2.2.2.1 != (0 : Int))
     (some (false, ()))
    (ifB (t161.2.2.2.2.2.1 != (0 : Int))
      (some (false, ()))
     (ifB (t162.2.2.2.2.2.1 != (0 : Int))
       (some (false, ()))
      (bindD (ancepsref07_Word.f t158.1 t158.2.1 t158.2.2.1 t158.2.2.2.1 t158.2.2.2.2.1 p10) fun t163 =>
       bindD ((Go.Proofs.R.mkLen (Go.IntKind.wrap Go.IntKind.i64 ((((List.length t163.1) : Nat) : Int) + (1 : Int))) (Go.IntKind.wrap Go.IntKind.i64 ((((List.length t163.1) : Nat) : Int) + (1 : Int))))) fun t164 =>
       bindD ((ixAt (List.replicate t164 false) (0 : Int))) fun t165 =>
       bindD ((ixAt (List.replicate t164 false) (0 : Int))) fun t166 =>
       ancepslaw07_NondetParts.l16 t163.1 false (Go.IntKind.wrap Go.IntKind.i64 ((((List.length t163.1) : Nat) : Int) + (1 : Int))) (0 : Int) t158.1 t158.2.1 t158.2.2.1 t158.2.2.2.1 t158.2.2.2.2.1 t159.1 t159.2.1 t159.2.2.1 t159.2.2.2.1 t159.2.2.2.2.1 t160.1 t160.2.1 t160.2.2.1 t160.2.2.2.1 t160.2.2.2.2.1 t161.1 t161.2.1 t161.2.2.1 t161.2.2.2.1 t161.2.2.2.2.1 t162.1 t162.2.1 t162.2.2.1 t162.2.2.2.1 t162.2.2.2.2.1 (setRow (List.replicate t164 false) (0 : Int) true)))))) := (Einf_call Go.Proofs.C07.ctx 9 _).trans (by kernel_rfl)
theorem ancepslaw07_NondetLarge.f_eq (p0 : Int) (p1 : Int) : ancepslaw07_NondetLarge.f p0 p1 =
  bindD (ancepslaw07_awake.f) fun t170 =>
  ifB (!t170.1)
   (some (false, ()))
  (bindD (nondet_Union.f (1 : Int) (Go.IntKind.wrap Go.IntKind.i64 ((1 : Int) + (Int.tmod (Go.IntKind.wrap Go.IntKind.i64 p0) (400 : Int)))) ((Go.IntKind.wrap Go.IntKind.i64 ((Go.IntKind.wrap Go.IntKind.i64 ((1 : Int) + (Int.tmod (Go.IntKind.wrap Go.IntKind.i64 p0) (400 : Int)))) - (1 : Int))) :: ([] : (List Int))) ([] : (List (Int × (Int × Int)))) ((Go.IntKind.wrap Go.IntKind.i64 ((Go.IntKind.wrap Go.IntKind.i64 ((1 : Int) + (Int.tmod (Go.IntKind.wrap Go.IntKind.i64 p0) (400 : Int)))) - (1 : Int))) :: ([] : (List Int))) (1 : Int) (Go.IntKind.wrap Go.IntKind.i64 ((1 : Int) + (Int.tmod (Go.IntKind.wrap Go.IntKind.i64 p1) (400 : Int)))) ((Go.IntKind.wrap Go.IntKind.i64 ((Go.IntKind.wrap Go.IntKind.i64 ((1 : Int) + (Int.tmod (Go.IntKind.wrap Go.IntKind.i64 p1) (400 : Int)))) - (1 : Int))) :: ([] : (List Int))) ([] : (List (Int × (Int × Int)))) ((Go.IntKind.wrap Go.IntKind.i64 ((Go.IntKind.wrap Go.IntKind.i64 ((1 : Int) + (Int.tmod (Go.IntKind.wrap Go.IntKind.i64 p1) (400 : Int)))) - (1 : Int))) :: ([] : (List Int)))) fun t171 =>
   bindD (nondet_Star.f (1 : Int) (Go.IntKind.wrap Go.IntKind.i64 ((1 : Int) + (Int.tmod (Go.IntKind.wrap Go.IntKind.i64 p0) (400 : Int)))) ((Go.IntKind.wrap Go.IntKind.i64 ((Go.IntKind.wrap Go.IntKind.i64 ((1 : Int) + (Int.tmod (Go.IntKind.wrap Go.IntKind.i64 p0) (400 : Int)))) - (1 : Int))) :: ([] : (List Int))) ([] : (List (Int × (Int × Int)))) ((Go.IntKind.wrap Go.IntKind.i64 ((Go.IntKind.wrap Go.IntKind.i64 ((1 : Int) + (Int.tmod (Go.IntKind.wrap Go.IntKind.i64 p0) (400 : Int)))) - (1 : Int))) :: ([] : (List Int)))) fun t172 =>
   bindD (nondet_Concat.f (1 : Int) (Go.IntKind.wrap Go.IntKind.i64 ((1 : Int) + (Int.tmod (Go.IntKind.wrap Go.IntKind.i64 p0) (400 : Int)))) ((Go.IntKind.wrap Go.IntKind.i64 ((Go.IntKind.wrap Go.IntKind.i64 ((1 : Int) + (Int.tmod (Go.IntKind.wrap Go.IntKind.i64 p0) (400 : Int)))) - (1 : Int))) :: ([] : (List Int))) ([] : (List (Int × (Int × Int)))) ((Go.IntKind.wrap Go.IntKind.i64 ((Go.IntKind.wrap Go.IntKind.i64 ((1 : Int) + (Int.tmod (Go.IntKind.wrap Go.IntKind.i64 p0) (400 : Int)))) - (1 : Int))) :: ([] : (List Int))) (1 : Int) (Go.IntKind.wrap Go.IntKind.i64 ((1 : Int) + (Int.tmod (Go.IntKind.wrap Go.IntKind.i64 p1) (400 : Int)))) ((Go.IntKind.wrap Go.IntKind.i64 ((Go.IntKind.wrap Go.IntKind.i64 ((1 : Int) + (Int.tmod (Go.IntKind.wrap Go.IntKind.i64 p1) (400 : Int)))) - (1 : Int))) :: ([] : (List Int))) ([] : (List (Int × (Int × Int)))) ((Go.IntKind.wrap Go.IntKind.i64 ((Go.IntKind.wrap Go.IntKind.i64 ((1 : Int) + (Int.tmod (Go.IntKind.wrap Go.IntKind.i64 p1) (400 : Int)))) - (1 : Int))) :: ([] : (List Int)))) fun t173 =>
   ifB (!((t171.2.2.2.2.2.1 == (3 : Int)) == (decide ((Go.IntKind.wrap Go.IntKind.i64 ((Go.IntKind.wrap Go.IntKind.i64 ((1 : Int) + (Int.tmod (Go.IntKind.wrap Go.IntKind.i64 p0) (400 : Int)))) + (Go.IntKind.wrap Go.IntKind.i64 ((1 : Int) + (Int.tmod (Go.IntKind.wrap Go.IntKind.i64 p1) (400 : Int)))))) > (400 : Int)))))
    (some (false, ()))
   (ifB (!((t173.2.2.2.2.2.1 == (3 : Int)) == (decide ((Go.IntKind.wrap Go.IntKind.i64 ((Go.IntKind.wrap Go.IntKind.i64 ((1 : Int) + (Int.tmod (Go.IntKind.wrap Go.IntKind.i64 p0) (400 : Int)))) + (Go.IntKind.wrap Go.IntKind.i64 ((1 : Int) + (Int.tmod (Go.IntKind.wrap Go.IntKind.i64 p1) (400 : Int)))))) > (400 : Int)))))
     (some (false, ()))
    (ifB (!((t172.2.2.2.2.2.1 == (3 : Int)) == ((Go.IntKind.wrap Go.IntKind.i64 ((1 : Int) + (Int.tmod (Go.IntKind.wrap Go.IntKind.i64 p0) (400 : Int)))) == (400 : Int))))
      (some (false, ()))
     (ancepslaw07_NondetLarge.l12 (((List.length (((t171.1, (t171.2.1, (t171.2.2.1, (t171.2.2.2.1, t171.2.2.2.2.1)))), t171.2.2.2.2.2.1) :: (((t172.1, (t172.2.1, (t172.2.2.1, (t172.2.2.2.1, t172.2.2.2.2.1)))), t172.2.2.2.2.2.1) :: (((t173.1, (t173.2.1, (t173.2.2.1, (t173.2.2.2.1, t173.2.2.2.2.1)))), t173.2.2.2.2.2.1) :: ([] : (List ((Int × (Int × ((List Int) × ((List (Int × (Int × Int))) × (List Int))))) × Int))))))) : Nat) : Int) (0 : Int) (((t171.1, (t171.2.1, (t171.2.2.1, (t171.2.2.2.1, t171.2.2.2.2.1)))), t171.2.2.2.2.2.1) :: (((t172.1, (t172.2.1, (t172.2.2.1, (t172.2.2.2.1, t172.2.2.2.2.1)))), t172.2.2.2.2.2.1) :: (((t173.1, (t173.2.1, (t173.2.2.1, (t173.2.2.2.1, t173.2.2.2.2.1)))), t173.2.2.2.2.2.1) :: ([] : (List ((Int × (Int × ((List Int) × ((List (Int × (Int × Int))) × (List Int))))) × Int)))))))))) := (Einf_call Go.Proofs.C07.ctx 8 _).trans (by kernel_rfl)
theorem ancepsref07_Valid.f_eq (p0 : Int) (p1 : Int) (p2 : (List Int)) (p3 : (List (Int × (Int × Int)))) (p4 : (List Int)) : ancepsref07_Valid.f p0 p1 p2 p3 p4 =
  ifB (decide (p0 < (1 : Int)))
   (some ((1 : Int), ()))
  (ifB (decide (p0 > (8 : Int)))
    (some ((1 : Int), ()))
   (ifB (decide (p1 < (0 : Int)))
     (some ((1 : Int), ()))
    (ifB (decide (p1 > (400 : Int)))
      (some ((1 : Int), ()))
     (ifB (decide ((((List.length p3) : Nat) : Int) > (4000 : Int)))
       (some ((1 : Int), ()))
      (bindD (ancepsref07_ascending.f p2 p1) fun t179 =>
       ifB (!t179.1)
        (some ((1 : Int), ()))
       (bindD (ancepsref07_ascending.f p4 p1) fun t180 =>
        ifB (!t180.1)
         (some ((1 : Int), ()))
        (ancepsref07_Valid.l6 (0 : Int) p0 p1 p2 p3 p4))))))) := (Einf_call Go.Proofs.C07.ctx 13 _).trans (by kernel_rfl)
theorem ancepsref07_Word.f_eq (p0 : Int) (p1 : Int) (p2 : (List Int)) (p3 : (List (Int × (Int × Int)))) (p4 : (List Int)) (p5 : (List Int)) : ancepsref07_Word.f p0 p1 p2 p3 p4 p5 =
  ancepsref07_Word.l3 p5 (0 : Int) p0 p1 p2 p3 p4 ([] : (List Int)) := (Einf_call Go.Proofs.C07.ctx 18 _).trans (by kernel_rfl)
theorem nondet_Accepts.f_eq (p0 : Int) (p1 : Int) (p2 : (List Int)) (p3 : (List (Int × (Int × Int)))) (p4 : (List Int)) (p5 : (List Int)) : nondet_Accepts.f p0 p1 p2 p3 p4 p5 =
  bindD (nondet_Valid.f p0 p1 p2 p3 p4) fun t192 =>
  ifB (t192.1 != (0 : Int))
   (some (false, (t192.1, ())))
  (bindD (slices_ContainsFunc_int_int.f p5 p0 p1 p2 p3 p4) fun t193 =>
   ifB t193.1
    (some (false, ((6 : Int), ())))
   (bindD (nondet_open.f p0 p1 p2 p3 p4) fun t194 =>
    bindD (nondet_graph_closure.f t194.1 t194.2.1 t194.2.2.1 t194.2.2.2.1 t194.2.2.2.2.1 t194.2.2.2.2.2.1 p2) fun t195 =>
    nondet_Accepts.l9 p5 (((List.length p5) : Nat) : Int) (0 : Int) t194.1 t194.2.1 t194.2.2.1 t194.2.2.2.1 t194.2.2.2.2.1 t194.2.2.2.2.2.1 t195.1)) := (Einf_call Go.Proofs.C07.ctx 19 _).trans (by kernel_rfl)
theorem slices_Clone_int_int.f_eq (p0 : (List Int)) : slices_Clone_int_int.f p0 =
  bindD ((Go.Proofs.R.grow (List.length p0))) fun t198 =>
  some (p0, ()) := (Einf_call Go.Proofs.C07.ctx 22 _).trans (by kernel_rfl)
theorem nondet_Valid.f_eq (p0 : Int) (p1 : Int) (p2 : (List Int)) (p3 : (List (Int × (Int × Int)))) (p4 : (List Int)) : nondet_Valid.f p0 p1 p2 p3 p4 =
  ifB (decide (p0 < (1 : Int)))
   (some ((1 : Int), ()))
  (ifB (decide (p0 > (8 : Int)))
    (some ((1 : Int), ()))
   (ifB (decide (p1 < (0 : Int)))
     (some ((1 : Int), ()))
    (ifB (decide (p1 > (400 : Int)))
      (some ((1 : Int), ()))
     (ifB (decide ((((List.length p3) : Nat) : Int) > (4000 : Int)))
       (some ((1 : Int), ()))
      (bindD (nondet_ascends.f p2 p1) fun t206 =>
       ifB (!t206.1)
        (some ((1 : Int), ()))
       (bindD (nondet_ascends.f p4 p1) fun t207 =>
        ifB (!t207.1)
         (some ((1 : Int), ()))
        (nondet_Valid.l6 p3 (((List.length p3) : Nat) : Int) (0 : Int) p0 p1 p2 p3 p4))))))) := (Einf_call Go.Proofs.C07.ctx 25 _).trans (by kernel_rfl)
theorem nondet_Union.f_eq (p0 : Int) (p1 : Int) (p2 : (List Int)) (p3 : (List (Int × (Int × Int)))) (p4 : (List Int)) (p5 : Int) (p6 : Int) (p7 : (List Int)) (p8 : (List (Int × (Int × Int)))) (p9 : (List Int)) : nondet_Union.f p0 p1 p2 p3 p4 p5 p6 p7 p8 p9 =
  bindD (nondet_beside.f p0 p1 p2 p3 p4 p5 p6 p7 p8 p9) fun t221 =>
  ifB (t221.2.2.2.2.2.1 != (0 : Int))
   (some ((0 : Int), ((0 : Int), (([] : (List Int)), (([] : (List (Int × (Int × Int)))), (([] : (List Int)), (t221.2.2.2.2.2.1, ())))))))
  (bindD (slices_Clone_int_int.f p2) fun t222 =>
   bindD (nondet_moved.f p7 p1) fun t223 =>
   bindD ((Go.Proofs.R.grow ((List.length t222.1) + (List.length t223.1)))) fun t224 =>
   bindD (slices_Clone_int_int.f p4) fun t225 =>
   bindD (nondet_moved.f p9 p1) fun t226 =>
   bindD ((Go.Proofs.R.grow ((List.length t225.1) + (List.length t226.1)))) fun t227 =>
   ifB (decide (t221.2.1 > (400 : Int)))
    (some ((0 : Int), ((0 : Int), (([] : (List Int)), (([] : (List (Int × (Int × Int)))), (([] : (List Int)), ((3 : Int), ())))))))
   (ifB (decide ((((List.length t221.2.2.2.1) : Nat) : Int) > (4000 : Int)))
     (some ((0 : Int), ((0 : Int), (([] : (List Int)), (([] : (List (Int × (Int × Int)))), (([] : (List Int)), ((3 : Int), ())))))))
    (bindD ((Go.Proofs.R.grow (List.length t221.2.2.2.1))) fun t228 =>
     bindD (sortB false (fun t229 t230 => bindD (nondet_order.f t229.1 t229.2.1 t229.2.2 t230.1 t230.2.1 t230.2.2) fun t231 =>
      some t231.1) t221.2.2.2.1) fun t232 =>
     some (t221.1, (t221.2.1, ((t222.1 ++ t223.1), (t232, ((t225.1 ++ t226.1), ((0 : Int), ()))))))))) := (Einf_call Go.Proofs.C07.ctx 34 _).trans (by kernel_rfl)
theorem ancepsref07_Union.f_eq (p0 : Int) (p1 : Int) (p2 : (List Int)) (p3 : (List (Int × (Int × Int)))) (p4 : (List Int)) (p5 : Int) (p6 : Int) (p7 : (List Int)) (p8 : (List (Int × (Int × Int)))) (p9 : (List Int)) : ancepsref07_Union.f p0 p1 p2 p3 p4 p5 p6 p7 p8 p9 =
  bindD (ancepsref07_two.f p0 p1 p2 p3 p4 p5 p6 p7 p8 p9) fun t233 =>
  ifB (t233.1 != (0 : Int))
   (some ((0 : Int), ((0 : Int), (([] : (List Int)), (([] : (List (Int × (Int × Int)))), (([] : (List Int)), (t233.1, ())))))))
  (bindD (ancepsref07_both.f p0 p1 p2 p3 p4 p5 p6 p7 p8 p9) fun t234 =>
   bindD (ancepsref07_moved.f p7 p1) fun t235 =>
   bindD ((Go.Proofs.R.grow ((List.length t234.2.2.1) + (List.length t235.1)))) fun t236 =>
   bindD ((Go.Proofs.R.grow ((List.length ([] : (List Int))) + (List.length p4)))) fun t237 =>
   bindD ((Go.Proofs.R.grow ((List.length (([] : (List Int)) ++ p4)) + (List.length t234.2.2.2.2.1)))) fun t238 =>
   bindD (ancepsref07_large.f t234.1 t234.2.1 (t234.2.2.1 ++ t235.1) t234.2.2.2.1 ((([] : (List Int)) ++ p4) ++ t234.2.2.2.2.1)) fun t239 =>
   ifB t239.1
    (some ((0 : Int), ((0 : Int), (([] : (List Int)), (([] : (List (Int × (Int × Int)))), (([] : (List Int)), ((3 : Int), ())))))))
   (some (t234.1, (t234.2.1, ((t234.2.2.1 ++ t235.1), (t234.2.2.2.1, (((([] : (List Int)) ++ p4) ++ t234.2.2.2.2.1), ((0 : Int), ())))))))) := (Einf_call Go.Proofs.C07.ctx 40 _).trans (by kernel_rfl)
theorem nondet_Concat.f_eq (p0 : Int) (p1 : Int) (p2 : (List Int)) (p3 : (List (Int × (Int × Int)))) (p4 : (List Int)) (p5 : Int) (p6 : Int) (p7 : (List Int)) (p8 : (List (Int × (Int × Int)))) (p9 : (List Int)) : nondet_Concat.f p0 p1 p2 p3 p4 p5 p6 p7 p8 p9 =
  bindD (nondet_beside.f p0 p1 p2 p3 p4 p5 p6 p7 p8 p9) fun t240 =>
  ifB (t240.2.2.2.2.2.1 != (0 : Int))
   (some ((0 : Int), ((0 : Int), (([] : (List Int)), (([] : (List (Int × (Int × Int)))), (([] : (List Int)), (t240.2.2.2.2.2.1, ())))))))
  (bindD (slices_Clone_int_int.f p2) fun t241 =>
   bindD (nondet_moved.f p9 p1) fun t242 =>
   ifB (decide ((Go.IntKind.wrap Go.IntKind.i64 ((((List.length t240.2.2.2.1) : Nat) : Int) + (Go.IntKind.wrap Go.IntKind.i64 ((((List.length p4) : Nat) : Int) * (((List.length p7) : Nat) : Int))))) > (4000 : Int)))
    (some ((0 : Int), ((0 : Int), (([] : (List Int)), (([] : (List (Int × (Int × Int)))), (([] : (List Int)), ((3 : Int), ())))))))
   (nondet_Concat.l8 p4 (((List.length p4) : Nat) : Int) (0 : Int) p0 p1 p2 p3 p4 p5 p6 p7 p8 p9 (0 : Int) (0 : Int) t240.1 t240.2.1 ([] : (List Int)) ([] : (List (Int × (Int × Int)))) ([] : (List Int)) t241.1 t240.2.2.2.1 t242.1)) := (Einf_call Go.Proofs.C07.ctx 36 _).trans (by kernel_rfl)
theorem ancepsref07_Concat.f_eq (p0 : Int) (p1 : Int) (p2 : (List Int)) (p3 : (List (Int × (Int × Int)))) (p4 : (List Int)) (p5 : Int) (p6 : Int) (p7 : (List Int)) (p8 : (List (Int × (Int × Int)))) (p9 : (List Int)) : ancepsref07_Concat.f p0 p1 p2 p3 p4 p5 p6 p7 p8 p9 =
  bindD (ancepsref07_two.f p0 p1 p2 p3 p4 p5 p6 p7 p8 p9) fun t243 =>
  ifB (t243.1 != (0 : Int))
   (some ((0 : Int), ((0 : Int), (([] : (List Int)), (([] : (List (Int × (Int × Int)))), (([] : (List Int)), (t243.1, ())))))))
  (bindD (ancepsref07_both.f p0 p1 p2 p3 p4 p5 p6 p7 p8 p9) fun t244 =>
   ifB (decide (t244.2.1 > (400 : Int)))
    (some ((0 : Int), ((0 : Int), (([] : (List Int)), (([] : (List (Int × (Int × Int)))), (([] : (List Int)), ((3 : Int), ())))))))
   (ifB (decide ((Go.IntKind.wrap Go.IntKind.i64 ((((List.length t244.2.2.2.1) : Nat) : Int) + (Go.IntKind.wrap Go.IntKind.i64 ((((List.length p4) : Nat) : Int) * (((List.length p7) : Nat) : Int))))) > (4000 : Int)))
     (some ((0 : Int), ((0 : Int), (([] : (List Int)), (([] : (List (Int × (Int × Int)))), (([] : (List Int)), ((3 : Int), ())))))))
    (ancepsref07_Concat.l8 (0 : Int) p0 p1 p2 p3 p4 p5 p6 p7 p8 p9 (0 : Int) (0 : Int) t244.1 t244.2.1 ([] : (List Int)) ([] : (List (Int × (Int × Int)))) ([] : (List Int)) t244.2.2.1 t244.2.2.2.1 t244.2.2.2.2.1))) := (Einf_call Go.Proofs.C07.ctx 41 _).trans (by kernel_rfl)
theorem nondet_Star.f_eq (p0 : Int) (p1 : Int) (p2 : (List Int)) (p3 : (List (Int × (Int × Int)))) (p4 : (List Int)) : nondet_Star.f p0 p1 p2 p3 p4 =
  bindD (nondet_Valid.f p0 p1 p2 p3 p4) fun t245 =>
  ifB (t245.1 != (0 : Int))
   (some ((0 : Int), ((0 : Int), (([] : (List Int)), (([] : (List (Int × (Int × Int)))), (([] : (List Int)), (t245.1, ())))))))
  (bindD (api_Edge.f p3) fun t246 =>
   nondet_Star.l7 p1 p2 (((List.length p2) : Nat) : Int) (0 : Int) p0 p1 p2 p3 p4 (0 : Int) (0 : Int) p0 (Go.IntKind.wrap Go.IntKind.i64 (p1 + (1 : Int))) ([] : (List Int)) ([] : (List (Int × (Int × Int)))) ([] : (List Int)) (p1 :: ([] : (List Int))) t246.1 (p1 :: ([] : (List Int)))) := (Einf_call Go.Proofs.C07.ctx 35 _).trans (by kernel_rfl)
theorem ancepsref07_Star.f_eq (p0 : Int) (p1 : Int) (p2 : (List Int)) (p3 : (List (Int × (Int × Int)))) (p4 : (List Int)) : ancepsref07_Star.f p0 p1 p2 p3 p4 =
  bindD (ancepsref07_Valid.f p0 p1 p2 p3 p4) fun t247 =>
  ifB (t247.1 != (0 : Int))
   (some ((0 : Int), ((0 : Int), (([] : (List Int)), (([] : (List (Int × (Int × Int)))), (([] : (List Int)), (t247.1, ())))))))
  (bindD ((Go.Proofs.R.grow (List.length p3))) fun t248 =>
   ancepsref07_Star.l8 p1 (0 : Int) p0 p1 p2 p3 p4 (0 : Int) (0 : Int) p0 (Go.IntKind.wrap Go.IntKind.i64 (p1 + (1 : Int))) ([] : (List Int)) ([] : (List (Int × (Int × Int)))) ([] : (List Int)) (p1 :: ([] : (List Int))) p3 (p1 :: ([] : (List Int)))) := (Einf_call Go.Proofs.C07.ctx 42 _).trans (by kernel_rfl)
theorem ancepsref07_Made.f_eq (p0 : Int) (p1 : Int) (p2 : Int) (p3 : Int) (p4 : (List (List Int))) : ancepsref07_Made.f p0 p1 p2 p3 p4 =
  bindD (ancepsref07_bits.f p2 (Go.IntKind.wrap Go.IntKind.i64 ((1 : Int) + (Go.IntKind.wrap Go.IntKind.i64 (Int.tmod p1 (6 : Int)))))) fun t249 =>
  bindD (ancepsref07_bits.f p3 (Go.IntKind.wrap Go.IntKind.i64 ((1 : Int) + (Go.IntKind.wrap Go.IntKind.i64 (Int.tmod p1 (6 : Int)))))) fun t250 =>
  ancepsref07_Made.l5 (0 : Int) p0 p1 p2 p3 p4 (0 : Int) (0 : Int) (Go.IntKind.wrap Go.IntKind.i64 ((1 : Int) + (Go.IntKind.wrap Go.IntKind.i64 (Int.tmod p0 (4 : Int))))) (Go.IntKind.wrap Go.IntKind.i64 ((1 : Int) + (Go.IntKind.wrap Go.IntKind.i64 (Int.tmod p1 (6 : Int))))) ([] : (List (Int × (Int × Int)))) ([] : (List Int)) ([] : (List (Int × (Int × Int)))) ([] : (List Int)) t249.1 ([] : (List (Int × (Int × Int)))) t250.1 := (Einf_call Go.Proofs.C07.ctx 31 _).trans (by kernel_rfl)
theorem ancepslaw07_NondetParts.l16_eq (p0 : (List Int)) (p1 : Bool) (p2 : Int) (p3 : Int) (p4 : Int) (p5 : Int) (p6 : (List Int)) (p7 : (List (Int × (Int × Int)))) (p8 : (List Int)) (p9 : Int) (p10 : Int) (p11 : (List Int)) (p12 : (List (Int × (Int × Int)))) (p13 : (List Int)) (p14 : Int) (p15 : Int) (p16 : (List Int)) (p17 : (List (Int × (Int × Int)))) (p18 : (List Int)) (p19 : Int) (p20 : Int) (p21 : (List Int)) (p22 : (List (Int × (Int × Int)))) (p23 : (List Int)) (p24 : Int) (p25 : Int) (p26 : (List Int)) (p27 : (List (Int × (Int × Int)))) (p28 : (List Int)) (p29 : (List Bool)) : ancepslaw07_NondetParts.l16 p0 p1 p2 p3 p4 p5 p6 p7 p8 p9 p10 p11 p12 p13 p14 p15 p16 p17 p18 p19 p20 p21 p22 p23 p24 p25 p26 p27 p28 p29 =
  ifB (decide (p3 < p2))
   (ifB p1
    (ancepslaw07_NondetParts.l20 p0 true p3 p2 p3 p3 (0 : Int) p4 p5 p6 p7 p8 p9 p10 p11 p12 p13 p14 p15 p16 p17 p18 p19 p20 p21 p22 p23 p24 p25 p26 p27 p28 p29)
   (bindD ((subL p0 (0 : Int) p3)) fun t251 =>
    bindD (ancepslaw07_NondetParts_1.f p4 p5 p6 p7 p8 t251) fun t252 =>
    ifB t252.1
     (bindD ((subL p0 p3 (((List.length p0) : Nat) : Int))) fun t253 =>
     bindD (ancepslaw07_NondetParts_1.f p9 p10 p11 p12 p13 t253) fun t254 =>
     ancepslaw07_NondetParts.l20 p0 t254.1 p3 p2 p3 p3 (0 : Int) p4 p5 p6 p7 p8 p9 p10 p11 p12 p13 p14 p15 p16 p17 p18 p19 p20 p21 p22 p23 p24 p25 p26 p27 p28 p29)
    (ancepslaw07_NondetParts.l20 p0 false p3 p2 p3 p3 (0 : Int) p4 p5 p6 p7 p8 p9 p10 p11 p12 p13 p14 p15 p16 p17 p18 p19 p20 p21 p22 p23 p24 p25 p26 p27 p28 p29)))
  (bindD (ancepslaw07_NondetParts_1.f p14 p15 p16 p17 p18 p0) fun t255 =>
   bindD (ancepslaw07_NondetParts_1.f p4 p5 p6 p7 p8 p0) fun t256 =>
   ifB t256.1
    (ifB (t255.1 == true)
     (bindD (ancepslaw07_NondetParts_1.f p19 p20 p21 p22 p23 p0) fun t257 =>
     ifB (t257.1 == p1)
      (bindD (ancepslaw07_NondetParts_1.f p24 p25 p26 p27 p28 p0) fun t258 =>
      bindD ((ixAt p29 (((List.length p0) : Nat) : Int))) fun t259 =>
      bindD ((ixAt p29 (((List.length p0) : Nat) : Int))) fun t260 =>
      some ((t258.1 == t260), ()))
     (some (false, ())))
    (some (false, ())))
   (bindD (ancepslaw07_NondetParts_1.f p9 p10 p11 p12 p13 p0) fun t261 =>
    ifB (t255.1 == t261.1)
     (bindD (ancepslaw07_NondetParts_1.f p19 p20 p21 p22 p23 p0) fun t262 =>
     ifB (t262.1 == p1)
      (bindD (ancepslaw07_NondetParts_1.f p24 p25 p26 p27 p28 p0) fun t263 =>
      bindD ((ixAt p29 (((List.length p0) : Nat) : Int))) fun t264 =>
      bindD ((ixAt p29 (((List.length p0) : Nat) : Int))) fun t265 =>
      some ((t263.1 == t265), ()))
     (some (false, ())))
    (some (false, ())))) := (loopAt_step Go.Proofs.C07.ctx 9 16 _).trans (by kernel_rfl)
theorem ancepslaw07_NondetLarge.l12_eq (p0 : Int) (p1 : Int) (p2 : (List ((Int × (Int × ((List Int) × ((List (Int × (Int × Int))) × (List Int))))) × Int))) : ancepslaw07_NondetLarge.l12 p0 p1 p2 =
  ifB (decide (p1 < p0))
   (bindD ((ixAt p2 p1)) fun t271 =>
   bindD ((ixAt p2 p1)) fun t272 =>
   ifB (t272.2 == (3 : Int))
    (ancepslaw07_NondetLarge.l12 p0 (Go.IntKind.wrap Go.IntKind.i64 (p1 + (1 : Int))) p2)
   (bindD (nondet_Accepts.f t272.1.1 t272.1.2.1 t272.1.2.2.1 t272.1.2.2.2.1 t272.1.2.2.2.2 ([] : (List Int))) fun t273 =>
    bindD (nondet_Accepts.f t272.1.1 t272.1.2.1 t272.1.2.2.1 t272.1.2.2.2.1 t272.1.2.2.2.2 ((0 : Int) :: ([] : (List Int)))) fun t274 =>
    ifB (t272.2 != (0 : Int))
     (some (false, ()))
    (ifB (t273.2.1 != (0 : Int))
      (some (false, ()))
     (ifB (t274.2.1 != (0 : Int))
       (some (false, ()))
      (ifB (!t273.1)
        (some (false, ()))
       (ifB t274.1
         (some (false, ()))
        (ancepslaw07_NondetLarge.l12 p0 (Go.IntKind.wrap Go.IntKind.i64 (p1 + (1 : Int))) p2)))))))
  (some (true, ())) := (loopAt_step Go.Proofs.C07.ctx 8 12 _).trans (by kernel_rfl)
theorem ancepsref07_ascending.f_eq (p0 : (List Int)) (p1 : Int) : ancepsref07_ascending.f p0 p1 =
  ancepsref07_ascending.l2 p0 p1 (0 : Int) := (Einf_call Go.Proofs.C07.ctx 44 _).trans (by kernel_rfl)
theorem ancepsref07_Valid.l6_eq (p0 : Int) (p1 : Int) (p2 : Int) (p3 : (List Int)) (p4 : (List (Int × (Int × Int)))) (p5 : (List Int)) : ancepsref07_Valid.l6 p0 p1 p2 p3 p4 p5 =
  ifB (decide (p0 < (((List.length p4) : Nat) : Int)))
   (bindD ((ixAt p4 p0)) fun t275 =>
   ifB (decide (t275.1 < (0 : Int)))
    (some ((1 : Int), ()))
   (ifB (decide (t275.1 ≥ p2))
     (some ((1 : Int), ()))
    (ifB (decide (t275.2.2 < (0 : Int)))
      (some ((1 : Int), ()))
     (ifB (decide (t275.2.2 ≥ p2))
       (some ((1 : Int), ()))
      (ifB (decide (t275.2.1 < (-(1 : Int))))
        (some ((1 : Int), ()))
       (ifB (decide (t275.2.1 ≥ p1))
         (some ((1 : Int), ()))
        (ifB (decide (p0 > (0 : Int)))
          (bindD ((ixAt p4 (Go.IntKind.wrap Go.IntKind.i64 (p0 - (1 : Int))))) fun t276 =>
          bindD (ancepsref07_ahead.f t276.1 t276.2.1 t276.2.2 t275.1 t275.2.1 t275.2.2) fun t277 =>
          ifB (!t277.1)
           (some ((1 : Int), ()))
          (ancepsref07_Valid.l6 (Go.IntKind.wrap Go.IntKind.i64 (p0 + (1 : Int))) p1 p2 p3 p4 p5))
         (ancepsref07_Valid.l6 (Go.IntKind.wrap Go.IntKind.i64 (p0 + (1 : Int))) p1 p2 p3 p4 p5))))))))
  (some ((0 : Int), ())) := (loopAt_step Go.Proofs.C07.ctx 13 6 _).trans (by kernel_rfl)
theorem api_Edge.f_eq (p0 : (List (Int × (Int × Int)))) : api_Edge.f p0 =
  bindD ((Go.Proofs.R.grow (List.length p0))) fun t278 =>
  some (p0, ()) := (Einf_call Go.Proofs.C07.ctx 53 _).trans (by kernel_rfl)
theorem nondet_open.f_eq (p0 : Int) (p1 : Int) (p2 : (List Int)) (p3 : (List (Int × (Int × Int)))) (p4 : (List Int)) : nondet_open.f p0 p1 p2 p3 p4 =
  bindD ((Go.Proofs.R.mkLen p1 p1)) fun t279 =>
  nondet_open.l3 p3 (((List.length p3) : Nat) : Int) (0 : Int) (0 : Int) (0 : Int) p0 p1 p2 p3 p4 ([] : (List Int)) ([] : (List (Int × (Int × Int)))) ([] : (List Int)) ([] : (List (List (Int × (Int × Int))))) (List.replicate t279 ([] : (List (Int × (Int × Int))))) := (Einf_call Go.Proofs.C07.ctx 46 _).trans (by kernel_rfl)
theorem nondet_graph_closure.f_eq (p0 : Int) (p1 : Int) (p2 : (List Int)) (p3 : (List (Int × (Int × Int)))) (p4 : (List Int)) (p5 : (List (List (Int × (Int × Int))))) (p6 : (List Int)) : nondet_graph_closure.f p0 p1 p2 p3 p4 p5 p6 =
  bindD ((Go.Proofs.R.mkLen p1 p1)) fun t280 =>
  bindD (slices_Clone_int_int.f p6) fun t281 =>
  nondet_graph_closure.l4 (((List.length t281.1) : Nat) : Int) (0 : Int) p0 p1 p2 p3 p4 p5 (List.replicate t280 false) t281.1 := (Einf_call Go.Proofs.C07.ctx 47 _).trans (by kernel_rfl)
theorem ancepsref07_Word.l3_eq (p0 : (List Int)) (p1 : Int) (p2 : Int) (p3 : Int) (p4 : (List Int)) (p5 : (List (Int × (Int × Int)))) (p6 : (List Int)) (p7 : (List Int)) : ancepsref07_Word.l3 p0 p1 p2 p3 p4 p5 p6 p7 =
  ifB (decide (p1 < (((List.length p0) : Nat) : Int)))
   (bindD ((ixAt p0 p1)) fun t291 =>
   ifB (p2 == (0 : Int))
    (none)
   (bindD ((Go.Proofs.R.grow ((List.length p7) + (List.length ((Int.tmod (Go.IntKind.wrap Go.IntKind.i64 t291) p2) :: ([] : (List Int))))))) fun t292 =>
    ancepsref07_Word.l3 p0 (Go.IntKind.wrap Go.IntKind.i64 (p1 + (1 : Int))) p2 p3 p4 p5 p6 (p7 ++ ((Int.tmod (Go.IntKind.wrap Go.IntKind.i64 t291) p2) :: ([] : (List Int))))))
  (some (p7, ())) := (loopAt_step Go.Proofs.C07.ctx 18 3 _).trans (by kernel_rfl)
theorem slices_ContainsFunc_int_int.f_eq (p0 : (List Int)) (p1 : Int) (p2 : Int) (p3 : (List Int)) (p4 : (List (Int × (Int × Int)))) (p5 : (List Int)) : slices_ContainsFunc_int_int.f p0 p1 p2 p3 p4 p5 =
  bindD (slices_IndexFunc_int_int.f p0 p1 p2 p3 p4 p5) fun t293 =>
  some ((decide (t293.1 ≥ (0 : Int))), ()) := (Einf_call Go.Proofs.C07.ctx 59 _).trans (by kernel_rfl)
theorem nondet_Accepts.l9_eq (p0 : (List Int)) (p1 : Int) (p2 : Int) (p3 : Int) (p4 : Int) (p5 : (List Int)) (p6 : (List (Int × (Int × Int)))) (p7 : (List Int)) (p8 : (List (List (Int × (Int × Int))))) (p9 : (List Bool)) : nondet_Accepts.l9 p0 p1 p2 p3 p4 p5 p6 p7 p8 p9 =
  ifB (decide (p2 < p1))
   (bindD ((ixAt p0 p2)) fun t294 =>
   bindD (nondet_graph_step.f p3 p4 p5 p6 p7 p8 p9 t294) fun t295 =>
   nondet_Accepts.l9 p0 p1 (Go.IntKind.wrap Go.IntKind.i64 (p2 + (1 : Int))) p3 p4 p5 p6 p7 p8 t295.1)
  (bindD (nondet_graph_accepts.f p3 p4 p5 p6 p7 p8 p9) fun t296 =>
   some (t296.1, ((0 : Int), ()))) := (loopAt_step Go.Proofs.C07.ctx 19 9 _).trans (by kernel_rfl)
theorem nondet_set_list.f_eq (p0 : (List Bool)) : nondet_set_list.f p0 =
  nondet_set_list.l3 p0 (((List.length p0) : Nat) : Int) (0 : Int) ([] : (List Int)) := (Einf_call Go.Proofs.C07.ctx 63 _).trans (by kernel_rfl)
theorem nondet_ascends.f_eq (p0 : (List Int)) (p1 : Int) : nondet_ascends.f p0 p1 =
  nondet_ascends.l2 p0 p1 p0 (((List.length p0) : Nat) : Int) (0 : Int) := (Einf_call Go.Proofs.C07.ctx 64 _).trans (by kernel_rfl)
theorem nondet_Valid.l6_eq (p0 : (List (Int × (Int × Int)))) (p1 : Int) (p2 : Int) (p3 : Int) (p4 : Int) (p5 : (List Int)) (p6 : (List (Int × (Int × Int)))) (p7 : (List Int)) : nondet_Valid.l6 p0 p1 p2 p3 p4 p5 p6 p7 =
  ifB (decide (p2 < p1))
   (bindD ((ixAt p0 p2)) fun t306 =>
   ifB (decide ((if (t306.2.2 < t306.1) then t306.2.2 else t306.1) < (0 : Int)))
    (some ((1 : Int), ()))
   (ifB (decide ((if (t306.1 < t306.2.2) then t306.2.2 else t306.1) ≥ p4))
     (some ((1 : Int), ()))
    (ifB (decide (t306.2.1 < (-(1 : Int))))
      (some ((1 : Int), ()))
     (ifB (decide (t306.2.1 ≥ p3))
       (some ((1 : Int), ()))
      (ifB (decide (p2 > (0 : Int)))
        (bindD ((ixAt p6 (Go.IntKind.wrap Go.IntKind.i64 (p2 - (1 : Int))))) fun t307 =>
        bindD (nondet_order.f t307.1 t307.2.1 t307.2.2 t306.1 t306.2.1 t306.2.2) fun t308 =>
        ifB (decide (t308.1 ≥ (0 : Int)))
         (some ((1 : Int), ()))
        (nondet_Valid.l6 p0 p1 (Go.IntKind.wrap Go.IntKind.i64 (p2 + (1 : Int))) p3 p4 p5 p6 p7))
       (nondet_Valid.l6 p0 p1 (Go.IntKind.wrap Go.IntKind.i64 (p2 + (1 : Int))) p3 p4 p5 p6 p7))))))
  (some ((0 : Int), ())) := (loopAt_step Go.Proofs.C07.ctx 25 6 _).trans (by kernel_rfl)
theorem nondet_beside.f_eq (p0 : Int) (p1 : Int) (p2 : (List Int)) (p3 : (List (Int × (Int × Int)))) (p4 : (List Int)) (p5 : Int) (p6 : Int) (p7 : (List Int)) (p8 : (List (Int × (Int × Int)))) (p9 : (List Int)) : nondet_beside.f p0 p1 p2 p3 p4 p5 p6 p7 p8 p9 =
  bindD (nondet_Valid.f p0 p1 p2 p3 p4) fun t329 =>
  ifB (t329.1 != (0 : Int))
   (some ((0 : Int), ((0 : Int), (([] : (List Int)), (([] : (List (Int × (Int × Int)))), (([] : (List Int)), ((1 : Int), ())))))))
  (bindD (nondet_Valid.f p5 p6 p7 p8 p9) fun t330 =>
   ifB (t330.1 != (0 : Int))
    (some ((0 : Int), ((0 : Int), (([] : (List Int)), (([] : (List (Int × (Int × Int)))), (([] : (List Int)), ((1 : Int), ())))))))
   (ifB (p0 != p5)
     (some ((0 : Int), ((0 : Int), (([] : (List Int)), (([] : (List (Int × (Int × Int)))), (([] : (List Int)), ((1 : Int), ())))))))
    (bindD (api_Edge.f p3) fun t331 =>
     nondet_beside.l5 p8 (((List.length p8) : Nat) : Int) (0 : Int) p0 p1 p2 p3 p4 (0 : Int) (0 : Int) p0 (Go.IntKind.wrap Go.IntKind.i64 (p1 + p6)) ([] : (List Int)) ([] : (List (Int × (Int × Int)))) ([] : (List Int)) ([] : (List Int)) t331.1 ([] : (List Int))))) := (Einf_call Go.Proofs.C07.ctx 71 _).trans (by kernel_rfl)
theorem nondet_moved.f_eq (p0 : (List Int)) (p1 : Int) : nondet_moved.f p0 p1 =
  nondet_moved.l3 p1 p0 (((List.length p0) : Nat) : Int) (0 : Int) ([] : (List Int)) := (Einf_call Go.Proofs.C07.ctx 72 _).trans (by kernel_rfl)
theorem nondet_order.f_eq (p0 : Int) (p1 : Int) (p2 : Int) (p3 : Int) (p4 : Int) (p5 : Int) : nondet_order.f p0 p1 p2 p3 p4 p5 =
  bindD (cmp_Compare_int.f p0 p3) fun t332 =>
  bindD (cmp_Compare_int.f p1 p4) fun t333 =>
  bindD (cmp_Compare_int.f p2 p5) fun t334 =>
  bindD (cmp_Or_int.f (t332.1 :: (t333.1 :: (t334.1 :: ([] : (List Int)))))) fun t335 =>
  some (t335.1, ()) := (Einf_call Go.Proofs.C07.ctx 65 _).trans (by kernel_rfl)
theorem ancepsref07_two.f_eq (p0 : Int) (p1 : Int) (p2 : (List Int)) (p3 : (List (Int × (Int × Int)))) (p4 : (List Int)) (p5 : Int) (p6 : Int) (p7 : (List Int)) (p8 : (List (Int × (Int × Int)))) (p9 : (List Int)) : ancepsref07_two.f p0 p1 p2 p3 p4 p5 p6 p7 p8 p9 =
  bindD (ancepsref07_Valid.f p0 p1 p2 p3 p4) fun t336 =>
  ifB (t336.1 != (0 : Int))
   (some ((1 : Int), ()))
  (bindD (ancepsref07_Valid.f p5 p6 p7 p8 p9) fun t337 =>
   ifB (t337.1 != (0 : Int))
    (some ((1 : Int), ()))
   (ifB (p0 != p5)
     (some ((1 : Int), ()))
    (some ((0 : Int), ())))) := (Einf_call Go.Proofs.C07.ctx 74 _).trans (by kernel_rfl)
theorem ancepsref07_both.f_eq (p0 : Int) (p1 : Int) (p2 : (List Int)) (p3 : (List (Int × (Int × Int)))) (p4 : (List Int)) (p5 : Int) (p6 : Int) (p7 : (List Int)) (p8 : (List (Int × (Int × Int)))) (p9 : (List Int)) : ancepsref07_both.f p0 p1 p2 p3 p4 p5 p6 p7 p8 p9 =
  bindD ((Go.Proofs.R.grow ((List.length ([] : (List Int))) + (List.length p2)))) fun t338 =>
  bindD (ancepsref07_moved.f p9 p1) fun t339 =>
  bindD ((Go.Proofs.R.grow (List.length p3))) fun t340 =>
  ancepsref07_both.l4 (0 : Int) p0 p1 p2 p3 p4 p5 p6 p7 p8 p9 (0 : Int) (0 : Int) p0 (Go.IntKind.wrap Go.IntKind.i64 (p1 + p6)) ([] : (List Int)) ([] : (List (Int × (Int × Int)))) ([] : (List Int)) (([] : (List Int)) ++ p2) p3 t339.1 := (Einf_call Go.Proofs.C07.ctx 75 _).trans (by kernel_rfl)
theorem ancepsref07_moved.f_eq (p0 : (List Int)) (p1 : Int) : ancepsref07_moved.f p0 p1 =
  ancepsref07_moved.l3 p0 p1 (0 : Int) ([] : (List Int)) := (Einf_call Go.Proofs.C07.ctx 76 _).trans (by kernel_rfl)
theorem ancepsref07_large.f_eq (p0 : Int) (p1 : Int) (p2 : (List Int)) (p3 : (List (Int × (Int × Int)))) (p4 : (List Int)) : ancepsref07_large.f p0 p1 p2 p3 p4 =
  ifB (decide (p1 > (400 : Int)))
   (some (true, ()))
  (some ((decide ((((List.length p3) : Nat) : Int) > (4000 : Int))), ())) := (Einf_call Go.Proofs.C07.ctx 77 _).trans (by kernel_rfl)
theorem nondet_Concat.l8_eq (p0 : (List Int)) (p1 : Int) (p2 : Int) (p3 : Int) (p4 : Int) (p5 : (List Int)) (p6 : (List (Int × (Int × Int)))) (p7 : (List Int)) (p8 : Int) (p9 : Int) (p10 : (List Int)) (p11 : (List (Int × (Int × Int)))) (p12 : (List Int)) (p13 : Int) (p14 : Int) (p15 : Int) (p16 : Int) (p17 : (List Int)) (p18 : (List (Int × (Int × Int)))) (p19 : (List Int)) (p20 : (List Int)) (p21 : (List (Int × (Int × Int)))) (p22 : (List Int)) : nondet_Concat.l8 p0 p1 p2 p3 p4 p5 p6 p7 p8 p9 p10 p11 p12 p13 p14 p15 p16 p17 p18 p19 p20 p21 p22 =
  ifB (decide (p2 < p1))
   (bindD ((ixAt p0 p2)) fun t341 =>
   nondet_Concat.l11 t341 p0 p1 p2 p10 (((List.length p10) : Nat) : Int) (0 : Int) p3 p4 p5 p6 p7 p8 p9 p10 p11 p12 p13 p14 p15 p16 p17 p18 p19 p20 p21 p22)
  (ifB (decide (p16 > (400 : Int)))
    (some ((0 : Int), ((0 : Int), (([] : (List Int)), (([] : (List (Int × (Int × Int)))), (([] : (List Int)), ((3 : Int), ())))))))
   (ifB (decide ((((List.length p21) : Nat) : Int) > (4000 : Int)))
     (some ((0 : Int), ((0 : Int), (([] : (List Int)), (([] : (List (Int × (Int × Int)))), (([] : (List Int)), ((3 : Int), ())))))))
    (bindD ((Go.Proofs.R.grow (List.length p21))) fun t342 =>
     bindD (sortB false (fun t343 t344 => bindD (nondet_order.f t343.1 t343.2.1 t343.2.2 t344.1 t344.2.1 t344.2.2) fun t345 =>
      some t345.1) p21) fun t346 =>
     some (p15, (p16, (p20, (t346, (p22, ((0 : Int), ()))))))))) := (loopAt_step Go.Proofs.C07.ctx 36 8 _).trans (by kernel_rfl)
theorem ancepsref07_Concat.l8_eq (p0 : Int) (p1 : Int) (p2 : Int) (p3 : (List Int)) (p4 : (List (Int × (Int × Int)))) (p5 : (List Int)) (p6 : Int) (p7 : Int) (p8 : (List Int)) (p9 : (List (Int × (Int × Int)))) (p10 : (List Int)) (p11 : Int) (p12 : Int) (p13 : Int) (p14 : Int) (p15 : (List Int)) (p16 : (List (Int × (Int × Int)))) (p17 : (List Int)) (p18 : (List Int)) (p19 : (List (Int × (Int × Int)))) (p20 : (List Int)) : ancepsref07_Concat.l8 p0 p1 p2 p3 p4 p5 p6 p7 p8 p9 p10 p11 p12 p13 p14 p15 p16 p17 p18 p19 p20 =
  ifB (decide (p0 < (((List.length p5) : Nat) : Int)))
   (ancepsref07_Concat.l11 p0 (0 : Int) p1 p2 p3 p4 p5 p6 p7 p8 p9 p10 p11 p12 p13 p14 p15 p16 p17 p18 p19 p20)
  (bindD (ancepsref07_sorted.f p19) fun t347 =>
   some (p13, (p14, (p18, (t347.1, (p20, ((0 : Int), ()))))))) := (loopAt_step Go.Proofs.C07.ctx 41 8 _).trans (by kernel_rfl)
theorem nondet_Star.l7_eq (p0 : Int) (p1 : (List Int)) (p2 : Int) (p3 : Int) (p4 : Int) (p5 : Int) (p6 : (List Int)) (p7 : (List (Int × (Int × Int)))) (p8 : (List Int)) (p9 : Int) (p10 : Int) (p11 : Int) (p12 : Int) (p13 : (List Int)) (p14 : (List (Int × (Int × Int)))) (p15 : (List Int)) (p16 : (List Int)) (p17 : (List (Int × (Int × Int)))) (p18 : (List Int)) : nondet_Star.l7 p0 p1 p2 p3 p4 p5 p6 p7 p8 p9 p10 p11 p12 p13 p14 p15 p16 p17 p18 =
  ifB (decide (p3 < p2))
   (bindD ((ixAt p1 p3)) fun t348 =>
   bindD ((Go.Proofs.R.grow ((List.length p17) + (List.length ((p0, ((-(1 : Int)), t348)) :: ([] : (List (Int × (Int × Int))))))))) fun t349 =>
   nondet_Star.l7 p0 p1 p2 (Go.IntKind.wrap Go.IntKind.i64 (p3 + (1 : Int))) p4 p5 p6 p7 p8 p9 p10 p11 p12 p13 p14 p15 p16 (p17 ++ ((p0, ((-(1 : Int)), t348)) :: ([] : (List (Int × (Int × Int)))))) p18)
  (nondet_Star.l12 p0 p8 (((List.length p8) : Nat) : Int) (0 : Int) p9 p10 p11 p12 p13 p14 p15 p16 p17 p18) := (loopAt_step Go.Proofs.C07.ctx 35 7 _).trans (by kernel_rfl)
theorem ancepsref07_Star.l8_eq (p0 : Int) (p1 : Int) (p2 : Int) (p3 : Int) (p4 : (List Int)) (p5 : (List (Int × (Int × Int)))) (p6 : (List Int)) (p7 : Int) (p8 : Int) (p9 : Int) (p10 : Int) (p11 : (List Int)) (p12 : (List (Int × (Int × Int)))) (p13 : (List Int)) (p14 : (List Int)) (p15 : (List (Int × (Int × Int)))) (p16 : (List Int)) : ancepsref07_Star.l8 p0 p1 p2 p3 p4 p5 p6 p7 p8 p9 p10 p11 p12 p13 p14 p15 p16 =
  ifB (decide (p1 < (((List.length p4) : Nat) : Int)))
   (bindD ((ixAt p4 p1)) fun t350 =>
   bindD ((Go.Proofs.R.grow ((List.length p15) + (List.length ((p0, ((-(1 : Int)), t350)) :: ([] : (List (Int × (Int × Int))))))))) fun t351 =>
   ancepsref07_Star.l8 p0 (Go.IntKind.wrap Go.IntKind.i64 (p1 + (1 : Int))) p2 p3 p4 p5 p6 p7 p8 p9 p10 p11 p12 p13 p14 (p15 ++ ((p0, ((-(1 : Int)), t350)) :: ([] : (List (Int × (Int × Int)))))) p16)
  (ancepsref07_Star.l12 p0 (0 : Int) p2 p3 p4 p5 p6 p7 p8 p9 p10 p11 p12 p13 p14 p15 p16) := (loopAt_step Go.Proofs.C07.ctx 42 8 _).trans (by kernel_rfl)
theorem ancepsref07_bits.f_eq (p0 : Int) (p1 : Int) : ancepsref07_bits.f p0 p1 =
  ancepsref07_bits.l3 p0 p1 (0 : Int) ([] : (List Int)) := (Einf_call Go.Proofs.C07.ctx 68 _).trans (by kernel_rfl)
theorem ancepsref07_Made.l5_eq (p0 : Int) (p1 : Int) (p2 : Int) (p3 : Int) (p4 : Int) (p5 : (List (List Int))) (p6 : Int) (p7 : Int) (p8 : Int) (p9 : Int) (p10 : (List (Int × (Int × Int)))) (p11 : (List Int)) (p12 : (List (Int × (Int × Int)))) (p13 : (List Int)) (p14 : (List Int)) (p15 : (List (Int × (Int × Int)))) (p16 : (List Int)) : ancepsref07_Made.l5 p0 p1 p2 p3 p4 p5 p6 p7 p8 p9 p10 p11 p12 p13 p14 p15 p16 =
  ifB (decide (p0 < (((List.length p5) : Nat) : Int)))
   (ifB (decide (p0 < (40 : Int)))
    (bindD ((ixAt p5 p0)) fun t352 =>
    bindD ((ixAt t352 (0 : Int))) fun t353 =>
    bindD ((ixAt t352 (0 : Int))) fun t354 =>
    ifB (p9 == (0 : Int))
     (none)
    (bindD ((ixAt t352 (1 : Int))) fun t355 =>
     bindD ((ixAt t352 (1 : Int))) fun t356 =>
     ifB ((Go.IntKind.wrap Go.IntKind.i64 (p8 + (1 : Int))) == (0 : Int))
      (none)
     (bindD ((ixAt t352 (2 : Int))) fun t357 =>
      bindD ((ixAt t352 (2 : Int))) fun t358 =>
      ifB (p9 == (0 : Int))
       (none)
      (bindD ((Go.Proofs.R.grow ((List.length p10) + (List.length (((Int.tmod (Go.IntKind.wrap Go.IntKind.i64 t354) p9), ((Go.IntKind.wrap Go.IntKind.i64 ((Int.tmod (Go.IntKind.wrap Go.IntKind.i64 t356) (Go.IntKind.wrap Go.IntKind.i64 (p8 + (1 : Int)))) - (1 : Int))), (Int.tmod (Go.IntKind.wrap Go.IntKind.i64 t358) p9))) :: ([] : (List (Int × (Int × Int))))))))) fun t359 =>
       ancepsref07_Made.l5 (Go.IntKind.wrap Go.IntKind.i64 (p0 + (1 : Int))) p1 p2 p3 p4 p5 p6 p7 p8 p9 (p10 ++ (((Int.tmod (Go.IntKind.wrap Go.IntKind.i64 t354) p9), ((Go.IntKind.wrap Go.IntKind.i64 ((Int.tmod (Go.IntKind.wrap Go.IntKind.i64 t356) (Go.IntKind.wrap Go.IntKind.i64 (p8 + (1 : Int)))) - (1 : Int))), (Int.tmod (Go.IntKind.wrap Go.IntKind.i64 t358) p9))) :: ([] : (List (Int × (Int × Int)))))) p11 p12 p13 p14 p15 p16))))
   (bindD (ancepsref07_sorted.f p10) fun t360 =>
    some (p8, (p9, (p14, (t360.1, (p16, ())))))))
  (bindD (ancepsref07_sorted.f p10) fun t361 =>
   some (p8, (p9, (p14, (t361.1, (p16, ())))))) := (loopAt_step Go.Proofs.C07.ctx 31 5 _).trans (by kernel_rfl)
theorem ancepslaw07_NondetParts.l20_eq (p0 : (List Int)) (p1 : Bool) (p2 : Int) (p3 : Int) (p4 : Int) (p5 : Int) (p6 : Int) (p7 : Int) (p8 : Int) (p9 : (List Int)) (p10 : (List (Int × (Int × Int)))) (p11 : (List Int)) (p12 : Int) (p13 : Int) (p14 : (List Int)) (p15 : (List (Int × (Int × Int)))) (p16 : (List Int)) (p17 : Int) (p18 : Int) (p19 : (List Int)) (p20 : (List (Int × (Int × Int)))) (p21 : (List Int)) (p22 : Int) (p23 : Int) (p24 : (List Int)) (p25 : (List (Int × (Int × Int)))) (p26 : (List Int)) (p27 : Int) (p28 : Int) (p29 : (List Int)) (p30 : (List (Int × (Int × Int)))) (p31 : (List Int)) (p32 : (List Bool)) : ancepslaw07_NondetParts.l20 p0 p1 p2 p3 p4 p5 p6 p7 p8 p9 p10 p11 p12 p13 p14 p15 p16 p17 p18 p19 p20 p21 p22 p23 p24 p25 p26 p27 p28 p29 p30 p31 p32 =
  ifB (decide (p6 < p5))
   (bindD ((ixAt p32 p2)) fun t362 =>
   bindD ((ixAt p32 p2)) fun t363 =>
   ifB t363
    (bindD ((ixAt p32 p2)) fun t364 =>
    bindD ((ixAt p32 p2)) fun t365 =>
    ancepslaw07_NondetParts.l20 p0 p1 p2 p3 p4 p5 (Go.IntKind.wrap Go.IntKind.i64 (p6 + (1 : Int))) p7 p8 p9 p10 p11 p12 p13 p14 p15 p16 p17 p18 p19 p20 p21 p22 p23 p24 p25 p26 p27 p28 p29 p30 p31 (setRow p32 p2 true))
   (bindD ((ixAt p32 p6)) fun t366 =>
    bindD ((ixAt p32 p6)) fun t367 =>
    ifB t367
     (bindD ((subL p0 p6 p2)) fun t368 =>
     bindD (ancepslaw07_NondetParts_1.f p7 p8 p9 p10 p11 t368) fun t369 =>
     bindD ((ixAt p32 p2)) fun t370 =>
     bindD ((ixAt p32 p2)) fun t371 =>
     ancepslaw07_NondetParts.l20 p0 p1 p2 p3 p4 p5 (Go.IntKind.wrap Go.IntKind.i64 (p6 + (1 : Int))) p7 p8 p9 p10 p11 p12 p13 p14 p15 p16 p17 p18 p19 p20 p21 p22 p23 p24 p25 p26 p27 p28 p29 p30 p31 (setRow p32 p2 t369.1))
    (bindD ((ixAt p32 p2)) fun t372 =>
     bindD ((ixAt p32 p2)) fun t373 =>
     ancepslaw07_NondetParts.l20 p0 p1 p2 p3 p4 p5 (Go.IntKind.wrap Go.IntKind.i64 (p6 + (1 : Int))) p7 p8 p9 p10 p11 p12 p13 p14 p15 p16 p17 p18 p19 p20 p21 p22 p23 p24 p25 p26 p27 p28 p29 p30 p31 (setRow p32 p2 false))))
  (ancepslaw07_NondetParts.l16 p0 p1 p3 (Go.IntKind.wrap Go.IntKind.i64 (p4 + (1 : Int))) p7 p8 p9 p10 p11 p12 p13 p14 p15 p16 p17 p18 p19 p20 p21 p22 p23 p24 p25 p26 p27 p28 p29 p30 p31 p32) := (loopAt_step Go.Proofs.C07.ctx 9 20 _).trans (by kernel_rfl)
theorem ancepslaw07_NondetParts_1.f_eq (p0 : Int) (p1 : Int) (p2 : (List Int)) (p3 : (List (Int × (Int × Int)))) (p4 : (List Int)) (p5 : (List Int)) : ancepslaw07_NondetParts_1.f p0 p1 p2 p3 p4 p5 =
  bindD (nondet_Accepts.f p0 p1 p2 p3 p4 p5) fun t374 =>
  ifB (t374.2.1 == (0 : Int))
   (some (t374.1, ()))
  (some (false, ())) := (Einf_call Go.Proofs.C07.ctx 37 _).trans (by kernel_rfl)
theorem ancepsref07_ascending.l2_eq (p0 : (List Int)) (p1 : Int) (p2 : Int) : ancepsref07_ascending.l2 p0 p1 p2 =
  ifB (decide (p2 < (((List.length p0) : Nat) : Int)))
   (bindD ((ixAt p0 p2)) fun t375 =>
   ifB (decide (t375 < (0 : Int)))
    (some (false, ()))
   (bindD ((ixAt p0 p2)) fun t376 =>
    ifB (decide (t376 ≥ p1))
     (some (false, ()))
    (ifB (decide (p2 > (0 : Int)))
      (bindD ((ixAt p0 p2)) fun t377 =>
      bindD ((ixAt p0 (Go.IntKind.wrap Go.IntKind.i64 (p2 - (1 : Int))))) fun t378 =>
      ifB (decide (t377 ≤ t378))
       (some (false, ()))
      (ancepsref07_ascending.l2 p0 p1 (Go.IntKind.wrap Go.IntKind.i64 (p2 + (1 : Int)))))
     (ancepsref07_ascending.l2 p0 p1 (Go.IntKind.wrap Go.IntKind.i64 (p2 + (1 : Int)))))))
  (some (true, ())) := (loopAt_step Go.Proofs.C07.ctx 44 2 _).trans (by kernel_rfl)
theorem ancepsref07_ahead.f_eq (p0 : Int) (p1 : Int) (p2 : Int) (p3 : Int) (p4 : Int) (p5 : Int) : ancepsref07_ahead.f p0 p1 p2 p3 p4 p5 =
  ifB (p0 != p3)
   (some ((decide (p0 < p3)), ()))
  (ifB (p1 != p4)
    (some ((decide (p1 < p4)), ()))
   (some ((decide (p2 < p5)), ()))) := (Einf_call Go.Proofs.C07.ctx 45 _).trans (by kernel_rfl)
theorem nondet_open.l3_eq (p0 : (List (Int × (Int × Int)))) (p1 : Int) (p2 : Int) (p3 : Int) (p4 : Int) (p5 : Int) (p6 : Int) (p7 : (List Int)) (p8 : (List (Int × (Int × Int)))) (p9 : (List Int)) (p10 : (List Int)) (p11 : (List (Int × (Int × Int)))) (p12 : (List Int)) (p13 : (List (List (Int × (Int × Int))))) (p14 : (List (List (Int × (Int × Int))))) : nondet_open.l3 p0 p1 p2 p3 p4 p5 p6 p7 p8 p9 p10 p11 p12 p13 p14 =
  ifB (decide (p2 < p1))
   (bindD ((ixAt p0 p2)) fun t379 =>
   bindD ((ixAt p14 t379.1)) fun t380 =>
   bindD ((ixAt p14 t379.1)) fun t381 =>
   bindD ((ixAt p14 t379.1)) fun t382 =>
   bindD ((Go.Proofs.R.grow ((List.length t382) + (List.length ((t379.1, (t379.2.1, t379.2.2)) :: ([] : (List (Int × (Int × Int))))))))) fun t383 =>
   bindD ((ixAt p14 t379.1)) fun t384 =>
   ifB (decide (t379.1 = t379.1))
    (nondet_open.l3 p0 p1 (Go.IntKind.wrap Go.IntKind.i64 (p2 + (1 : Int))) p3 p4 p5 p6 p7 p8 p9 p10 p11 p12 p13 (setRow p14 t379.1 (t382 ++ ((t379.1, (t379.2.1, t379.2.2)) :: ([] : (List (Int × (Int × Int))))))))
   (none))
  (some (p5, (p6, (p7, (p8, (p9, (p14, ()))))))) := (loopAt_step Go.Proofs.C07.ctx 46 3 _).trans (by kernel_rfl)
theorem nondet_graph_closure.l4_eq (p0 : Int) (p1 : Int) (p2 : Int) (p3 : Int) (p4 : (List Int)) (p5 : (List (Int × (Int × Int)))) (p6 : (List Int)) (p7 : (List (List (Int × (Int × Int))))) (p8 : (List Bool)) (p9 : (List Int)) : nondet_graph_closure.l4 p0 p1 p2 p3 p4 p5 p6 p7 p8 p9 =
  ifB (decide (p1 < p0))
   (bindD ((ixAt p9 p1)) fun t385 =>
   bindD ((ixAt p9 p1)) fun t386 =>
   bindD ((ixAt p8 t386)) fun t387 =>
   bindD ((ixAt p8 t386)) fun t388 =>
   nondet_graph_closure.l4 p0 (Go.IntKind.wrap Go.IntKind.i64 (p1 + (1 : Int))) p2 p3 p4 p5 p6 p7 (setRow p8 t386 true) p9)
  (nondet_graph_closure.l8 p2 p3 p4 p5 p6 p7 p8 p9) := (loopAt_step Go.Proofs.C07.ctx 47 4 _).trans (by kernel_rfl)
theorem slices_IndexFunc_int_int.f_eq (p0 : (List Int)) (p1 : Int) (p2 : Int) (p3 : (List Int)) (p4 : (List (Int × (Int × Int)))) (p5 : (List Int)) : slices_IndexFunc_int_int.f p0 p1 p2 p3 p4 p5 =
  slices_IndexFunc_int_int.l2 p0 p1 p2 p3 p4 p5 (((List.length p0) : Nat) : Int) (0 : Int) := (Einf_call Go.Proofs.C07.ctx 84 _).trans (by kernel_rfl)
theorem nondet_graph_step.f_eq (p0 : Int) (p1 : Int) (p2 : (List Int)) (p3 : (List (Int × (Int × Int)))) (p4 : (List Int)) (p5 : (List (List (Int × (Int × Int))))) (p6 : (List Bool)) (p7 : Int) : nondet_graph_step.f p0 p1 p2 p3 p4 p5 p6 p7 =
  bindD (nondet_set_list.f p6) fun t437 =>
  nondet_graph_step.l3 p7 (((List.length t437.1) : Nat) : Int) (0 : Int) p0 p1 p2 p3 p4 p5 ([] : (List Int)) t437.1 := (Einf_call Go.Proofs.C07.ctx 50 _).trans (by kernel_rfl)
theorem nondet_graph_accepts.f_eq (p0 : Int) (p1 : Int) (p2 : (List Int)) (p3 : (List (Int × (Int × Int)))) (p4 : (List Int)) (p5 : (List (List (Int × (Int × Int))))) (p6 : (List Bool)) : nondet_graph_accepts.f p0 p1 p2 p3 p4 p5 p6 =
  bindD (slices_ContainsFunc_int_int.f2 p4 p6) fun t438 =>
  some (t438.1, ()) := (Einf_call Go.Proofs.C07.ctx 52 _).trans (by kernel_rfl)
theorem nondet_set_list.l3_eq (p0 : (List Bool)) (p1 : Int) (p2 : Int) (p3 : (List Int)) : nondet_set_list.l3 p0 p1 p2 p3 =
  ifB (decide (p2 < p1))
   (bindD ((ixAt p0 p2)) fun t439 =>
   ifB t439
    (bindD ((Go.Proofs.R.grow ((List.length p3) + (List.length (p2 :: ([] : (List Int))))))) fun t440 =>
    nondet_set_list.l3 p0 p1 (Go.IntKind.wrap Go.IntKind.i64 (p2 + (1 : Int))) (p3 ++ (p2 :: ([] : (List Int)))))
   (nondet_set_list.l3 p0 p1 (Go.IntKind.wrap Go.IntKind.i64 (p2 + (1 : Int))) p3))
  (some (p3, ())) := (loopAt_step Go.Proofs.C07.ctx 63 3 _).trans (by kernel_rfl)
theorem nondet_ascends.l2_eq (p0 : (List Int)) (p1 : Int) (p2 : (List Int)) (p3 : Int) (p4 : Int) : nondet_ascends.l2 p0 p1 p2 p3 p4 =
  ifB (decide (p4 < p3))
   (bindD ((ixAt p2 p4)) fun t444 =>
   ifB (decide (t444 < (0 : Int)))
    (some (false, ()))
   (ifB (decide (t444 ≥ p1))
     (some (false, ()))
    (ifB (decide (p4 > (0 : Int)))
      (bindD ((ixAt p0 (Go.IntKind.wrap Go.IntKind.i64 (p4 - (1 : Int))))) fun t445 =>
      ifB (decide (t445 ≥ t444))
       (some (false, ()))
      (nondet_ascends.l2 p0 p1 p2 p3 (Go.IntKind.wrap Go.IntKind.i64 (p4 + (1 : Int)))))
     (nondet_ascends.l2 p0 p1 p2 p3 (Go.IntKind.wrap Go.IntKind.i64 (p4 + (1 : Int)))))))
  (some (true, ())) := (loopAt_step Go.Proofs.C07.ctx 64 2 _).trans (by kernel_rfl)
theorem ancepsref07_sorted.f_eq (p0 : (List (Int × (Int × Int)))) : ancepsref07_sorted.f p0 =
  ancepsref07_sorted.l3 p0 (0 : Int) ([] : (List (Int × (Int × Int)))) := (Einf_call Go.Proofs.C07.ctx 69 _).trans (by kernel_rfl)
theorem nondet_beside.l5_eq (p0 : (List (Int × (Int × Int)))) (p1 : Int) (p2 : Int) (p3 : Int) (p4 : Int) (p5 : (List Int)) (p6 : (List (Int × (Int × Int)))) (p7 : (List Int)) (p8 : Int) (p9 : Int) (p10 : Int) (p11 : Int) (p12 : (List Int)) (p13 : (List (Int × (Int × Int)))) (p14 : (List Int)) (p15 : (List Int)) (p16 : (List (Int × (Int × Int)))) (p17 : (List Int)) : nondet_beside.l5 p0 p1 p2 p3 p4 p5 p6 p7 p8 p9 p10 p11 p12 p13 p14 p15 p16 p17 =
  ifB (decide (p2 < p1))
   (bindD ((ixAt p0 p2)) fun t458 =>
   bindD ((Go.Proofs.R.grow ((List.length p16) + (List.length (((Go.IntKind.wrap Go.IntKind.i64 (t458.1 + p4)), (t458.2.1, (Go.IntKind.wrap Go.IntKind.i64 (t458.2.2 + p4)))) :: ([] : (List (Int × (Int × Int))))))))) fun t459 =>
   nondet_beside.l5 p0 p1 (Go.IntKind.wrap Go.IntKind.i64 (p2 + (1 : Int))) p3 p4 p5 p6 p7 p8 p9 p10 p11 p12 p13 p14 p15 (p16 ++ (((Go.IntKind.wrap Go.IntKind.i64 (t458.1 + p4)), (t458.2.1, (Go.IntKind.wrap Go.IntKind.i64 (t458.2.2 + p4)))) :: ([] : (List (Int × (Int × Int)))))) p17)
  (some (p10, (p11, (p15, (p16, (p17, ((0 : Int), ()))))))) := (loopAt_step Go.Proofs.C07.ctx 71 5 _).trans (by kernel_rfl)
theorem nondet_moved.l3_eq (p0 : Int) (p1 : (List Int)) (p2 : Int) (p3 : Int) (p4 : (List Int)) : nondet_moved.l3 p0 p1 p2 p3 p4 =
  ifB (decide (p3 < p2))
   (bindD ((ixAt p1 p3)) fun t460 =>
   bindD ((Go.Proofs.R.grow ((List.length p4) + (List.length ((Go.IntKind.wrap Go.IntKind.i64 (t460 + p0)) :: ([] : (List Int))))))) fun t461 =>
   nondet_moved.l3 p0 p1 p2 (Go.IntKind.wrap Go.IntKind.i64 (p3 + (1 : Int))) (p4 ++ ((Go.IntKind.wrap Go.IntKind.i64 (t460 + p0)) :: ([] : (List Int)))))
  (some (p4, ())) := (loopAt_step Go.Proofs.C07.ctx 72 3 _).trans (by kernel_rfl)
theorem cmp_Compare_int.f_eq (p0 : Int) (p1 : Int) : cmp_Compare_int.f p0 p1 =
  bindD (cmp_isNaN_int.f p0) fun t462 =>
  bindD (cmp_isNaN_int.f p1) fun t463 =>
  ifB t462.1
   (ifB t463.1
    (some ((0 : Int), ()))
   (some ((-(1 : Int)), ())))
  (ifB t463.1
    (some ((1 : Int), ()))
   (ifB (decide (p0 < p1))
     (some ((-(1 : Int)), ()))
    (ifB (decide (p0 > p1))
      (some ((1 : Int), ()))
     (some ((0 : Int), ()))))) := (Einf_call Go.Proofs.C07.ctx 87 _).trans (by kernel_rfl)
theorem cmp_Or_int.f_eq (p0 : (List Int)) : cmp_Or_int.f p0 =
  cmp_Or_int.l3 (0 : Int) p0 (((List.length p0) : Nat) : Int) (0 : Int) := (Einf_call Go.Proofs.C07.ctx 86 _).trans (by kernel_rfl)
theorem ancepsref07_both.l4_eq (p0 : Int) (p1 : Int) (p2 : Int) (p3 : (List Int)) (p4 : (List (Int × (Int × Int)))) (p5 : (List Int)) (p6 : Int) (p7 : Int) (p8 : (List Int)) (p9 : (List (Int × (Int × Int)))) (p10 : (List Int)) (p11 : Int) (p12 : Int) (p13 : Int) (p14 : Int) (p15 : (List Int)) (p16 : (List (Int × (Int × Int)))) (p17 : (List Int)) (p18 : (List Int)) (p19 : (List (Int × (Int × Int)))) (p20 : (List Int)) : ancepsref07_both.l4 p0 p1 p2 p3 p4 p5 p6 p7 p8 p9 p10 p11 p12 p13 p14 p15 p16 p17 p18 p19 p20 =
  ifB (decide (p0 < (((List.length p9) : Nat) : Int)))
   (bindD ((ixAt p9 p0)) fun t464 =>
   bindD ((Go.Proofs.R.grow ((List.length p19) + (List.length (((Go.IntKind.wrap Go.IntKind.i64 (t464.1 + p2)), (t464.2.1, (Go.IntKind.wrap Go.IntKind.i64 (t464.2.2 + p2)))) :: ([] : (List (Int × (Int × Int))))))))) fun t465 =>
   ancepsref07_both.l4 (Go.IntKind.wrap Go.IntKind.i64 (p0 + (1 : Int))) p1 p2 p3 p4 p5 p6 p7 p8 p9 p10 p11 p12 p13 p14 p15 p16 p17 p18 (p19 ++ (((Go.IntKind.wrap Go.IntKind.i64 (t464.1 + p2)), (t464.2.1, (Go.IntKind.wrap Go.IntKind.i64 (t464.2.2 + p2)))) :: ([] : (List (Int × (Int × Int)))))) p20)
  (some (p13, (p14, (p18, (p19, (p20, ())))))) := (loopAt_step Go.Proofs.C07.ctx 75 4 _).trans (by kernel_rfl)
theorem ancepsref07_moved.l3_eq (p0 : (List Int)) (p1 : Int) (p2 : Int) (p3 : (List Int)) : ancepsref07_moved.l3 p0 p1 p2 p3 =
  ifB (decide (p2 < (((List.length p0) : Nat) : Int)))
   (bindD ((ixAt p0 p2)) fun t466 =>
   bindD ((Go.Proofs.R.grow ((List.length p3) + (List.length ((Go.IntKind.wrap Go.IntKind.i64 (t466 + p1)) :: ([] : (List Int))))))) fun t467 =>
   ancepsref07_moved.l3 p0 p1 (Go.IntKind.wrap Go.IntKind.i64 (p2 + (1 : Int))) (p3 ++ ((Go.IntKind.wrap Go.IntKind.i64 (t466 + p1)) :: ([] : (List Int)))))
  (some (p3, ())) := (loopAt_step Go.Proofs.C07.ctx 76 3 _).trans (by kernel_rfl)
theorem nondet_Concat.l11_eq (p0 : Int) (p1 : (List Int)) (p2 : Int) (p3 : Int) (p4 : (List Int)) (p5 : Int) (p6 : Int) (p7 : Int) (p8 : Int) (p9 : (List Int)) (p10 : (List (Int × (Int × Int)))) (p11 : (List Int)) (p12 : Int) (p13 : Int) (p14 : (List Int)) (p15 : (List (Int × (Int × Int)))) (p16 : (List Int)) (p17 : Int) (p18 : Int) (p19 : Int) (p20 : Int) (p21 : (List Int)) (p22 : (List (Int × (Int × Int)))) (p23 : (List Int)) (p24 : (List Int)) (p25 : (List (Int × (Int × Int)))) (p26 : (List Int)) : nondet_Concat.l11 p0 p1 p2 p3 p4 p5 p6 p7 p8 p9 p10 p11 p12 p13 p14 p15 p16 p17 p18 p19 p20 p21 p22 p23 p24 p25 p26 =
  ifB (decide (p6 < p5))
   (bindD ((ixAt p4 p6)) fun t468 =>
   bindD ((Go.Proofs.R.grow ((List.length p25) + (List.length ((p0, ((-(1 : Int)), (Go.IntKind.wrap Go.IntKind.i64 (t468 + p8)))) :: ([] : (List (Int × (Int × Int))))))))) fun t469 =>
   nondet_Concat.l11 p0 p1 p2 p3 p4 p5 (Go.IntKind.wrap Go.IntKind.i64 (p6 + (1 : Int))) p7 p8 p9 p10 p11 p12 p13 p14 p15 p16 p17 p18 p19 p20 p21 p22 p23 p24 (p25 ++ ((p0, ((-(1 : Int)), (Go.IntKind.wrap Go.IntKind.i64 (t468 + p8)))) :: ([] : (List (Int × (Int × Int)))))) p26)
  (nondet_Concat.l8 p1 p2 (Go.IntKind.wrap Go.IntKind.i64 (p3 + (1 : Int))) p7 p8 p9 p10 p11 p12 p13 p14 p15 p16 p17 p18 p19 p20 p21 p22 p23 p24 p25 p26) := (loopAt_step Go.Proofs.C07.ctx 36 11 _).trans (by kernel_rfl)
theorem ancepsref07_Concat.l11_eq (p0 : Int) (p1 : Int) (p2 : Int) (p3 : Int) (p4 : (List Int)) (p5 : (List (Int × (Int × Int)))) (p6 : (List Int)) (p7 : Int) (p8 : Int) (p9 : (List Int)) (p10 : (List (Int × (Int × Int)))) (p11 : (List Int)) (p12 : Int) (p13 : Int) (p14 : Int) (p15 : Int) (p16 : (List Int)) (p17 : (List (Int × (Int × Int)))) (p18 : (List Int)) (p19 : (List Int)) (p20 : (List (Int × (Int × Int)))) (p21 : (List Int)) : ancepsref07_Concat.l11 p0 p1 p2 p3 p4 p5 p6 p7 p8 p9 p10 p11 p12 p13 p14 p15 p16 p17 p18 p19 p20 p21 =
  ifB (decide (p1 < (((List.length p9) : Nat) : Int)))
   (bindD ((ixAt p6 p0)) fun t470 =>
   bindD ((ixAt p9 p1)) fun t471 =>
   bindD ((Go.Proofs.R.grow ((List.length p20) + (List.length ((t470, ((-(1 : Int)), (Go.IntKind.wrap Go.IntKind.i64 (t471 + p3)))) :: ([] : (List (Int × (Int × Int))))))))) fun t472 =>
   ancepsref07_Concat.l11 p0 (Go.IntKind.wrap Go.IntKind.i64 (p1 + (1 : Int))) p2 p3 p4 p5 p6 p7 p8 p9 p10 p11 p12 p13 p14 p15 p16 p17 p18 p19 (p20 ++ ((t470, ((-(1 : Int)), (Go.IntKind.wrap Go.IntKind.i64 (t471 + p3)))) :: ([] : (List (Int × (Int × Int)))))) p21)
  (ancepsref07_Concat.l8 (Go.IntKind.wrap Go.IntKind.i64 (p0 + (1 : Int))) p2 p3 p4 p5 p6 p7 p8 p9 p10 p11 p12 p13 p14 p15 p16 p17 p18 p19 p20 p21) := (loopAt_step Go.Proofs.C07.ctx 41 11 _).trans (by kernel_rfl)
theorem nondet_Star.l12_eq (p0 : Int) (p1 : (List Int)) (p2 : Int) (p3 : Int) (p4 : Int) (p5 : Int) (p6 : Int) (p7 : Int) (p8 : (List Int)) (p9 : (List (Int × (Int × Int)))) (p10 : (List Int)) (p11 : (List Int)) (p12 : (List (Int × (Int × Int)))) (p13 : (List Int)) : nondet_Star.l12 p0 p1 p2 p3 p4 p5 p6 p7 p8 p9 p10 p11 p12 p13 =
  ifB (decide (p3 < p2))
   (bindD ((ixAt p1 p3)) fun t473 =>
   bindD ((Go.Proofs.R.grow ((List.length p12) + (List.length ((t473, ((-(1 : Int)), p0)) :: ([] : (List (Int × (Int × Int))))))))) fun t474 =>
   nondet_Star.l12 p0 p1 p2 (Go.IntKind.wrap Go.IntKind.i64 (p3 + (1 : Int))) p4 p5 p6 p7 p8 p9 p10 p11 (p12 ++ ((t473, ((-(1 : Int)), p0)) :: ([] : (List (Int × (Int × Int)))))) p13)
  (ifB (decide (p7 > (400 : Int)))
    (some ((0 : Int), ((0 : Int), (([] : (List Int)), (([] : (List (Int × (Int × Int)))), (([] : (List Int)), ((3 : Int), ())))))))
   (ifB (decide ((((List.length p12) : Nat) : Int) > (4000 : Int)))
     (some ((0 : Int), ((0 : Int), (([] : (List Int)), (([] : (List (Int × (Int × Int)))), (([] : (List Int)), ((3 : Int), ())))))))
    (bindD ((Go.Proofs.R.grow (List.length p12))) fun t475 =>
     bindD (sortB false (fun t476 t477 => bindD (nondet_order.f t476.1 t476.2.1 t476.2.2 t477.1 t477.2.1 t477.2.2) fun t478 =>
      some t478.1) p12) fun t479 =>
     some (p6, (p7, (p11, (t479, (p13, ((0 : Int), ()))))))))) := (loopAt_step Go.Proofs.C07.ctx 35 12 _).trans (by kernel_rfl)
theorem ancepsref07_Star.l12_eq (p0 : Int) (p1 : Int) (p2 : Int) (p3 : Int) (p4 : (List Int)) (p5 : (List (Int × (Int × Int)))) (p6 : (List Int)) (p7 : Int) (p8 : Int) (p9 : Int) (p10 : Int) (p11 : (List Int)) (p12 : (List (Int × (Int × Int)))) (p13 : (List Int)) (p14 : (List Int)) (p15 : (List (Int × (Int × Int)))) (p16 : (List Int)) : ancepsref07_Star.l12 p0 p1 p2 p3 p4 p5 p6 p7 p8 p9 p10 p11 p12 p13 p14 p15 p16 =
  ifB (decide (p1 < (((List.length p6) : Nat) : Int)))
   (bindD ((ixAt p6 p1)) fun t480 =>
   bindD ((Go.Proofs.R.grow ((List.length p15) + (List.length ((t480, ((-(1 : Int)), p0)) :: ([] : (List (Int × (Int × Int))))))))) fun t481 =>
   ancepsref07_Star.l12 p0 (Go.IntKind.wrap Go.IntKind.i64 (p1 + (1 : Int))) p2 p3 p4 p5 p6 p7 p8 p9 p10 p11 p12 p13 p14 (p15 ++ ((t480, ((-(1 : Int)), p0)) :: ([] : (List (Int × (Int × Int)))))) p16)
  (bindD (ancepsref07_large.f p9 p10 p14 p15 p16) fun t482 =>
   ifB t482.1
    (some ((0 : Int), ((0 : Int), (([] : (List Int)), (([] : (List (Int × (Int × Int)))), (([] : (List Int)), ((3 : Int), ())))))))
   (bindD (ancepsref07_sorted.f p15) fun t483 =>
    some (p9, (p10, (p14, (t483.1, (p16, ((0 : Int), ())))))))) := (loopAt_step Go.Proofs.C07.ctx 42 12 _).trans (by kernel_rfl)
theorem ancepsref07_bits.l3_eq (p0 : Int) (p1 : Int) (p2 : Int) (p3 : (List Int)) : ancepsref07_bits.l3 p0 p1 p2 p3 =
  ifB (decide (p2 < p1))
   (ifB (decide (p2 < (8 : Int)))
    (ifB (decide (p2 < (0 : Int)))
     (none)
    (ifB ((Go.Proofs.R.bitsOp Go.BinOp.and Go.IntKind.u8 (Go.Proofs.R.shrInt Go.IntKind.u8 p0 p2) (1 : Int)) == (1 : Int))
      (bindD ((Go.Proofs.R.grow ((List.length p3) + (List.length (p2 :: ([] : (List Int))))))) fun t484 =>
      ancepsref07_bits.l3 p0 p1 (Go.IntKind.wrap Go.IntKind.i64 (p2 + (1 : Int))) (p3 ++ (p2 :: ([] : (List Int)))))
     (ancepsref07_bits.l3 p0 p1 (Go.IntKind.wrap Go.IntKind.i64 (p2 + (1 : Int))) p3)))
   (some (p3, ())))
  (some (p3, ())) := (loopAt_step Go.Proofs.C07.ctx 68 3 _).trans (by kernel_rfl)
theorem nondet_graph_closure.l8_eq (p0 : Int) (p1 : Int) (p2 : (List Int)) (p3 : (List (Int × (Int × Int)))) (p4 : (List Int)) (p5 : (List (List (Int × (Int × Int))))) (p6 : (List Bool)) (p7 : (List Int)) : nondet_graph_closure.l8 p0 p1 p2 p3 p4 p5 p6 p7 =
  ifB (decide ((((List.length p7) : Nat) : Int) > (0 : Int)))
   (bindD ((ixAt p7 (Go.IntKind.wrap Go.IntKind.i64 ((((List.length p7) : Nat) : Int) - (1 : Int))))) fun t485 =>
   bindD ((ixAt p7 (Go.IntKind.wrap Go.IntKind.i64 ((((List.length p7) : Nat) : Int) - (1 : Int))))) fun t486 =>
   bindD ((subL p7 (0 : Int) (Go.IntKind.wrap Go.IntKind.i64 ((((List.length p7) : Nat) : Int) - (1 : Int))))) fun t487 =>
   bindD ((ixAt p5 t486)) fun t488 =>
   nondet_graph_closure.l12 t488 (((List.length t488) : Nat) : Int) (0 : Int) p0 p1 p2 p3 p4 p5 p6 t487)
  (some (p6, ())) := (loopAt_step Go.Proofs.C07.ctx 47 8 _).trans (by kernel_rfl)
theorem slices_IndexFunc_int_int.l2_eq (p0 : (List Int)) (p1 : Int) (p2 : Int) (p3 : (List Int)) (p4 : (List (Int × (Int × Int)))) (p5 : (List Int)) (p6 : Int) (p7 : Int) : slices_IndexFunc_int_int.l2 p0 p1 p2 p3 p4 p5 p6 p7 =
  ifB (decide (p7 < p6))
   (bindD ((ixAt p0 p7)) fun t504 =>
   bindD (nondet_Accepts_1.f t504 p1 p2 p3 p4 p5) fun t505 =>
   ifB t505.1
    (some (p7, ()))
   (slices_IndexFunc_int_int.l2 p0 p1 p2 p3 p4 p5 p6 (Go.IntKind.wrap Go.IntKind.i64 (p7 + (1 : Int)))))
  (some ((-(1 : Int)), ())) := (loopAt_step Go.Proofs.C07.ctx 84 2 _).trans (by kernel_rfl)
theorem nondet_graph_step.l3_eq (p0 : Int) (p1 : Int) (p2 : Int) (p3 : Int) (p4 : Int) (p5 : (List Int)) (p6 : (List (Int × (Int × Int)))) (p7 : (List Int)) (p8 : (List (List (Int × (Int × Int))))) (p9 : (List Int)) (p10 : (List Int)) : nondet_graph_step.l3 p0 p1 p2 p3 p4 p5 p6 p7 p8 p9 p10 =
  ifB (decide (p2 < p1))
   (bindD ((ixAt p10 p2)) fun t506 =>
   bindD ((ixAt p10 p2)) fun t507 =>
   bindD ((ixAt p8 t507)) fun t508 =>
   nondet_graph_step.l6 p0 p1 p2 t508 (((List.length t508) : Nat) : Int) (0 : Int) p3 p4 p5 p6 p7 p8 p9 p10)
  (bindD (nondet_graph_closure.f p3 p4 p5 p6 p7 p8 p9) fun t509 =>
   some (t509.1, ())) := (loopAt_step Go.Proofs.C07.ctx 50 3 _).trans (by kernel_rfl)
theorem slices_ContainsFunc_int_int.f2_eq (p0 : (List Int)) (p1 : (List Bool)) : slices_ContainsFunc_int_int.f2 p0 p1 =
  bindD (slices_IndexFunc_int_int.f2 p0 p1) fun t510 =>
  some ((decide (t510.1 ≥ (0 : Int))), ()) := (Einf_call Go.Proofs.C07.ctx 59 _).trans (by kernel_rfl)
theorem ancepsref07_sorted.l3_eq (p0 : (List (Int × (Int × Int)))) (p1 : Int) (p2 : (List (Int × (Int × Int)))) : ancepsref07_sorted.l3 p0 p1 p2 =
  ifB (decide (p1 < (((List.length p0) : Nat) : Int)))
   (ancepsref07_sorted.l6 p0 p1 (((List.length p2) : Nat) : Int) p2)
  (some (p2, ())) := (loopAt_step Go.Proofs.C07.ctx 69 3 _).trans (by kernel_rfl)
theorem cmp_isNaN_int.f_eq (p0 : Int) : cmp_isNaN_int.f p0 =
  some ((p0 != p0), ()) := (Einf_call Go.Proofs.C07.ctx 94 _).trans (by kernel_rfl)
theorem cmp_Or_int.l3_eq (p0 : Int) (p1 : (List Int)) (p2 : Int) (p3 : Int) : cmp_Or_int.l3 p0 p1 p2 p3 =
  ifB (decide (p3 < p2))
   (bindD ((ixAt p1 p3)) fun t544 =>
   ifB (t544 != p0)
    (some (t544, ()))
   (cmp_Or_int.l3 p0 p1 p2 (Go.IntKind.wrap Go.IntKind.i64 (p3 + (1 : Int)))))
  (some (p0, ())) := (loopAt_step Go.Proofs.C07.ctx 86 3 _).trans (by kernel_rfl)
theorem nondet_graph_closure.l12_eq (p0 : (List (Int × (Int × Int)))) (p1 : Int) (p2 : Int) (p3 : Int) (p4 : Int) (p5 : (List Int)) (p6 : (List (Int × (Int × Int)))) (p7 : (List Int)) (p8 : (List (List (Int × (Int × Int))))) (p9 : (List Bool)) (p10 : (List Int)) : nondet_graph_closure.l12 p0 p1 p2 p3 p4 p5 p6 p7 p8 p9 p10 =
  ifB (decide (p2 < p1))
   (bindD ((ixAt p0 p2)) fun t545 =>
   ifB (decide (t545.2.1 < (0 : Int)))
    (bindD ((ixAt p9 t545.2.2)) fun t546 =>
    bindD ((ixAt p9 t545.2.2)) fun t547 =>
    ifB (!t547)
     (bindD ((ixAt p9 t545.2.2)) fun t548 =>
     bindD ((ixAt p9 t545.2.2)) fun t549 =>
     bindD ((Go.Proofs.R.grow ((List.length p10) + (List.length (t545.2.2 :: ([] : (List Int))))))) fun t550 =>
     nondet_graph_closure.l12 p0 p1 (Go.IntKind.wrap Go.IntKind.i64 (p2 + (1 : Int))) p3 p4 p5 p6 p7 p8 (setRow p9 t545.2.2 true) (p10 ++ (t545.2.2 :: ([] : (List Int)))))
    (nondet_graph_closure.l12 p0 p1 (Go.IntKind.wrap Go.IntKind.i64 (p2 + (1 : Int))) p3 p4 p5 p6 p7 p8 p9 p10))
   (nondet_graph_closure.l12 p0 p1 (Go.IntKind.wrap Go.IntKind.i64 (p2 + (1 : Int))) p3 p4 p5 p6 p7 p8 p9 p10))
  (nondet_graph_closure.l8 p3 p4 p5 p6 p7 p8 p9 p10) := (loopAt_step Go.Proofs.C07.ctx 47 12 _).trans (by kernel_rfl)
theorem nondet_Accepts_1.f_eq (p0 : Int) (p1 : Int) (p2 : Int) (p3 : (List Int)) (p4 : (List (Int × (Int × Int)))) (p5 : (List Int)) : nondet_Accepts_1.f p0 p1 p2 p3 p4 p5 =
  ifB (decide (p0 < (0 : Int)))
   (some (true, ()))
  (some ((decide (p0 ≥ p1)), ())) := (Einf_call Go.Proofs.C07.ctx 60 _).trans (by kernel_rfl)
theorem nondet_graph_step.l6_eq (p0 : Int) (p1 : Int) (p2 : Int) (p3 : (List (Int × (Int × Int)))) (p4 : Int) (p5 : Int) (p6 : Int) (p7 : Int) (p8 : (List Int)) (p9 : (List (Int × (Int × Int)))) (p10 : (List Int)) (p11 : (List (List (Int × (Int × Int))))) (p12 : (List Int)) (p13 : (List Int)) : nondet_graph_step.l6 p0 p1 p2 p3 p4 p5 p6 p7 p8 p9 p10 p11 p12 p13 =
  ifB (decide (p5 < p4))
   (bindD ((ixAt p3 p5)) fun t594 =>
   ifB (t594.2.1 == p0)
    (bindD ((Go.Proofs.R.grow ((List.length p12) + (List.length (t594.2.2 :: ([] : (List Int))))))) fun t595 =>
    nondet_graph_step.l6 p0 p1 p2 p3 p4 (Go.IntKind.wrap Go.IntKind.i64 (p5 + (1 : Int))) p6 p7 p8 p9 p10 p11 (p12 ++ (t594.2.2 :: ([] : (List Int)))) p13)
   (nondet_graph_step.l6 p0 p1 p2 p3 p4 (Go.IntKind.wrap Go.IntKind.i64 (p5 + (1 : Int))) p6 p7 p8 p9 p10 p11 p12 p13))
  (nondet_graph_step.l3 p0 p1 (Go.IntKind.wrap Go.IntKind.i64 (p2 + (1 : Int))) p6 p7 p8 p9 p10 p11 p12 p13) := (loopAt_step Go.Proofs.C07.ctx 50 6 _).trans (by kernel_rfl)
theorem slices_IndexFunc_int_int.f2_eq (p0 : (List Int)) (p1 : (List Bool)) : slices_IndexFunc_int_int.f2 p0 p1 =
  slices_IndexFunc_int_int.l2_2 p0 p1 (((List.length p0) : Nat) : Int) (0 : Int) := (Einf_call Go.Proofs.C07.ctx 84 _).trans (by kernel_rfl)
theorem ancepsref07_sorted.l6_eq (p0 : (List (Int × (Int × Int)))) (p1 : Int) (p2 : Int) (p3 : (List (Int × (Int × Int)))) : ancepsref07_sorted.l6 p0 p1 p2 p3 =
  ifB (decide (p2 > (0 : Int)))
   (bindD ((ixAt p0 p1)) fun t599 =>
   bindD ((ixAt p3 (Go.IntKind.wrap Go.IntKind.i64 (p2 - (1 : Int))))) fun t600 =>
   bindD ((ixAt p3 (Go.IntKind.wrap Go.IntKind.i64 (p2 - (1 : Int))))) fun t601 =>
   bindD (ancepsref07_ahead.f t599.1 t599.2.1 t599.2.2 t601.1 t601.2.1 t601.2.2) fun t602 =>
   ifB t602.1
    (ancepsref07_sorted.l6 p0 p1 (Go.IntKind.wrap Go.IntKind.i64 (p2 - (1 : Int))) p3)
   (ifB (decide (p2 > (0 : Int)))
     (bindD ((ixAt p3 (Go.IntKind.wrap Go.IntKind.i64 (p2 - (1 : Int))))) fun t603 =>
     bindD ((ixAt p3 (Go.IntKind.wrap Go.IntKind.i64 (p2 - (1 : Int))))) fun t604 =>
     bindD ((ixAt p0 p1)) fun t605 =>
     ifB ((t604.1 == t605.1) && ((t604.2.1 == t605.2.1) && (t604.2.2 == t605.2.2)))
      (ancepsref07_sorted.l3 p0 (Go.IntKind.wrap Go.IntKind.i64 (p1 + (1 : Int))) p3)
     (bindD ((ixAt p0 p1)) fun t606 =>
      bindD ((Go.Proofs.R.grow ((List.length p3) + (List.length ((t606.1, (t606.2.1, t606.2.2)) :: ([] : (List (Int × (Int × Int))))))))) fun t607 =>
      ancepsref07_sorted.l11 p0 p1 p2 (Go.IntKind.wrap Go.IntKind.i64 ((((List.length (p3 ++ ((t606.1, (t606.2.1, t606.2.2)) :: ([] : (List (Int × (Int × Int))))))) : Nat) : Int) - (1 : Int))) (p3 ++ ((t606.1, (t606.2.1, t606.2.2)) :: ([] : (List (Int × (Int × Int))))))))
    (bindD ((ixAt p0 p1)) fun t608 =>
     bindD ((Go.Proofs.R.grow ((List.length p3) + (List.length ((t608.1, (t608.2.1, t608.2.2)) :: ([] : (List (Int × (Int × Int))))))))) fun t609 =>
     ancepsref07_sorted.l11 p0 p1 p2 (Go.IntKind.wrap Go.IntKind.i64 ((((List.length (p3 ++ ((t608.1, (t608.2.1, t608.2.2)) :: ([] : (List (Int × (Int × Int))))))) : Nat) : Int) - (1 : Int))) (p3 ++ ((t608.1, (t608.2.1, t608.2.2)) :: ([] : (List (Int × (Int × Int)))))))))
  (ifB (decide (p2 > (0 : Int)))
    (bindD ((ixAt p3 (Go.IntKind.wrap Go.IntKind.i64 (p2 - (1 : Int))))) fun t610 =>
    bindD ((ixAt p3 (Go.IntKind.wrap Go.IntKind.i64 (p2 - (1 : Int))))) fun t611 =>
    bindD ((ixAt p0 p1)) fun t612 =>
    ifB ((t611.1 == t612.1) && ((t611.2.1 == t612.2.1) && (t611.2.2 == t612.2.2)))
     (ancepsref07_sorted.l3 p0 (Go.IntKind.wrap Go.IntKind.i64 (p1 + (1 : Int))) p3)
    (bindD ((ixAt p0 p1)) fun t613 =>
     bindD ((Go.Proofs.R.grow ((List.length p3) + (List.length ((t613.1, (t613.2.1, t613.2.2)) :: ([] : (List (Int × (Int × Int))))))))) fun t614 =>
     ancepsref07_sorted.l11 p0 p1 p2 (Go.IntKind.wrap Go.IntKind.i64 ((((List.length (p3 ++ ((t613.1, (t613.2.1, t613.2.2)) :: ([] : (List (Int × (Int × Int))))))) : Nat) : Int) - (1 : Int))) (p3 ++ ((t613.1, (t613.2.1, t613.2.2)) :: ([] : (List (Int × (Int × Int))))))))
   (bindD ((ixAt p0 p1)) fun t615 =>
    bindD ((Go.Proofs.R.grow ((List.length p3) + (List.length ((t615.1, (t615.2.1, t615.2.2)) :: ([] : (List (Int × (Int × Int))))))))) fun t616 =>
    ancepsref07_sorted.l11 p0 p1 p2 (Go.IntKind.wrap Go.IntKind.i64 ((((List.length (p3 ++ ((t615.1, (t615.2.1, t615.2.2)) :: ([] : (List (Int × (Int × Int))))))) : Nat) : Int) - (1 : Int))) (p3 ++ ((t615.1, (t615.2.1, t615.2.2)) :: ([] : (List (Int × (Int × Int)))))))) := (loopAt_step Go.Proofs.C07.ctx 69 6 _).trans (by kernel_rfl)
theorem slices_IndexFunc_int_int.l2_2_eq (p0 : (List Int)) (p1 : (List Bool)) (p2 : Int) (p3 : Int) : slices_IndexFunc_int_int.l2_2 p0 p1 p2 p3 =
  ifB (decide (p3 < p2))
   (bindD ((ixAt p0 p3)) fun t632 =>
   bindD (nondet_graph_accepts_1.f t632 p1) fun t633 =>
   ifB t633.1
    (some (p3, ()))
   (slices_IndexFunc_int_int.l2_2 p0 p1 p2 (Go.IntKind.wrap Go.IntKind.i64 (p3 + (1 : Int)))))
  (some ((-(1 : Int)), ())) := (loopAt_step Go.Proofs.C07.ctx 84 2 _).trans (by kernel_rfl)
theorem ancepsref07_sorted.l11_eq (p0 : (List (Int × (Int × Int)))) (p1 : Int) (p2 : Int) (p3 : Int) (p4 : (List (Int × (Int × Int)))) : ancepsref07_sorted.l11 p0 p1 p2 p3 p4 =
  ifB (decide (p3 > p2))
   (bindD ((ixAt p4 (Go.IntKind.wrap Go.IntKind.i64 (p3 - (1 : Int))))) fun t640 =>
   bindD ((ixAt p4 (Go.IntKind.wrap Go.IntKind.i64 (p3 - (1 : Int))))) fun t641 =>
   bindD ((ixAt p4 p3)) fun t642 =>
   bindD ((ixAt p4 p3)) fun t643 =>
   ancepsref07_sorted.l11 p0 p1 p2 (Go.IntKind.wrap Go.IntKind.i64 (p3 - (1 : Int))) (setRow p4 p3 (t641.1, (t641.2.1, t641.2.2))))
  (bindD ((ixAt p0 p1)) fun t644 =>
   bindD ((ixAt p4 p2)) fun t645 =>
   bindD ((ixAt p4 p2)) fun t646 =>
   ancepsref07_sorted.l3 p0 (Go.IntKind.wrap Go.IntKind.i64 (p1 + (1 : Int))) (setRow p4 p2 (t644.1, (t644.2.1, t644.2.2)))) := (loopAt_step Go.Proofs.C07.ctx 69 11 _).trans (by kernel_rfl)
theorem nondet_graph_accepts_1.f_eq (p0 : Int) (p1 : (List Bool)) : nondet_graph_accepts_1.f p0 p1 =
  bindD ((ixAt p1 p0)) fun t662 =>
  some (t662, ()) := (Einf_call Go.Proofs.C07.ctx 82 _).trans (by kernel_rfl)
end Go.Proofs.C07
