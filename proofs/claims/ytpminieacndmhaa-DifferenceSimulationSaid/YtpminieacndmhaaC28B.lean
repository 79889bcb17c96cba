/- C28B: what the row's functions are, as the evaluator tells them. No condition. -/
import Derived.Test.YtpminieacndmhaaC28
set_option linter.unusedVariables false
set_option linter.unusedSimpArgs false
set_option maxRecDepth 100000
set_option linter.unusedVariables false
namespace Go.Proofs.C28
open Go Go.Proofs.R
noncomputable def ancepslaw28_DifferenceSimulation.f (p0 : Int) (p1 : Int) (p2 : (List (List Int))) (p3 : (List Bool)) (p4 : Int) (p5 : Int) (p6 : (List (List Int))) (p7 : (List Bool)) : Option (Bool × Unit) := (Go.Proofs.R.Einf Go.Proofs.C28.ctx).call 10 [(.agg [(.v (.int .i64) p0), (.v (.int .i64) p1), (.v (.sl (.sl (.int .i64))) p2), (.v (.sl .bool) p3)]), (.agg [(.v (.int .i64) p4), (.v (.int .i64) p5), (.v (.sl (.sl (.int .i64))) p6), (.v (.sl .bool) p7)])]
noncomputable def ancepslaw28_awake.f : Option (Bool × Unit) := (Go.Proofs.R.Einf Go.Proofs.C28.ctx).call 11 []
noncomputable def ancepsref28_Few.f (p0 : Int) (p1 : Int) (p2 : (List (List Int))) (p3 : (List Bool)) (p4 : Int) (p5 : Int) (p6 : (List (List Int))) (p7 : (List Bool)) : Option (Bool × Unit) := (Go.Proofs.R.Einf Go.Proofs.C28.ctx).call 12 [(.agg [(.v (.int .i64) p0), (.v (.int .i64) p1), (.v (.sl (.sl (.int .i64))) p2), (.v (.sl .bool) p3)]), (.agg [(.v (.int .i64) p4), (.v (.int .i64) p5), (.v (.sl (.sl (.int .i64))) p6), (.v (.sl .bool) p7)])]
noncomputable def difference_Within.f (p0 : Int) (p1 : Int) (p2 : (List (List Int))) (p3 : (List Bool)) (p4 : Int) (p5 : Int) (p6 : (List (List Int))) (p7 : (List Bool)) : Option (Bool × (Int × Unit)) := (Go.Proofs.R.Einf Go.Proofs.C28.ctx).call 17 [(.agg [(.v (.int .i64) p0), (.v (.int .i64) p1), (.v (.sl (.sl (.int .i64))) p2), (.v (.sl .bool) p3)]), (.agg [(.v (.int .i64) p4), (.v (.int .i64) p5), (.v (.sl (.sl (.int .i64))) p6), (.v (.sl .bool) p7)])]
noncomputable def difference_Tells.f (p0 : Int) (p1 : Int) (p2 : (List (List Int))) (p3 : (List Bool)) (p4 : Int) (p5 : Int) (p6 : (List (List Int))) (p7 : (List Bool)) : Option ((List Int) × (Int × (Int × Unit))) := (Go.Proofs.R.Einf Go.Proofs.C28.ctx).call 23 [(.agg [(.v (.int .i64) p0), (.v (.int .i64) p1), (.v (.sl (.sl (.int .i64))) p2), (.v (.sl .bool) p3)]), (.agg [(.v (.int .i64) p4), (.v (.int .i64) p5), (.v (.sl (.sl (.int .i64))) p6), (.v (.sl .bool) p7)])]
noncomputable def slices_Equal_int_int.f (p0 : (List Int)) (p1 : (List Int)) : Option (Bool × Unit) := (Go.Proofs.R.Einf Go.Proofs.C28.ctx).call 25 [(.one (.v (.sl (.int .i64)) p0)), (.one (.v (.sl (.int .i64)) p1))]
noncomputable def difference_Compare.f (p0 : Int) (p1 : Int) (p2 : (List (List Int))) (p3 : (List Bool)) (p4 : Int) (p5 : Int) (p6 : (List (List Int))) (p7 : (List Bool)) (p8 : Int) : Option (Bool × (Bool × (Bool × ((List Int) × ((List Int) × ((List Int) × ((List Int) × (Int × Unit)))))))) := (Go.Proofs.R.Einf Go.Proofs.C28.ctx).call 13 [(.agg [(.v (.int .i64) p0), (.v (.int .i64) p1), (.v (.sl (.sl (.int .i64))) p2), (.v (.sl .bool) p3)]), (.agg [(.v (.int .i64) p4), (.v (.int .i64) p5), (.v (.sl (.sl (.int .i64))) p6), (.v (.sl .bool) p7)]), (.one (.v (.int .i64) p8))]
noncomputable def ancepsref28_Compare.f (p0 : Int) (p1 : Int) (p2 : (List (List Int))) (p3 : (List Bool)) (p4 : Int) (p5 : Int) (p6 : (List (List Int))) (p7 : (List Bool)) (p8 : Int) : Option (Bool × (Bool × (Bool × ((List Int) × ((List Int) × ((List Int) × ((List Int) × (Int × Unit)))))))) := (Go.Proofs.R.Einf Go.Proofs.C28.ctx).call 14 [(.agg [(.v (.int .i64) p0), (.v (.int .i64) p1), (.v (.sl (.sl (.int .i64))) p2), (.v (.sl .bool) p3)]), (.agg [(.v (.int .i64) p4), (.v (.int .i64) p5), (.v (.sl (.sl (.int .i64))) p6), (.v (.sl .bool) p7)]), (.one (.v (.int .i64) p8))]
noncomputable def difference_CheckWithin.f (p0 : Int) (p1 : Int) (p2 : (List (List Int))) (p3 : (List Bool)) (p4 : Int) (p5 : Int) (p6 : (List (List Int))) (p7 : (List Bool)) (p8 : (List (Int × Int))) : Option (Bool × Unit) := (Go.Proofs.R.Einf Go.Proofs.C28.ctx).call 27 [(.agg [(.v (.int .i64) p0), (.v (.int .i64) p1), (.v (.sl (.sl (.int .i64))) p2), (.v (.sl .bool) p3)]), (.agg [(.v (.int .i64) p4), (.v (.int .i64) p5), (.v (.sl (.sl (.int .i64))) p6), (.v (.sl .bool) p7)]), (.one (.v (.sl (.pair (.int .i64) (.int .i64))) p8))]
noncomputable def ancepsref28_CheckWithin.f (p0 : Int) (p1 : Int) (p2 : (List (List Int))) (p3 : (List Bool)) (p4 : Int) (p5 : Int) (p6 : (List (List Int))) (p7 : (List Bool)) (p8 : (List (Int × Int))) : Option (Bool × Unit) := (Go.Proofs.R.Einf Go.Proofs.C28.ctx).call 29 [(.agg [(.v (.int .i64) p0), (.v (.int .i64) p1), (.v (.sl (.sl (.int .i64))) p2), (.v (.sl .bool) p3)]), (.agg [(.v (.int .i64) p4), (.v (.int .i64) p5), (.v (.sl (.sl (.int .i64))) p6), (.v (.sl .bool) p7)]), (.one (.v (.sl (.pair (.int .i64) (.int .i64))) p8))]
noncomputable def difference_Simulation.f (p0 : Int) (p1 : Int) (p2 : (List (List Int))) (p3 : (List Bool)) (p4 : Int) (p5 : Int) (p6 : (List (List Int))) (p7 : (List Bool)) : Option ((List (Int × Int)) × (Int × Unit)) := (Go.Proofs.R.Einf Go.Proofs.C28.ctx).call 34 [(.agg [(.v (.int .i64) p0), (.v (.int .i64) p1), (.v (.sl (.sl (.int .i64))) p2), (.v (.sl .bool) p3)]), (.agg [(.v (.int .i64) p4), (.v (.int .i64) p5), (.v (.sl (.sl (.int .i64))) p6), (.v (.sl .bool) p7)])]
noncomputable def ancepsref28_Simulation.f (p0 : Int) (p1 : Int) (p2 : (List (List Int))) (p3 : (List Bool)) (p4 : Int) (p5 : Int) (p6 : (List (List Int))) (p7 : (List Bool)) : Option ((List (Int × Int)) × (Int × Unit)) := (Go.Proofs.R.Einf Go.Proofs.C28.ctx).call 35 [(.agg [(.v (.int .i64) p0), (.v (.int .i64) p1), (.v (.sl (.sl (.int .i64))) p2), (.v (.sl .bool) p3)]), (.agg [(.v (.int .i64) p4), (.v (.int .i64) p5), (.v (.sl (.sl (.int .i64))) p6), (.v (.sl .bool) p7)])]
noncomputable def api_Pair_36.f (p0 : (List (Int × Int))) (p1 : (List (Int × Int))) : Option (Bool × Unit) := (Go.Proofs.R.Einf Go.Proofs.C28.ctx).call 36 [(.one (.v (.sl (.pair (.int .i64) (.int .i64))) p0)), (.one (.v (.sl (.pair (.int .i64) (.int .i64))) p1))]
noncomputable def ancepslaw28_of.f (p0 : (List Bool)) (p1 : (List (List Int))) : Option (Int × (Int × ((List (List Int)) × ((List Bool) × Unit)))) := (Go.Proofs.R.Einf Go.Proofs.C28.ctx).call 37 [(.one (.v (.sl .bool) p0)), (.one (.v (.sl (.sl (.int .i64))) p1))]
noncomputable def ancepsref28_Few.l3 (p0 : Int) (p1 : Int) (p2 : Int) (p3 : Int) (p4 : (List (List Int))) (p5 : (List Bool)) (p6 : Int) (p7 : Int) (p8 : (List (List Int))) (p9 : (List Bool)) : Option (Bool × Unit) := Go.Proofs.R.loopAt Go.Proofs.C28.ctx (Go.Proofs.R.Einf Go.Proofs.C28.ctx) 12 3 (.mk [(2, (.one (.ref 7 0))), (3, (.one (.ref 15 0))), (5, (.one (.v (.int .i64) p0))), (6, (.one (.v (.int .i64) p1)))] [(7, (.box 25 [(.v (.int .i64) p2), (.v (.int .i64) p3), (.v (.sl (.sl (.int .i64))) p4), (.v (.sl .bool) p5)])), (15, (.box 25 [(.v (.int .i64) p6), (.v (.int .i64) p7), (.v (.sl (.sl (.int .i64))) p8), (.v (.sl .bool) p9)]))])
noncomputable def difference_valid.f (p0 : Int) (p1 : Int) (p2 : (List (List Int))) (p3 : (List Bool)) (p4 : Int) (p5 : Int) (p6 : (List (List Int))) (p7 : (List Bool)) : Option (Int × Unit) := (Go.Proofs.R.Einf Go.Proofs.C28.ctx).call 38 [(.agg [(.v (.int .i64) p0), (.v (.int .i64) p1), (.v (.sl (.sl (.int .i64))) p2), (.v (.sl .bool) p3)]), (.agg [(.v (.int .i64) p4), (.v (.int .i64) p5), (.v (.sl (.sl (.int .i64))) p6), (.v (.sl .bool) p7)])]
noncomputable def difference_apart.f (p0 : Int) (p1 : Int) (p2 : (List (List Int))) (p3 : (List Bool)) (p4 : Int) (p5 : Int) (p6 : (List (List Int))) (p7 : (List Bool)) : Option ((List Int) × (Int × Unit)) := (Go.Proofs.R.Einf Go.Proofs.C28.ctx).call 39 [(.agg [(.v (.int .i64) p0), (.v (.int .i64) p1), (.v (.sl (.sl (.int .i64))) p2), (.v (.sl .bool) p3)]), (.agg [(.v (.int .i64) p4), (.v (.int .i64) p5), (.v (.sl (.sl (.int .i64))) p6), (.v (.sl .bool) p7)])]
noncomputable def ancepsref28_valid.f (p0 : Int) (p1 : Int) (p2 : (List (List Int))) (p3 : (List Bool)) (p4 : Int) (p5 : Int) (p6 : (List (List Int))) (p7 : (List Bool)) : Option (Int × Unit) := (Go.Proofs.R.Einf Go.Proofs.C28.ctx).call 44 [(.agg [(.v (.int .i64) p0), (.v (.int .i64) p1), (.v (.sl (.sl (.int .i64))) p2), (.v (.sl .bool) p3)]), (.agg [(.v (.int .i64) p4), (.v (.int .i64) p5), (.v (.sl (.sl (.int .i64))) p6), (.v (.sl .bool) p7)])]
noncomputable def ancepsref28_tells.f (p0 : Int) (p1 : Int) (p2 : (List (List Int))) (p3 : (List Bool)) (p4 : Int) (p5 : Int) (p6 : (List (List Int))) (p7 : (List Bool)) : Option ((List Int) × (Int × Unit)) := (Go.Proofs.R.Einf Go.Proofs.C28.ctx).call 45 [(.agg [(.v (.int .i64) p0), (.v (.int .i64) p1), (.v (.sl (.sl (.int .i64))) p2), (.v (.sl .bool) p3)]), (.agg [(.v (.int .i64) p4), (.v (.int .i64) p5), (.v (.sl (.sl (.int .i64))) p6), (.v (.sl .bool) p7)])]
noncomputable def difference_within.f (p0 : Int) (p1 : Int) (p2 : (List (List Int))) (p3 : (List Bool)) (p4 : Int) (p5 : Int) (p6 : (List (List Int))) (p7 : (List Bool)) : Option (Bool × Unit) := (Go.Proofs.R.Einf Go.Proofs.C28.ctx).call 40 [(.agg [(.v (.int .i64) p0), (.v (.int .i64) p1), (.v (.sl (.sl (.int .i64))) p2), (.v (.sl .bool) p3)]), (.agg [(.v (.int .i64) p4), (.v (.int .i64) p5), (.v (.sl (.sl (.int .i64))) p6), (.v (.sl .bool) p7)])]
noncomputable def ancepsref28_within.f (p0 : Int) (p1 : Int) (p2 : (List (List Int))) (p3 : (List Bool)) (p4 : Int) (p5 : Int) (p6 : (List (List Int))) (p7 : (List Bool)) : Option (Bool × Unit) := (Go.Proofs.R.Einf Go.Proofs.C28.ctx).call 46 [(.agg [(.v (.int .i64) p0), (.v (.int .i64) p1), (.v (.sl (.sl (.int .i64))) p2), (.v (.sl .bool) p3)]), (.agg [(.v (.int .i64) p4), (.v (.int .i64) p5), (.v (.sl (.sl (.int .i64))) p6), (.v (.sl .bool) p7)])]
noncomputable def difference_side.f (p0 : Int) (p1 : Int) (p2 : (List (List Int))) (p3 : (List Bool)) (p4 : Int) (p5 : Int) (p6 : (List (List Int))) (p7 : (List Bool)) : Option ((List ((Int × Int) × (Int × Int))) × Unit) := (Go.Proofs.R.Einf Go.Proofs.C28.ctx).call 54 [(.agg [(.v (.int .i64) p0), (.v (.int .i64) p1), (.v (.sl (.sl (.int .i64))) p2), (.v (.sl .bool) p3)]), (.agg [(.v (.int .i64) p4), (.v (.int .i64) p5), (.v (.sl (.sl (.int .i64))) p6), (.v (.sl .bool) p7)]), (.one (.clo 55 []))]
noncomputable def ancepsref28_reach.f (p0 : Int) (p1 : Int) (p2 : (List (List Int))) (p3 : (List Bool)) (p4 : Int) (p5 : Int) (p6 : (List (List Int))) (p7 : (List Bool)) : Option ((List (Int × Int)) × ((List (List Int)) × Unit)) := (Go.Proofs.R.Einf Go.Proofs.C28.ctx).call 47 [(.agg [(.v (.int .i64) p0), (.v (.int .i64) p1), (.v (.sl (.sl (.int .i64))) p2), (.v (.sl .bool) p3)]), (.agg [(.v (.int .i64) p4), (.v (.int .i64) p5), (.v (.sl (.sl (.int .i64))) p6), (.v (.sl .bool) p7)])]
noncomputable def slices_Equal_int_int.l4 (p0 : (List Int)) (p1 : (List Int)) (p2 : Int) (p3 : Int) : Option (Bool × Unit) := Go.Proofs.R.loopAt Go.Proofs.C28.ctx (Go.Proofs.R.Einf Go.Proofs.C28.ctx) 25 4 (.mk [(0, (.one (.v (.sl (.int .i64)) p0))), (1, (.one (.v (.sl (.int .i64)) p1))), (12, (.one (.v (.int .i64) p2))), (13, (.one (.v (.int .i64) p3)))] [])
noncomputable def automaton_Valid.f (p0 : Int) (p1 : Int) (p2 : (List (List Int))) (p3 : (List Bool)) : Option (Int × Unit) := (Go.Proofs.R.Einf Go.Proofs.C28.ctx).call 57 [(.agg [(.v (.int .i64) p0), (.v (.int .i64) p1), (.v (.sl (.sl (.int .i64))) p2), (.v (.sl .bool) p3)])]
noncomputable def difference_either.f (p0 : Int) (p1 : Int) : Option (Bool × Unit) := (Go.Proofs.R.Einf Go.Proofs.C28.ctx).call 41 [(.agg [(.v (.int .i64) p0), (.v (.int .i64) p1)])]
noncomputable def difference_Compare.l13 (p0 : Int) (p1 : Int) (p2 : Int) (p3 : Int) (p4 : (List (List Int))) (p5 : (List Bool)) (p6 : Int) (p7 : Int) (p8 : (List (List Int))) (p9 : (List Bool)) (p10 : Bool) (p11 : Bool) (p12 : Bool) (p13 : Bool) (p14 : Bool) (p15 : Bool) (p16 : (List ((Int × Int) × Int))) (p17 : (List Int)) (p18 : (List Int)) (p19 : (List Int)) (p20 : (List Int)) (p21 : (List Int)) (p22 : (List Int)) (p23 : (List Int)) (p24 : (List Int)) : Option (Bool × (Bool × (Bool × ((List Int) × ((List Int) × ((List Int) × ((List Int) × (Int × Unit)))))))) := Go.Proofs.R.loopAt Go.Proofs.C28.ctx (Go.Proofs.R.Einf Go.Proofs.C28.ctx) 13 13 (.mk [(3, (.one (.ref 7 0))), (4, (.one (.ref 15 0))), (6, (.one (.ref 23 0))), (11, (.one (.ref 31 0))), (12, (.one (.mp 39))), (65, (.one (.v (.int .i64) p0))), (66, (.one (.v (.int .i64) p1)))] [(7, (.box 25 [(.v (.int .i64) p2), (.v (.int .i64) p3), (.v (.sl (.sl (.int .i64))) p4), (.v (.sl .bool) p5)])), (15, (.box 25 [(.v (.int .i64) p6), (.v (.int .i64) p7), (.v (.sl (.sl (.int .i64))) p8), (.v (.sl .bool) p9)])), (23, (.box 31 [(.v .bool p10), (.v .bool p11), (.v .bool p12), (.row 47), (.row 55), (.row 63), (.row 71)])), (31, (.box 31 [(.v .bool p13), (.v .bool p14), (.v .bool p15), (.row 79), (.row 87), (.row 95), (.row 103)])), (39, (.mp 53 2 (.pair (.int .i64) (.int .i64)) (.int .i64) p16)), (47, (.row 3 (.int .i64) p17 false)), (55, (.row 2 (.int .i64) p18 false)), (63, (.row 2 (.int .i64) p19 false)), (71, (.row 2 (.int .i64) p20 false)), (79, (.row 3 (.int .i64) p21 false)), (87, (.row 2 (.int .i64) p22 false)), (95, (.row 2 (.int .i64) p23 false)), (103, (.row 2 (.int .i64) p24 false))])
noncomputable def ancepsref28_Compare.l13 (p0 : Int) (p1 : (List (Int × Int))) (p2 : Int) (p3 : Int) (p4 : Int) (p5 : (List (List Int))) (p6 : (List Bool)) (p7 : Int) (p8 : Int) (p9 : (List (List Int))) (p10 : (List Bool)) (p11 : Bool) (p12 : Bool) (p13 : Bool) (p14 : Bool) (p15 : Bool) (p16 : Bool) (p17 : (List Int)) (p18 : (List Int)) (p19 : (List Int)) (p20 : (List Int)) (p21 : (List Int)) (p22 : (List Int)) (p23 : (List Int)) (p24 : (List Int)) (p25 : (List Int)) : Option (Bool × (Bool × (Bool × ((List Int) × ((List Int) × ((List Int) × ((List Int) × (Int × Unit)))))))) := Go.Proofs.R.loopAt Go.Proofs.C28.ctx (Go.Proofs.R.Einf Go.Proofs.C28.ctx) 14 13 (.mk [(2, (.one (.v (.int .i64) p0))), (3, (.one (.ref 7 0))), (4, (.one (.ref 15 0))), (6, (.one (.ref 23 0))), (11, (.one (.ref 31 0))), (12, (.one (.v (.sl (.pair (.int .i64) (.int .i64))) p1))), (13, (.one (.row 39))), (14, (.one (.v (.int .i64) p2)))] [(7, (.box 25 [(.v (.int .i64) p3), (.v (.int .i64) p4), (.v (.sl (.sl (.int .i64))) p5), (.v (.sl .bool) p6)])), (15, (.box 25 [(.v (.int .i64) p7), (.v (.int .i64) p8), (.v (.sl (.sl (.int .i64))) p9), (.v (.sl .bool) p10)])), (23, (.box 31 [(.v .bool p11), (.v .bool p12), (.v .bool p13), (.row 47), (.row 55), (.row 63), (.row 71)])), (31, (.box 31 [(.v .bool p14), (.v .bool p15), (.v .bool p16), (.v (.sl (.int .i64)) p17), (.row 79), (.row 87), (.row 95)])), (39, (.row 2 (.int .i64) p18 false)), (47, (.row 3 (.int .i64) p19 false)), (55, (.row 2 (.int .i64) p20 false)), (63, (.row 2 (.int .i64) p21 false)), (71, (.row 2 (.int .i64) p22 false)), (79, (.row 2 (.int .i64) p23 false)), (87, (.row 2 (.int .i64) p24 false)), (95, (.row 2 (.int .i64) p25 false))])
noncomputable def difference_CheckWithin.l5 (p0 : (List (Int × Int))) (p1 : Int) (p2 : Int) (p3 : Int) (p4 : Int) (p5 : (List (List Int))) (p6 : (List Bool)) (p7 : Int) (p8 : Int) (p9 : (List (List Int))) (p10 : (List Bool)) (p11 : (List (Int × Int))) : Option (Bool × Unit) := Go.Proofs.R.loopAt Go.Proofs.C28.ctx (Go.Proofs.R.Einf Go.Proofs.C28.ctx) 27 5 (.mk [(3, (.one (.ref 7 0))), (4, (.one (.ref 15 0))), (5, (.one (.ref 23 0))), (7, (.one (.clo 60 [(.ref 23 0)]))), (19, (.one (.v (.sl (.pair (.int .i64) (.int .i64))) p0))), (20, (.one (.v (.int .i64) p1))), (21, (.one (.v (.int .i64) p2)))] [(7, (.box 25 [(.v (.int .i64) p3), (.v (.int .i64) p4), (.v (.sl (.sl (.int .i64))) p5), (.v (.sl .bool) p6)])), (15, (.box 25 [(.v (.int .i64) p7), (.v (.int .i64) p8), (.v (.sl (.sl (.int .i64))) p9), (.v (.sl .bool) p10)])), (23, (.box 49 [(.v (.sl (.pair (.int .i64) (.int .i64))) p11)]))])
noncomputable def ancepsref28_index.f (p0 : (List (Int × Int))) (p1 : Int) (p2 : Int) : Option (Int × Unit) := (Go.Proofs.R.Einf Go.Proofs.C28.ctx).call 49 [(.one (.v (.sl (.pair (.int .i64) (.int .i64))) p0)), (.agg [(.v (.int .i64) p1), (.v (.int .i64) p2)])]
noncomputable def ancepsref28_CheckWithin.l4 (p0 : (List (Int × Int))) (p1 : Int) (p2 : Int) (p3 : Int) (p4 : (List (List Int))) (p5 : (List Bool)) (p6 : Int) (p7 : Int) (p8 : (List (List Int))) (p9 : (List Bool)) : Option (Bool × Unit) := Go.Proofs.R.loopAt Go.Proofs.C28.ctx (Go.Proofs.R.Einf Go.Proofs.C28.ctx) 29 4 (.mk [(2, (.one (.v (.sl (.pair (.int .i64) (.int .i64))) p0))), (3, (.one (.ref 7 0))), (4, (.one (.ref 15 0))), (7, (.one (.v (.int .i64) p1)))] [(7, (.box 25 [(.v (.int .i64) p2), (.v (.int .i64) p3), (.v (.sl (.sl (.int .i64))) p4), (.v (.sl .bool) p5)])), (15, (.box 25 [(.v (.int .i64) p6), (.v (.int .i64) p7), (.v (.sl (.sl (.int .i64))) p8), (.v (.sl .bool) p9)]))])
noncomputable def difference_Simulation.l8 (p0 : Int) (p1 : Int) (p2 : (List (Int × Int))) (p3 : (List ((Int × Int) × (Int × Int)))) : Option ((List (Int × Int)) × (Int × Unit)) := Go.Proofs.R.loopAt Go.Proofs.C28.ctx (Go.Proofs.R.Einf Go.Proofs.C28.ctx) 34 8 (.mk [(7, (.one (.row 7))), (22, (.one (.row 15))), (23, (.one (.v (.int .i64) p0))), (24, (.one (.v (.int .i64) p1)))] [(7, (.row 53 (.pair (.int .i64) (.int .i64)) p2 false)), (15, (.row 79 (.pair (.pair (.int .i64) (.int .i64)) (.pair (.int .i64) (.int .i64))) p3 false))])
noncomputable def ancepsref28_Simulation.l9 (p0 : (List (Int × Int))) (p1 : Int) (p2 : (List (Int × Int))) : Option ((List (Int × Int)) × (Int × Unit)) := Go.Proofs.R.loopAt Go.Proofs.C28.ctx (Go.Proofs.R.Einf Go.Proofs.C28.ctx) 35 9 (.mk [(7, (.one (.row 7))), (8, (.one (.v (.sl (.pair (.int .i64) (.int .i64))) p0))), (9, (.one (.v (.int .i64) p1)))] [(7, (.row 53 (.pair (.int .i64) (.int .i64)) p2 false))])
noncomputable def api_Pair_36.l4 (p0 : (List (Int × Int))) (p1 : (List (Int × Int))) (p2 : Int) (p3 : Int) : Option (Bool × Unit) := Go.Proofs.R.loopAt Go.Proofs.C28.ctx (Go.Proofs.R.Einf Go.Proofs.C28.ctx) 36 4 (.mk [(0, (.one (.v (.sl (.pair (.int .i64) (.int .i64))) p0))), (1, (.one (.v (.sl (.pair (.int .i64) (.int .i64))) p1))), (12, (.one (.v (.int .i64) p2))), (13, (.one (.v (.int .i64) p3)))] [])
noncomputable def ancepsref28_Few.l7 (p0 : Int) (p1 : Int) (p2 : Int) (p3 : Int) (p4 : (List (List Int))) (p5 : (List Bool)) (p6 : Int) (p7 : Int) (p8 : (List (List Int))) (p9 : (List Bool)) : Option (Bool × Unit) := Go.Proofs.R.loopAt Go.Proofs.C28.ctx (Go.Proofs.R.Einf Go.Proofs.C28.ctx) 12 7 (.mk [(2, (.one (.ref 7 0))), (3, (.one (.ref 15 0))), (5, (.one (.v (.int .i64) p0))), (7, (.one (.v (.int .i64) p1)))] [(7, (.box 25 [(.v (.int .i64) p2), (.v (.int .i64) p3), (.v (.sl (.sl (.int .i64))) p4), (.v (.sl .bool) p5)])), (15, (.box 25 [(.v (.int .i64) p6), (.v (.int .i64) p7), (.v (.sl (.sl (.int .i64))) p8), (.v (.sl .bool) p9)]))])
noncomputable def difference_side.f1 (p0 : Int) (p1 : Int) (p2 : (List (List Int))) (p3 : (List Bool)) (p4 : Int) (p5 : Int) (p6 : (List (List Int))) (p7 : (List Bool)) : Option ((List ((Int × Int) × (Int × Int))) × Unit) := (Go.Proofs.R.Einf Go.Proofs.C28.ctx).call 54 [(.agg [(.v (.int .i64) p0), (.v (.int .i64) p1), (.v (.sl (.sl (.int .i64))) p2), (.v (.sl .bool) p3)]), (.agg [(.v (.int .i64) p4), (.v (.int .i64) p5), (.v (.sl (.sl (.int .i64))) p6), (.v (.sl .bool) p7)]), (.one (.clo 41 []))]
noncomputable def difference_apart.l3 (p0 : Int) (p1 : Int) (p2 : Int) (p3 : Int) (p4 : (List (List Int))) (p5 : (List Bool)) (p6 : Int) (p7 : Int) (p8 : (List (List Int))) (p9 : (List Bool)) (p10 : (List ((Int × Int) × (Int × Int)))) : Option ((List Int) × (Int × Unit)) := Go.Proofs.R.loopAt Go.Proofs.C28.ctx (Go.Proofs.R.Einf Go.Proofs.C28.ctx) 39 3 (.mk [(2, (.one (.ref 7 0))), (3, (.one (.ref 15 0))), (6, (.one (.row 23))), (15, (.one (.row 23))), (16, (.one (.v (.int .i64) p0))), (17, (.one (.v (.int .i64) p1)))] [(7, (.box 25 [(.v (.int .i64) p2), (.v (.int .i64) p3), (.v (.sl (.sl (.int .i64))) p4), (.v (.sl .bool) p5)])), (15, (.box 25 [(.v (.int .i64) p6), (.v (.int .i64) p7), (.v (.sl (.sl (.int .i64))) p8), (.v (.sl .bool) p9)])), (23, (.row 79 (.pair (.pair (.int .i64) (.int .i64)) (.pair (.int .i64) (.int .i64))) p10 false))])
noncomputable def ancepsref06_Valid.f (p0 : Int) (p1 : Int) (p2 : (List (List Int))) (p3 : (List Bool)) : Option (Int × Unit) := (Go.Proofs.R.Einf Go.Proofs.C28.ctx).call 69 [(.agg [(.v (.int .i64) p0), (.v (.int .i64) p1), (.v (.sl (.sl (.int .i64))) p2), (.v (.sl .bool) p3)])]
noncomputable def ancepsref28_tells.l3 (p0 : Int) (p1 : Int) (p2 : Int) (p3 : (List (List Int))) (p4 : (List Bool)) (p5 : Int) (p6 : Int) (p7 : (List (List Int))) (p8 : (List Bool)) (p9 : (List (Int × Int))) (p10 : (List (List Int))) : Option ((List Int) × (Int × Unit)) := Go.Proofs.R.loopAt Go.Proofs.C28.ctx (Go.Proofs.R.Einf Go.Proofs.C28.ctx) 45 3 (.mk [(2, (.one (.ref 7 0))), (3, (.one (.ref 15 0))), (6, (.one (.ref 23 0))), (7, (.one (.v (.int .i64) p0)))] [(7, (.box 25 [(.v (.int .i64) p1), (.v (.int .i64) p2), (.v (.sl (.sl (.int .i64))) p3), (.v (.sl .bool) p4)])), (15, (.box 25 [(.v (.int .i64) p5), (.v (.int .i64) p6), (.v (.sl (.sl (.int .i64))) p7), (.v (.sl .bool) p8)])), (23, (.box 72 [(.v (.sl (.pair (.int .i64) (.int .i64))) p9), (.v (.sl (.sl (.int .i64))) p10)]))])
noncomputable def difference_visit.f1 (p0 : (List ((Int × Int) × (Int × Int)))) (p1 : Int) (p2 : Int) (p3 : (List (List Int))) (p4 : (List Bool)) (p5 : Int) (p6 : Int) (p7 : (List (List Int))) (p8 : (List Bool)) : Option (Bool × Unit) := (Go.Proofs.R.Einf Go.Proofs.C28.ctx).call 53 [(.one (.v (.sl (.pair (.pair (.int .i64) (.int .i64)) (.pair (.int .i64) (.int .i64)))) p0)), (.one (.clo 68 [(.pref [(.v (.int .i64) p1), (.v (.int .i64) p2), (.v (.sl (.sl (.int .i64))) p3), (.v (.sl .bool) p4)] 0), (.pref [(.v (.int .i64) p5), (.v (.int .i64) p6), (.v (.sl (.sl (.int .i64))) p7), (.v (.sl .bool) p8)] 0)]))]
noncomputable def ancepsref28_within.l3 (p0 : (List (Int × Int))) (p1 : Int) (p2 : Int) (p3 : Int) (p4 : (List (List Int))) (p5 : (List Bool)) (p6 : Int) (p7 : Int) (p8 : (List (List Int))) (p9 : (List Bool)) : Option (Bool × Unit) := Go.Proofs.R.loopAt Go.Proofs.C28.ctx (Go.Proofs.R.Einf Go.Proofs.C28.ctx) 46 3 (.mk [(2, (.one (.ref 7 0))), (3, (.one (.ref 15 0))), (5, (.one (.v (.sl (.pair (.int .i64) (.int .i64))) p0))), (6, (.one (.v (.int .i64) p1)))] [(7, (.box 25 [(.v (.int .i64) p2), (.v (.int .i64) p3), (.v (.sl (.sl (.int .i64))) p4), (.v (.sl .bool) p5)])), (15, (.box 25 [(.v (.int .i64) p6), (.v (.int .i64) p7), (.v (.sl (.sl (.int .i64))) p8), (.v (.sl .bool) p9)]))])
noncomputable def difference_left.f (p0 : Int) (p1 : Int) : Option (Bool × Unit) := (Go.Proofs.R.Einf Go.Proofs.C28.ctx).call 55 [(.agg [(.v (.int .i64) p0), (.v (.int .i64) p1)])]
noncomputable def difference_side.l7 (p0 : Int) (p1 : Int) (p2 : Int) (p3 : (List (List Int))) (p4 : (List Bool)) (p5 : Int) (p6 : Int) (p7 : (List (List Int))) (p8 : (List Bool)) (p9 : (List ((Int × Int) × (Int × Int)))) (p10 : (List ((Int × Int) × Bool))) : Option ((List ((Int × Int) × (Int × Int))) × Unit) := Go.Proofs.R.loopAt Go.Proofs.C28.ctx (Go.Proofs.R.Einf Go.Proofs.C28.ctx) 54 7 (.mk [(2, (.one (.clo 55 []))), (3, (.one (.ref 7 0))), (4, (.one (.ref 15 0))), (8, (.one (.row 23))), (9, (.one (.mp 31))), (10, (.one (.v (.int .i64) p0)))] [(7, (.box 25 [(.v (.int .i64) p1), (.v (.int .i64) p2), (.v (.sl (.sl (.int .i64))) p3), (.v (.sl .bool) p4)])), (15, (.box 25 [(.v (.int .i64) p5), (.v (.int .i64) p6), (.v (.sl (.sl (.int .i64))) p7), (.v (.sl .bool) p8)])), (23, (.row 79 (.pair (.pair (.int .i64) (.int .i64)) (.pair (.int .i64) (.int .i64))) p9 false)), (31, (.mp 53 4 (.pair (.int .i64) (.int .i64)) .bool p10))])
noncomputable def ancepsref28_reach.l6 (p0 : Int) (p1 : Int) (p2 : Int) (p3 : (List (List Int))) (p4 : (List Bool)) (p5 : Int) (p6 : Int) (p7 : (List (List Int))) (p8 : (List Bool)) (p9 : (List (Int × Int))) (p10 : (List (List Int))) (p11 : (List (Int × Int))) (p12 : (List (List Int))) : Option ((List (Int × Int)) × ((List (List Int)) × Unit)) := Go.Proofs.R.loopAt Go.Proofs.C28.ctx (Go.Proofs.R.Einf Go.Proofs.C28.ctx) 47 6 (.mk [(2, (.one (.ref 7 0))), (3, (.one (.ref 15 0))), (4, (.one (.ref 23 0))), (5, (.one (.ref 31 0))), (6, (.one (.v (.int .i64) p0)))] [(7, (.box 25 [(.v (.int .i64) p1), (.v (.int .i64) p2), (.v (.sl (.sl (.int .i64))) p3), (.v (.sl .bool) p4)])), (15, (.box 25 [(.v (.int .i64) p5), (.v (.int .i64) p6), (.v (.sl (.sl (.int .i64))) p7), (.v (.sl .bool) p8)])), (23, (.box 72 [(.row 39), (.row 47)])), (31, (.box 72 [(.row 55), (.row 63)])), (39, (.row 53 (.pair (.int .i64) (.int .i64)) p9 false)), (47, (.row 28 (.sl (.int .i64)) p10 false)), (55, (.row 53 (.pair (.int .i64) (.int .i64)) p11 false)), (63, (.row 28 (.sl (.int .i64)) p12 false))])
noncomputable def ancepsref28_accepts.f (p0 : Int) (p1 : Int) (p2 : (List (List Int))) (p3 : (List Bool)) (p4 : Int) : Option (Bool × Unit) := (Go.Proofs.R.Einf Go.Proofs.C28.ctx).call 48 [(.agg [(.v (.int .i64) p0), (.v (.int .i64) p1), (.v (.sl (.sl (.int .i64))) p2), (.v (.sl .bool) p3)]), (.one (.v (.int .i64) p4))]
noncomputable def automaton_Valid.l7 (p0 : (List (List Int))) (p1 : Int) (p2 : Int) (p3 : Int) (p4 : Int) (p5 : (List (List Int))) (p6 : (List Bool)) (p7 : Int) : Option (Int × Unit) := Go.Proofs.R.loopAt Go.Proofs.C28.ctx (Go.Proofs.R.Einf Go.Proofs.C28.ctx) 57 7 (.mk [(1, (.one (.ref 7 0))), (3, (.one (.ref 15 0))), (47, (.one (.v (.sl (.sl (.int .i64))) p0))), (48, (.one (.v (.int .i64) p1))), (49, (.one (.v (.int .i64) p2)))] [(7, (.box 25 [(.v (.int .i64) p3), (.v (.int .i64) p4), (.v (.sl (.sl (.int .i64))) p5), (.v (.sl .bool) p6)])), (15, (.box 3 [(.v (.int .i64) p7)]))])
noncomputable def difference_Compare.l17 (p0 : Int) (p1 : Int) (p2 : Int) (p3 : Int) (p4 : Int) (p5 : Int) (p6 : Int) (p7 : (List (List Int))) (p8 : (List Bool)) (p9 : Int) (p10 : Int) (p11 : (List (List Int))) (p12 : (List Bool)) (p13 : Bool) (p14 : Bool) (p15 : Bool) (p16 : Bool) (p17 : Bool) (p18 : Bool) (p19 : (List ((Int × Int) × Int))) (p20 : Nat) (p21 : (List Nat)) (p22 : (List Int)) (p23 : (List Int)) (p24 : (List Int)) (p25 : (List Int)) (p26 : (List Int)) (p27 : (List Int)) (p28 : (List Int)) (p29 : (List Int)) (p30 : (List ((Int × Int) × Int))) : Option (Bool × (Bool × (Bool × ((List Int) × ((List Int) × ((List Int) × ((List Int) × (Int × Unit)))))))) := Go.Proofs.R.loopAt Go.Proofs.C28.ctx (Go.Proofs.R.Einf Go.Proofs.C28.ctx) 13 17 (.mk [(3, (.one (.ref 7 0))), (4, (.one (.ref 15 0))), (6, (.one (.ref 23 0))), (11, (.one (.ref 31 0))), (14, (.one (.v (.int .i64) p0))), (15, (.one (.v (.int .i64) p1))), (16, (.one (.v (.int .i64) p2))), (17, (.one (.mp 39))), (65, (.one (.v (.int .i64) p3))), (66, (.one (.v (.int .i64) p4))), (70, (.one (.ref 47 0)))] [(7, (.box 25 [(.v (.int .i64) p5), (.v (.int .i64) p6), (.v (.sl (.sl (.int .i64))) p7), (.v (.sl .bool) p8)])), (15, (.box 25 [(.v (.int .i64) p9), (.v (.int .i64) p10), (.v (.sl (.sl (.int .i64))) p11), (.v (.sl .bool) p12)])), (23, (.box 31 [(.v .bool p13), (.v .bool p14), (.v .bool p15), (.row 55), (.row 63), (.row 71), (.row 79)])), (31, (.box 31 [(.v .bool p16), (.v .bool p17), (.v .bool p18), (.row 87), (.row 95), (.row 103), (.row 111)])), (39, (.mp 53 2 (.pair (.int .i64) (.int .i64)) (.int .i64) p19)), (47, (.miter (.mp 119) p20 p21)), (55, (.row 3 (.int .i64) p22 false)), (63, (.row 2 (.int .i64) p23 false)), (71, (.row 2 (.int .i64) p24 false)), (79, (.row 2 (.int .i64) p25 false)), (87, (.row 3 (.int .i64) p26 false)), (95, (.row 2 (.int .i64) p27 false)), (103, (.row 2 (.int .i64) p28 false)), (111, (.row 2 (.int .i64) p29 false)), (119, (.mp 53 2 (.pair (.int .i64) (.int .i64)) (.int .i64) p30))])
noncomputable def ancepsref28_Compare.l18 (p0 : Int) (p1 : (List (Int × Int))) (p2 : Int) (p3 : Int) (p4 : Int) (p5 : Int) (p6 : Int) (p7 : Int) (p8 : Int) (p9 : (List (List Int))) (p10 : (List Bool)) (p11 : Int) (p12 : Int) (p13 : (List (List Int))) (p14 : (List Bool)) (p15 : Bool) (p16 : Bool) (p17 : Bool) (p18 : Bool) (p19 : Bool) (p20 : Bool) (p21 : (List Int)) (p22 : (List Int)) (p23 : (List Int)) (p24 : (List Int)) (p25 : (List Int)) (p26 : (List Int)) (p27 : (List Int)) (p28 : (List Int)) (p29 : (List Int)) (p30 : (List Int)) : Option (Bool × (Bool × (Bool × ((List Int) × ((List Int) × ((List Int) × ((List Int) × (Int × Unit)))))))) := Go.Proofs.R.loopAt Go.Proofs.C28.ctx (Go.Proofs.R.Einf Go.Proofs.C28.ctx) 14 18 (.mk [(2, (.one (.v (.int .i64) p0))), (3, (.one (.ref 7 0))), (4, (.one (.ref 15 0))), (6, (.one (.ref 23 0))), (11, (.one (.ref 31 0))), (12, (.one (.v (.sl (.pair (.int .i64) (.int .i64))) p1))), (13, (.one (.row 39))), (14, (.one (.v (.int .i64) p2))), (15, (.one (.v (.int .i64) p3))), (16, (.one (.v (.int .i64) p4))), (17, (.one (.v (.int .i64) p5))), (18, (.one (.row 47))), (19, (.one (.v (.int .i64) p6)))] [(7, (.box 25 [(.v (.int .i64) p7), (.v (.int .i64) p8), (.v (.sl (.sl (.int .i64))) p9), (.v (.sl .bool) p10)])), (15, (.box 25 [(.v (.int .i64) p11), (.v (.int .i64) p12), (.v (.sl (.sl (.int .i64))) p13), (.v (.sl .bool) p14)])), (23, (.box 31 [(.v .bool p15), (.v .bool p16), (.v .bool p17), (.row 55), (.row 63), (.row 71), (.row 79)])), (31, (.box 31 [(.v .bool p18), (.v .bool p19), (.v .bool p20), (.v (.sl (.int .i64)) p21), (.row 87), (.row 95), (.row 103)])), (39, (.row 2 (.int .i64) p22 false)), (47, (.row 2 (.int .i64) p23 false)), (55, (.row 3 (.int .i64) p24 false)), (63, (.row 2 (.int .i64) p25 false)), (71, (.row 2 (.int .i64) p26 false)), (79, (.row 2 (.int .i64) p27 false)), (87, (.row 2 (.int .i64) p28 false)), (95, (.row 2 (.int .i64) p29 false)), (103, (.row 2 (.int .i64) p30 false))])
noncomputable def difference_order.f (p0 : Int) (p1 : Int) (p2 : Int) (p3 : Int) : Option (Int × Unit) := (Go.Proofs.R.Einf Go.Proofs.C28.ctx).call 62 [(.agg [(.v (.int .i64) p0), (.v (.int .i64) p1)]), (.agg [(.v (.int .i64) p2), (.v (.int .i64) p3)])]
noncomputable def difference_CheckWithin.l11 (p0 : (List (Int × Int))) (p1 : Int) (p2 : Int) (p3 : Int) (p4 : Int) (p5 : (List (List Int))) (p6 : (List Bool)) (p7 : Int) (p8 : Int) (p9 : (List (List Int))) (p10 : (List Bool)) (p11 : (List (Int × Int))) : Option (Bool × Unit) := Go.Proofs.R.loopAt Go.Proofs.C28.ctx (Go.Proofs.R.Einf Go.Proofs.C28.ctx) 27 11 (.mk [(3, (.one (.ref 7 0))), (4, (.one (.ref 15 0))), (7, (.one (.clo 60 [(.ref 23 0)]))), (65, (.one (.v (.sl (.pair (.int .i64) (.int .i64))) p0))), (66, (.one (.v (.int .i64) p1))), (67, (.one (.v (.int .i64) p2)))] [(7, (.box 25 [(.v (.int .i64) p3), (.v (.int .i64) p4), (.v (.sl (.sl (.int .i64))) p5), (.v (.sl .bool) p6)])), (15, (.box 25 [(.v (.int .i64) p7), (.v (.int .i64) p8), (.v (.sl (.sl (.int .i64))) p9), (.v (.sl .bool) p10)])), (23, (.box 49 [(.v (.sl (.pair (.int .i64) (.int .i64))) p11)]))])
noncomputable def ancepsref28_index.l2 (p0 : (List (Int × Int))) (p1 : Int) (p2 : Int) (p3 : Int) : Option (Int × Unit) := Go.Proofs.R.loopAt Go.Proofs.C28.ctx (Go.Proofs.R.Einf Go.Proofs.C28.ctx) 49 2 (.mk [(0, (.one (.v (.sl (.pair (.int .i64) (.int .i64))) p0))), (3, (.one (.ref 7 0))), (5, (.one (.v (.int .i64) p1)))] [(7, (.box 53 [(.v (.int .i64) p2), (.v (.int .i64) p3)]))])
noncomputable def ancepsref28_less.f (p0 : Int) (p1 : Int) (p2 : Int) (p3 : Int) : Option (Bool × Unit) := (Go.Proofs.R.Einf Go.Proofs.C28.ctx).call 63 [(.agg [(.v (.int .i64) p0), (.v (.int .i64) p1)]), (.agg [(.v (.int .i64) p2), (.v (.int .i64) p3)])]
noncomputable def ancepsref28_CheckWithin.l10 (p0 : (List (Int × Int))) (p1 : Int) (p2 : Int) (p3 : Int) (p4 : Int) (p5 : (List (List Int))) (p6 : (List Bool)) (p7 : Int) (p8 : Int) (p9 : (List (List Int))) (p10 : (List Bool)) (p11 : Int) (p12 : Int) : Option (Bool × Unit) := Go.Proofs.R.loopAt Go.Proofs.C28.ctx (Go.Proofs.R.Einf Go.Proofs.C28.ctx) 29 10 (.mk [(2, (.one (.v (.sl (.pair (.int .i64) (.int .i64))) p0))), (3, (.one (.ref 7 0))), (4, (.one (.ref 15 0))), (7, (.one (.v (.int .i64) p1))), (8, (.one (.ref 23 0))), (9, (.one (.v (.int .i64) p2)))] [(7, (.box 25 [(.v (.int .i64) p3), (.v (.int .i64) p4), (.v (.sl (.sl (.int .i64))) p5), (.v (.sl .bool) p6)])), (15, (.box 25 [(.v (.int .i64) p7), (.v (.int .i64) p8), (.v (.sl (.sl (.int .i64))) p9), (.v (.sl .bool) p10)])), (23, (.box 53 [(.v (.int .i64) p11), (.v (.int .i64) p12)]))])
noncomputable def ancepsref28_Simulation.l13 (p0 : (List (Int × Int))) (p1 : Int) (p2 : Int) (p3 : (List (Int × Int))) : Option ((List (Int × Int)) × (Int × Unit)) := Go.Proofs.R.loopAt Go.Proofs.C28.ctx (Go.Proofs.R.Einf Go.Proofs.C28.ctx) 35 13 (.mk [(7, (.one (.row 7))), (8, (.one (.v (.sl (.pair (.int .i64) (.int .i64))) p0))), (9, (.one (.v (.int .i64) p1))), (10, (.one (.v (.int .i64) p2)))] [(7, (.row 53 (.pair (.int .i64) (.int .i64)) p3 false))])
noncomputable def difference_side.l7_1 (p0 : Int) (p1 : Int) (p2 : Int) (p3 : (List (List Int))) (p4 : (List Bool)) (p5 : Int) (p6 : Int) (p7 : (List (List Int))) (p8 : (List Bool)) (p9 : (List ((Int × Int) × (Int × Int)))) (p10 : (List ((Int × Int) × Bool))) : Option ((List ((Int × Int) × (Int × Int))) × Unit) := Go.Proofs.R.loopAt Go.Proofs.C28.ctx (Go.Proofs.R.Einf Go.Proofs.C28.ctx) 54 7 (.mk [(2, (.one (.clo 41 []))), (3, (.one (.ref 7 0))), (4, (.one (.ref 15 0))), (8, (.one (.row 23))), (9, (.one (.mp 31))), (10, (.one (.v (.int .i64) p0)))] [(7, (.box 25 [(.v (.int .i64) p1), (.v (.int .i64) p2), (.v (.sl (.sl (.int .i64))) p3), (.v (.sl .bool) p4)])), (15, (.box 25 [(.v (.int .i64) p5), (.v (.int .i64) p6), (.v (.sl (.sl (.int .i64))) p7), (.v (.sl .bool) p8)])), (23, (.row 79 (.pair (.pair (.int .i64) (.int .i64)) (.pair (.int .i64) (.int .i64))) p9 false)), (31, (.mp 53 4 (.pair (.int .i64) (.int .i64)) .bool p10))])
noncomputable def difference_accepts.f (p0 : Int) (p1 : Int) (p2 : (List (List Int))) (p3 : (List Bool)) (p4 : Int) : Option (Bool × Unit) := (Go.Proofs.R.Einf Go.Proofs.C28.ctx).call 42 [(.agg [(.v (.int .i64) p0), (.v (.int .i64) p1), (.v (.sl (.sl (.int .i64))) p2), (.v (.sl .bool) p3)]), (.one (.v (.int .i64) p4))]
noncomputable def difference_apart.l9 (p0 : Bool) (p1 : Int) (p2 : (List ((Int × Int) × (Int × Int)))) (p3 : (List Int)) : Option ((List Int) × (Int × Unit)) := Go.Proofs.R.loopAt Go.Proofs.C28.ctx (Go.Proofs.R.Einf Go.Proofs.C28.ctx) 39 9 (.mk [(6, (.one (.row 7))), (9, (.one (.v .bool p0))), (10, (.one (.row 15))), (11, (.one (.v (.int .i64) p1)))] [(7, (.row 79 (.pair (.pair (.int .i64) (.int .i64)) (.pair (.int .i64) (.int .i64))) p2 false)), (15, (.row 3 (.int .i64) p3 false))])
noncomputable def ancepsref06_Valid.l7 (p0 : Int) (p1 : Int) (p2 : Int) (p3 : Int) (p4 : (List (List Int))) (p5 : (List Bool)) : Option (Int × Unit) := Go.Proofs.R.loopAt Go.Proofs.C28.ctx (Go.Proofs.R.Einf Go.Proofs.C28.ctx) 69 7 (.mk [(1, (.one (.ref 7 0))), (3, (.one (.v (.int .i64) p0))), (4, (.one (.v (.int .i64) p1)))] [(7, (.box 25 [(.v (.int .i64) p2), (.v (.int .i64) p3), (.v (.sl (.sl (.int .i64))) p4), (.v (.sl .bool) p5)]))])
noncomputable def difference_visit_70.f1 (p0 : (List ((Int × Int) × (Int × Int)))) (p1 : Int) (p2 : Int) (p3 : (List (List Int))) (p4 : (List Bool)) (p5 : Int) (p6 : Int) (p7 : (List (List Int))) (p8 : (List Bool)) : Option (Int × Unit) := (Go.Proofs.R.Einf Go.Proofs.C28.ctx).call 70 [(.one (.v (.sl (.pair (.pair (.int .i64) (.int .i64)) (.pair (.int .i64) (.int .i64)))) p0)), (.one (.clo 68 [(.pref [(.v (.int .i64) p1), (.v (.int .i64) p2), (.v (.sl (.sl (.int .i64))) p3), (.v (.sl .bool) p4)] 0), (.pref [(.v (.int .i64) p5), (.v (.int .i64) p6), (.v (.sl (.sl (.int .i64))) p7), (.v (.sl .bool) p8)] 0)]))]
noncomputable def difference_side.l10 (p0 : Int) (p1 : Int) (p2 : Int) (p3 : Int) (p4 : Int) (p5 : (List (List Int))) (p6 : (List Bool)) (p7 : Int) (p8 : Int) (p9 : (List (List Int))) (p10 : (List Bool)) (p11 : (List ((Int × Int) × (Int × Int)))) (p12 : (List ((Int × Int) × Bool))) : Option ((List ((Int × Int) × (Int × Int))) × Unit) := Go.Proofs.R.loopAt Go.Proofs.C28.ctx (Go.Proofs.R.Einf Go.Proofs.C28.ctx) 54 10 (.mk [(2, (.one (.clo 55 []))), (3, (.one (.ref 7 0))), (4, (.one (.ref 15 0))), (8, (.one (.row 23))), (9, (.one (.mp 31))), (10, (.one (.v (.int .i64) p0))), (35, (.one (.v (.int .i64) p1))), (36, (.one (.v (.int .i64) p2)))] [(7, (.box 25 [(.v (.int .i64) p3), (.v (.int .i64) p4), (.v (.sl (.sl (.int .i64))) p5), (.v (.sl .bool) p6)])), (15, (.box 25 [(.v (.int .i64) p7), (.v (.int .i64) p8), (.v (.sl (.sl (.int .i64))) p9), (.v (.sl .bool) p10)])), (23, (.row 79 (.pair (.pair (.int .i64) (.int .i64)) (.pair (.int .i64) (.int .i64))) p11 false)), (31, (.mp 53 4 (.pair (.int .i64) (.int .i64)) .bool p12))])
noncomputable def ancepsref28_reach.l9 (p0 : Int) (p1 : Int) (p2 : Int) (p3 : Int) (p4 : (List (List Int))) (p5 : (List Bool)) (p6 : Int) (p7 : Int) (p8 : (List (List Int))) (p9 : (List Bool)) (p10 : (List (Int × Int))) (p11 : (List (List Int))) (p12 : (List (Int × Int))) (p13 : (List (List Int))) : Option ((List (Int × Int)) × ((List (List Int)) × Unit)) := Go.Proofs.R.loopAt Go.Proofs.C28.ctx (Go.Proofs.R.Einf Go.Proofs.C28.ctx) 47 9 (.mk [(2, (.one (.ref 7 0))), (3, (.one (.ref 15 0))), (4, (.one (.ref 23 0))), (5, (.one (.ref 31 0))), (6, (.one (.v (.int .i64) p0))), (7, (.one (.v (.int .i64) p1)))] [(7, (.box 25 [(.v (.int .i64) p2), (.v (.int .i64) p3), (.v (.sl (.sl (.int .i64))) p4), (.v (.sl .bool) p5)])), (15, (.box 25 [(.v (.int .i64) p6), (.v (.int .i64) p7), (.v (.sl (.sl (.int .i64))) p8), (.v (.sl .bool) p9)])), (23, (.box 72 [(.row 39), (.row 47)])), (31, (.box 72 [(.row 55), (.row 63)])), (39, (.row 53 (.pair (.int .i64) (.int .i64)) p10 false)), (47, (.row 28 (.sl (.int .i64)) p11 false)), (55, (.row 53 (.pair (.int .i64) (.int .i64)) p12 false)), (63, (.row 28 (.sl (.int .i64)) p13 false))])
noncomputable def slices_ContainsFunc_int_int.f (p0 : (List Int)) (p1 : Int) : Option (Bool × Unit) := (Go.Proofs.R.Einf Go.Proofs.C28.ctx).call 71 [(.one (.v (.sl (.int .i64)) p0)), (.one (.clo 72 [(.pref [(.v (.int .i64) p1)] 0)]))]
noncomputable def difference_Compare.l27 (p0 : Int) (p1 : Int) (p2 : Int) (p3 : Int) (p4 : Int) (p5 : Int) (p6 : Int) (p7 : Int) (p8 : Int) (p9 : Int) (p10 : (List (List Int))) (p11 : (List Bool)) (p12 : Int) (p13 : Int) (p14 : (List (List Int))) (p15 : (List Bool)) (p16 : Bool) (p17 : Bool) (p18 : Bool) (p19 : Bool) (p20 : Bool) (p21 : Bool) (p22 : (List ((Int × Int) × Int))) (p23 : Int) (p24 : Int) (p25 : Nat) (p26 : (List Nat)) (p27 : (List Int)) (p28 : (List Int)) (p29 : (List Int)) (p30 : (List Int)) (p31 : (List Int)) (p32 : (List Int)) (p33 : (List Int)) (p34 : (List Int)) (p35 : (List ((Int × Int) × Int))) : Option (Bool × (Bool × (Bool × ((List Int) × ((List Int) × ((List Int) × ((List Int) × (Int × Unit)))))))) := Go.Proofs.R.loopAt Go.Proofs.C28.ctx (Go.Proofs.R.Einf Go.Proofs.C28.ctx) 13 27 (.mk [(3, (.one (.ref 7 0))), (4, (.one (.ref 15 0))), (6, (.one (.ref 23 0))), (11, (.one (.ref 31 0))), (14, (.one (.v (.int .i64) p0))), (15, (.one (.v (.int .i64) p1))), (16, (.one (.v (.int .i64) p2))), (17, (.one (.mp 39))), (18, (.one (.ref 47 0))), (19, (.one (.v (.int .i64) p3))), (65, (.one (.v (.int .i64) p4))), (66, (.one (.v (.int .i64) p5))), (70, (.one (.ref 55 0))), (103, (.one (.v (.int .i64) p6))), (104, (.one (.v (.int .i64) p7)))] [(7, (.box 25 [(.v (.int .i64) p8), (.v (.int .i64) p9), (.v (.sl (.sl (.int .i64))) p10), (.v (.sl .bool) p11)])), (15, (.box 25 [(.v (.int .i64) p12), (.v (.int .i64) p13), (.v (.sl (.sl (.int .i64))) p14), (.v (.sl .bool) p15)])), (23, (.box 31 [(.v .bool p16), (.v .bool p17), (.v .bool p18), (.row 63), (.row 71), (.row 79), (.row 87)])), (31, (.box 31 [(.v .bool p19), (.v .bool p20), (.v .bool p21), (.row 95), (.row 103), (.row 111), (.row 119)])), (39, (.mp 53 2 (.pair (.int .i64) (.int .i64)) (.int .i64) p22)), (47, (.box 53 [(.v (.int .i64) p23), (.v (.int .i64) p24)])), (55, (.miter (.mp 127) p25 p26)), (63, (.row 3 (.int .i64) p27 false)), (71, (.row 2 (.int .i64) p28 false)), (79, (.row 2 (.int .i64) p29 false)), (87, (.row 2 (.int .i64) p30 false)), (95, (.row 3 (.int .i64) p31 false)), (103, (.row 2 (.int .i64) p32 false)), (111, (.row 2 (.int .i64) p33 false)), (119, (.row 2 (.int .i64) p34 false)), (127, (.mp 53 2 (.pair (.int .i64) (.int .i64)) (.int .i64) p35))])
noncomputable def ancepsref28_Compare.l28 (p0 : Int) (p1 : (List (Int × Int))) (p2 : Int) (p3 : Int) (p4 : Int) (p5 : Int) (p6 : Int) (p7 : Int) (p8 : Int) (p9 : Int) (p10 : (List (List Int))) (p11 : (List Bool)) (p12 : Int) (p13 : Int) (p14 : (List (List Int))) (p15 : (List Bool)) (p16 : Bool) (p17 : Bool) (p18 : Bool) (p19 : Bool) (p20 : Bool) (p21 : Bool) (p22 : (List Int)) (p23 : (List Int)) (p24 : (List Int)) (p25 : (List Int)) (p26 : (List Int)) (p27 : (List Int)) (p28 : (List Int)) (p29 : (List Int)) (p30 : (List Int)) (p31 : (List Int)) : Option (Bool × (Bool × (Bool × ((List Int) × ((List Int) × ((List Int) × ((List Int) × (Int × Unit)))))))) := Go.Proofs.R.loopAt Go.Proofs.C28.ctx (Go.Proofs.R.Einf Go.Proofs.C28.ctx) 14 28 (.mk [(2, (.one (.v (.int .i64) p0))), (3, (.one (.ref 7 0))), (4, (.one (.ref 15 0))), (6, (.one (.ref 23 0))), (11, (.one (.ref 31 0))), (12, (.one (.v (.sl (.pair (.int .i64) (.int .i64))) p1))), (13, (.one (.row 39))), (14, (.one (.v (.int .i64) p2))), (15, (.one (.v (.int .i64) p3))), (16, (.one (.v (.int .i64) p4))), (17, (.one (.v (.int .i64) p5))), (18, (.one (.row 47))), (19, (.one (.v (.int .i64) p6))), (22, (.one (.v (.int .i64) p7)))] [(7, (.box 25 [(.v (.int .i64) p8), (.v (.int .i64) p9), (.v (.sl (.sl (.int .i64))) p10), (.v (.sl .bool) p11)])), (15, (.box 25 [(.v (.int .i64) p12), (.v (.int .i64) p13), (.v (.sl (.sl (.int .i64))) p14), (.v (.sl .bool) p15)])), (23, (.box 31 [(.v .bool p16), (.v .bool p17), (.v .bool p18), (.row 55), (.row 63), (.row 71), (.row 79)])), (31, (.box 31 [(.v .bool p19), (.v .bool p20), (.v .bool p21), (.v (.sl (.int .i64)) p22), (.row 87), (.row 95), (.row 103)])), (39, (.row 2 (.int .i64) p23 false)), (47, (.row 2 (.int .i64) p24 false)), (55, (.row 3 (.int .i64) p25 false)), (63, (.row 2 (.int .i64) p26 false)), (71, (.row 2 (.int .i64) p27 false)), (79, (.row 2 (.int .i64) p28 false)), (87, (.row 2 (.int .i64) p29 false)), (95, (.row 2 (.int .i64) p30 false)), (103, (.row 2 (.int .i64) p31 false))])
noncomputable def cmp_Compare_int.f (p0 : Int) (p1 : Int) : Option (Int × Unit) := (Go.Proofs.R.Einf Go.Proofs.C28.ctx).call 75 [(.one (.v (.int .i64) p0)), (.one (.v (.int .i64) p1))]
noncomputable def cmp_Or_int.f (p0 : (List Int)) : Option (Int × Unit) := (Go.Proofs.R.Einf Go.Proofs.C28.ctx).call 74 [(.one (.v (.sl (.int .i64)) p0))]
noncomputable def difference_CheckWithin.l16 (p0 : (List (Int × Int))) (p1 : Int) (p2 : Int) (p3 : Int) (p4 : Int) (p5 : Int) (p6 : Int) (p7 : (List (List Int))) (p8 : (List Bool)) (p9 : Int) (p10 : Int) (p11 : (List (List Int))) (p12 : (List Bool)) (p13 : (List (Int × Int))) (p14 : Int) (p15 : Int) : Option (Bool × Unit) := Go.Proofs.R.loopAt Go.Proofs.C28.ctx (Go.Proofs.R.Einf Go.Proofs.C28.ctx) 27 16 (.mk [(3, (.one (.ref 7 0))), (4, (.one (.ref 15 0))), (7, (.one (.clo 60 [(.ref 23 0)]))), (11, (.one (.ref 31 0))), (65, (.one (.v (.sl (.pair (.int .i64) (.int .i64))) p0))), (66, (.one (.v (.int .i64) p1))), (67, (.one (.v (.int .i64) p2))), (83, (.one (.v (.int .i64) p3))), (84, (.one (.v (.int .i64) p4)))] [(7, (.box 25 [(.v (.int .i64) p5), (.v (.int .i64) p6), (.v (.sl (.sl (.int .i64))) p7), (.v (.sl .bool) p8)])), (15, (.box 25 [(.v (.int .i64) p9), (.v (.int .i64) p10), (.v (.sl (.sl (.int .i64))) p11), (.v (.sl .bool) p12)])), (23, (.box 49 [(.v (.sl (.pair (.int .i64) (.int .i64))) p13)])), (31, (.box 53 [(.v (.int .i64) p14), (.v (.int .i64) p15)]))])
noncomputable def difference_CheckWithin_1.f (p0 : Int) (p1 : Int) (p2 : (List (Int × Int))) : Option (Bool × Unit) := (Go.Proofs.R.Einf Go.Proofs.C28.ctx).call 60 [(.agg [(.v (.int .i64) p0), (.v (.int .i64) p1)]), (.one (.pref [(.v (.sl (.pair (.int .i64) (.int .i64))) p2)] 0))]
noncomputable def ancepsref28_next.f (p0 : Int) (p1 : Int) (p2 : (List (List Int))) (p3 : (List Bool)) (p4 : Int) (p5 : Int) : Option (Int × Unit) := (Go.Proofs.R.Einf Go.Proofs.C28.ctx).call 50 [(.agg [(.v (.int .i64) p0), (.v (.int .i64) p1), (.v (.sl (.sl (.int .i64))) p2), (.v (.sl .bool) p3)]), (.one (.v (.int .i64) p4)), (.one (.v (.int .i64) p5))]
noncomputable def difference_side.l10_1 (p0 : Int) (p1 : Int) (p2 : Int) (p3 : Int) (p4 : Int) (p5 : (List (List Int))) (p6 : (List Bool)) (p7 : Int) (p8 : Int) (p9 : (List (List Int))) (p10 : (List Bool)) (p11 : (List ((Int × Int) × (Int × Int)))) (p12 : (List ((Int × Int) × Bool))) : Option ((List ((Int × Int) × (Int × Int))) × Unit) := Go.Proofs.R.loopAt Go.Proofs.C28.ctx (Go.Proofs.R.Einf Go.Proofs.C28.ctx) 54 10 (.mk [(2, (.one (.clo 41 []))), (3, (.one (.ref 7 0))), (4, (.one (.ref 15 0))), (8, (.one (.row 23))), (9, (.one (.mp 31))), (10, (.one (.v (.int .i64) p0))), (35, (.one (.v (.int .i64) p1))), (36, (.one (.v (.int .i64) p2)))] [(7, (.box 25 [(.v (.int .i64) p3), (.v (.int .i64) p4), (.v (.sl (.sl (.int .i64))) p5), (.v (.sl .bool) p6)])), (15, (.box 25 [(.v (.int .i64) p7), (.v (.int .i64) p8), (.v (.sl (.sl (.int .i64))) p9), (.v (.sl .bool) p10)])), (23, (.row 79 (.pair (.pair (.int .i64) (.int .i64)) (.pair (.int .i64) (.int .i64))) p11 false)), (31, (.mp 53 4 (.pair (.int .i64) (.int .i64)) .bool p12))])
noncomputable def ancepsref06_Valid.l12 (p0 : Int) (p1 : Int) (p2 : Int) (p3 : Int) (p4 : Int) (p5 : (List (List Int))) (p6 : (List Bool)) : Option (Int × Unit) := Go.Proofs.R.loopAt Go.Proofs.C28.ctx (Go.Proofs.R.Einf Go.Proofs.C28.ctx) 69 12 (.mk [(1, (.one (.ref 7 0))), (3, (.one (.v (.int .i64) p0))), (4, (.one (.v (.int .i64) p1))), (5, (.one (.v (.int .i64) p2)))] [(7, (.box 25 [(.v (.int .i64) p3), (.v (.int .i64) p4), (.v (.sl (.sl (.int .i64))) p5), (.v (.sl .bool) p6)]))])
noncomputable def difference_visit_70.l2_1 (p0 : (List ((Int × Int) × (Int × Int)))) (p1 : Int) (p2 : Int) (p3 : (List (List Int))) (p4 : (List Bool)) (p5 : Int) (p6 : Int) (p7 : (List (List Int))) (p8 : (List Bool)) (p9 : Int) (p10 : Int) : Option (Int × Unit) := Go.Proofs.R.loopAt Go.Proofs.C28.ctx (Go.Proofs.R.Einf Go.Proofs.C28.ctx) 70 2 (.mk [(0, (.one (.v (.sl (.pair (.pair (.int .i64) (.int .i64)) (.pair (.int .i64) (.int .i64)))) p0))), (1, (.one (.clo 68 [(.pref [(.v (.int .i64) p1), (.v (.int .i64) p2), (.v (.sl (.sl (.int .i64))) p3), (.v (.sl .bool) p4)] 0), (.pref [(.v (.int .i64) p5), (.v (.int .i64) p6), (.v (.sl (.sl (.int .i64))) p7), (.v (.sl .bool) p8)] 0)]))), (7, (.one (.v (.int .i64) p9))), (8, (.one (.v (.int .i64) p10)))] [])
noncomputable def difference_step.f (p0 : Int) (p1 : Int) (p2 : (List (List Int))) (p3 : (List Bool)) (p4 : Int) (p5 : Int) : Option (Int × Unit) := (Go.Proofs.R.Einf Go.Proofs.C28.ctx).call 43 [(.agg [(.v (.int .i64) p0), (.v (.int .i64) p1), (.v (.sl (.sl (.int .i64))) p2), (.v (.sl .bool) p3)]), (.one (.v (.int .i64) p4)), (.one (.v (.int .i64) p5))]
noncomputable def slices_IndexFunc_int_int.f (p0 : (List Int)) (p1 : Int) : Option (Int × Unit) := (Go.Proofs.R.Einf Go.Proofs.C28.ctx).call 82 [(.one (.v (.sl (.int .i64)) p0)), (.one (.clo 72 [(.pref [(.v (.int .i64) p1)] 0)]))]
noncomputable def cmp_isNaN_int.f (p0 : Int) : Option (Bool × Unit) := (Go.Proofs.R.Einf Go.Proofs.C28.ctx).call 83 [(.one (.v (.int .i64) p0))]
noncomputable def cmp_Or_int.l3 (p0 : Int) (p1 : (List Int)) (p2 : Int) (p3 : Int) : Option (Int × Unit) := Go.Proofs.R.loopAt Go.Proofs.C28.ctx (Go.Proofs.R.Einf Go.Proofs.C28.ctx) 74 3 (.mk [(3, (.one (.v (.int .i64) p0))), (6, (.one (.v (.sl (.int .i64)) p1))), (7, (.one (.v (.int .i64) p2))), (8, (.one (.v (.int .i64) p3)))] [])
noncomputable def api_Pair_61.f (p0 : (List (Int × Int))) (p1 : Int) (p2 : Int) : Option (Int × (Bool × Unit)) := (Go.Proofs.R.Einf Go.Proofs.C28.ctx).call 61 [(.one (.v (.sl (.pair (.int .i64) (.int .i64))) p0)), (.agg [(.v (.int .i64) p1), (.v (.int .i64) p2)]), (.one (.clo 62 []))]
noncomputable def difference_within_1.f (p0 : Int) (p1 : Int) (p2 : Int) (p3 : Int) (p4 : Int) (p5 : Int) (p6 : (List (List Int))) (p7 : (List Bool)) (p8 : Int) (p9 : Int) (p10 : (List (List Int))) (p11 : (List Bool)) : Option (Bool × Unit) := (Go.Proofs.R.Einf Go.Proofs.C28.ctx).call 68 [(.agg [(.v (.int .i64) p0), (.v (.int .i64) p1), (.v (.int .i64) p2), (.v (.int .i64) p3)]), (.one (.pref [(.v (.int .i64) p4), (.v (.int .i64) p5), (.v (.sl (.sl (.int .i64))) p6), (.v (.sl .bool) p7)] 0)), (.one (.pref [(.v (.int .i64) p8), (.v (.int .i64) p9), (.v (.sl (.sl (.int .i64))) p10), (.v (.sl .bool) p11)] 0))]
noncomputable def slices_IndexFunc_int_int.l2 (p0 : (List Int)) (p1 : Int) (p2 : Int) (p3 : Int) : Option (Int × Unit) := Go.Proofs.R.loopAt Go.Proofs.C28.ctx (Go.Proofs.R.Einf Go.Proofs.C28.ctx) 82 2 (.mk [(0, (.one (.v (.sl (.int .i64)) p0))), (1, (.one (.clo 72 [(.pref [(.v (.int .i64) p1)] 0)]))), (7, (.one (.v (.int .i64) p2))), (8, (.one (.v (.int .i64) p3)))] [])
noncomputable def api_Pair_61.l3 (p0 : (List (Int × Int))) (p1 : Int) (p2 : Int) (p3 : Int) (p4 : Int) (p5 : Int) : Option (Int × (Bool × Unit)) := Go.Proofs.R.loopAt Go.Proofs.C28.ctx (Go.Proofs.R.Einf Go.Proofs.C28.ctx) 61 3 (.mk [(0, (.one (.v (.sl (.pair (.int .i64) (.int .i64))) p0))), (2, (.one (.clo 62 []))), (4, (.one (.ref 7 0))), (8, (.one (.v (.int .i64) p1))), (9, (.one (.v (.int .i64) p2))), (10, (.one (.v (.int .i64) p3)))] [(7, (.box 53 [(.v (.int .i64) p4), (.v (.int .i64) p5)]))])
noncomputable def automaton_Valid_1.f (p0 : Int) (p1 : Int) : Option (Bool × Unit) := (Go.Proofs.R.Einf Go.Proofs.C28.ctx).call 72 [(.one (.v (.int .i64) p0)), (.one (.pref [(.v (.int .i64) p1)] 0))]
theorem ancepslaw28_DifferenceSimulation.f_eq (p0 : Int) (p1 : Int) (p2 : (List (List Int))) (p3 : (List Bool)) (p4 : Int) (p5 : Int) (p6 : (List (List Int))) (p7 : (List Bool)) : ancepslaw28_DifferenceSimulation.f p0 p1 p2 p3 p4 p5 p6 p7 =
  bindD (ancepslaw28_awake.f) fun t83 =>
  ifB (!t83.1)
   (bindD (ancepslaw28_awake.f) fun t84 =>
   some (t84.1, ()))
  (bindD (ancepsref28_Few.f p0 p1 p2 p3 p4 p5 p6 p7) fun t85 =>
   ifB (!t85.1)
    (bindD (ancepslaw28_awake.f) fun t86 =>
    some (t86.1, ()))
   (bindD (difference_Simulation.f p0 p1 p2 p3 p4 p5 p6 p7) fun t87 =>
    bindD (ancepsref28_Simulation.f p0 p1 p2 p3 p4 p5 p6 p7) fun t88 =>
    ifB (t87.2.1 == t88.2.1)
     (bindD (api_Pair_36.f t87.1 t88.1) fun t89 =>
     ifB t89.1
      (ifB (t87.2.1 != (0 : Int))
       (some (true, ()))
      (bindD (difference_CheckWithin.f p0 p1 p2 p3 p4 p5 p6 p7 t87.1) fun t90 =>
       some (t90.1, ())))
     (some (false, ())))
    (some (false, ())))) := (Einf_call Go.Proofs.C28.ctx 10 _).trans (by kernel_rfl)
theorem ancepslaw28_awake.f_eq : ancepslaw28_awake.f =
  bindD (ancepslaw28_of.f (false :: (false :: (true :: ([] : (List Bool))))) (((-(1 : Int)) :: ((1 : Int) :: ([] : (List Int)))) :: (((2 : Int) :: ((2 : Int) :: ([] : (List Int)))) :: (((-(1 : Int)) :: ((-(1 : Int)) :: ([] : (List Int)))) :: ([] : (List (List Int))))))) fun t91 =>
  bindD (ancepslaw28_of.f (false :: (false :: (true :: ([] : (List Bool))))) (((-(1 : Int)) :: ((1 : Int) :: ([] : (List Int)))) :: (((-(1 : Int)) :: ((2 : Int) :: ([] : (List Int)))) :: (((-(1 : Int)) :: ((-(1 : Int)) :: ([] : (List Int)))) :: ([] : (List (List Int))))))) fun t92 =>
  bindD (difference_Within.f t92.1 t92.2.1 t92.2.2.1 t92.2.2.2.1 t91.1 t91.2.1 t91.2.2.1 t91.2.2.2.1) fun t93 =>
  bindD (difference_Within.f t91.1 t91.2.1 t91.2.2.1 t91.2.2.2.1 t92.1 t92.2.1 t92.2.2.1 t92.2.2.2.1) fun t94 =>
  bindD (difference_Tells.f t91.1 t91.2.1 t91.2.2.1 t91.2.2.2.1 t92.1 t92.2.1 t92.2.2.1 t92.2.2.2.1) fun t95 =>
  bindD (difference_Compare.f t91.1 t91.2.1 t91.2.2.1 t91.2.2.2.1 t92.1 t92.2.1 t92.2.2.1 t92.2.2.2.1 (2 : Int)) fun t96 =>
  ifB (t93.2.1 != (0 : Int))
   (some (false, ()))
  (ifB (t94.2.1 != (0 : Int))
    (some (false, ()))
   (ifB (t95.2.2.1 != (0 : Int))
     (some (false, ()))
    (ifB (t96.2.2.2.2.2.2.2.1 != (0 : Int))
      (some (false, ()))
     (ifB (!t93.1)
       (some (false, ()))
      (ifB t94.1
        (some (false, ()))
       (bindD (slices_Equal_int_int.f t95.1 ((1 : Int) :: ((0 : Int) :: ([] : (List Int))))) fun t97 =>
        ifB (!t97.1)
         (some (false, ()))
        (ifB (t95.2.1 != (1 : Int))
          (some (false, ()))
         (ifB ((((List.length t96.2.2.2.2.1) : Nat) : Int) == (3 : Int))
           (bindD ((ixAt t96.2.2.2.2.1 (2 : Int))) fun t98 =>
           ifB (t98 == (1 : Int))
            (bindD ((ixAt t96.2.2.2.2.2.1 (2 : Int))) fun t99 =>
            ifB (t99 == (1 : Int))
             (bindD ((ixAt t96.2.2.2.2.2.2.1 (2 : Int))) fun t100 =>
             ifB (t100 == (0 : Int))
              (some (t96.2.2.1, ()))
             (some (false, ())))
            (some (false, ())))
           (some (false, ())))
          (some (false, ())))))))))) := (Einf_call Go.Proofs.C28.ctx 11 _).trans (by kernel_rfl)
theorem ancepsref28_Few.f_eq (p0 : Int) (p1 : Int) (p2 : (List (List Int))) (p3 : (List Bool)) (p4 : Int) (p5 : Int) (p6 : (List (List Int))) (p7 : (List Bool)) : ancepsref28_Few.f p0 p1 p2 p3 p4 p5 p6 p7 =
  ancepsref28_Few.l3 (0 : Int) (0 : Int) p0 p1 p2 p3 p4 p5 p6 p7 := (Einf_call Go.Proofs.C28.ctx 12 _).trans (by kernel_rfl)
theorem slices_Equal_int_int.f_eq (p0 : (List Int)) (p1 : (List Int)) : slices_Equal_int_int.f p0 p1 =
  ifB ((((List.length p0) : Nat) : Int) != (((List.length p1) : Nat) : Int))
   (some (false, ()))
  (slices_Equal_int_int.l4 p0 p1 (((List.length p0) : Nat) : Int) (0 : Int)) := (Einf_call Go.Proofs.C28.ctx 25 _).trans (by kernel_rfl)
theorem difference_Compare.f_eq (p0 : Int) (p1 : Int) (p2 : (List (List Int))) (p3 : (List Bool)) (p4 : Int) (p5 : Int) (p6 : (List (List Int))) (p7 : (List Bool)) (p8 : Int) : difference_Compare.f p0 p1 p2 p3 p4 p5 p6 p7 p8 =
  bindD (difference_valid.f p0 p1 p2 p3 p4 p5 p6 p7) fun t121 =>
  ifB (t121.1 != (0 : Int))
   (some (false, (false, (false, (([] : (List Int)), (([] : (List Int)), (([] : (List Int)), (([] : (List Int)), (t121.1, ())))))))))
  (ifB (decide (p8 < (0 : Int)))
    (some (false, (false, (false, (([] : (List Int)), (([] : (List Int)), (([] : (List Int)), (([] : (List Int)), ((6 : Int), ())))))))))
   (ifB (decide (p8 > (20 : Int)))
     (some (false, (false, (false, (([] : (List Int)), (([] : (List Int)), (([] : (List Int)), (([] : (List Int)), ((6 : Int), ())))))))))
    (bindD (difference_apart.f p0 p1 p2 p3 p4 p5 p6 p7) fun t122 =>
     bindD (difference_within.f p0 p1 p2 p3 p4 p5 p6 p7) fun t123 =>
     bindD (difference_within.f p4 p5 p6 p7 p0 p1 p2 p3) fun t124 =>
     bindD (difference_either.f p1 p5) fun t125 =>
     ifB t125.1
      (difference_Compare.l13 (Go.IntKind.wrap Go.IntKind.i64 (p8 + (1 : Int))) (0 : Int) p0 p1 p2 p3 p4 p5 p6 p7 false false false (t122.2.1 == (0 : Int)) t123.1 t124.1 (Go.Proofs.R.mput (Go.Proofs.R.Ty.pair (Go.Proofs.R.Ty.int Go.IntKind.i64) (Go.Proofs.R.Ty.int Go.IntKind.i64)) (p1, p5) (1 : Int) ([] : (List ((Int × Int) × Int)))) ([] : (List Int)) ([] : (List Int)) ([] : (List Int)) ([] : (List Int)) t122.1 ([] : (List Int)) ([] : (List Int)) ([] : (List Int)))
     (difference_Compare.l13 (Go.IntKind.wrap Go.IntKind.i64 (p8 + (1 : Int))) (0 : Int) p0 p1 p2 p3 p4 p5 p6 p7 false false false (t122.2.1 == (0 : Int)) t123.1 t124.1 ([] : (List ((Int × Int) × Int))) ([] : (List Int)) ([] : (List Int)) ([] : (List Int)) ([] : (List Int)) t122.1 ([] : (List Int)) ([] : (List Int)) ([] : (List Int)))))) := (Einf_call Go.Proofs.C28.ctx 13 _).trans (by kernel_rfl)
theorem ancepsref28_Compare.f_eq (p0 : Int) (p1 : Int) (p2 : (List (List Int))) (p3 : (List Bool)) (p4 : Int) (p5 : Int) (p6 : (List (List Int))) (p7 : (List Bool)) (p8 : Int) : ancepsref28_Compare.f p0 p1 p2 p3 p4 p5 p6 p7 p8 =
  bindD (ancepsref28_valid.f p0 p1 p2 p3 p4 p5 p6 p7) fun t126 =>
  ifB (t126.1 != (0 : Int))
   (some (false, (false, (false, (([] : (List Int)), (([] : (List Int)), (([] : (List Int)), (([] : (List Int)), (t126.1, ())))))))))
  (ifB (decide (p8 < (0 : Int)))
    (some (false, (false, (false, (([] : (List Int)), (([] : (List Int)), (([] : (List Int)), (([] : (List Int)), ((6 : Int), ())))))))))
   (ifB (decide (p8 > (20 : Int)))
     (some (false, (false, (false, (([] : (List Int)), (([] : (List Int)), (([] : (List Int)), (([] : (List Int)), ((6 : Int), ())))))))))
    (bindD (ancepsref28_tells.f p0 p1 p2 p3 p4 p5 p6 p7) fun t127 =>
     bindD (ancepsref28_within.f p0 p1 p2 p3 p4 p5 p6 p7) fun t128 =>
     bindD (ancepsref28_within.f p4 p5 p6 p7 p0 p1 p2 p3) fun t129 =>
     bindD (ancepsref28_reach.f p0 p1 p2 p3 p4 p5 p6 p7) fun t130 =>
     bindD ((Go.Proofs.R.mkLen (((List.length t130.1) : Nat) : Int) (((List.length t130.1) : Nat) : Int))) fun t131 =>
     ifB (decide ((((List.length t130.1) : Nat) : Int) > (0 : Int)))
      (bindD ((ixAt (List.replicate t131 (0 : Int)) (0 : Int))) fun t132 =>
      bindD ((ixAt (List.replicate t131 (0 : Int)) (0 : Int))) fun t133 =>
      ancepsref28_Compare.l13 p8 t130.1 (0 : Int) p0 p1 p2 p3 p4 p5 p6 p7 false false false (t127.2.1 == (0 : Int)) t128.1 t129.1 t127.1 (setRow (List.replicate t131 (0 : Int)) (0 : Int) (1 : Int)) ([] : (List Int)) ([] : (List Int)) ([] : (List Int)) ([] : (List Int)) ([] : (List Int)) ([] : (List Int)) ([] : (List Int)))
     (ancepsref28_Compare.l13 p8 t130.1 (0 : Int) p0 p1 p2 p3 p4 p5 p6 p7 false false false (t127.2.1 == (0 : Int)) t128.1 t129.1 t127.1 (List.replicate t131 (0 : Int)) ([] : (List Int)) ([] : (List Int)) ([] : (List Int)) ([] : (List Int)) ([] : (List Int)) ([] : (List Int)) ([] : (List Int)))))) := (Einf_call Go.Proofs.C28.ctx 14 _).trans (by kernel_rfl)
theorem difference_CheckWithin.f_eq (p0 : Int) (p1 : Int) (p2 : (List (List Int))) (p3 : (List Bool)) (p4 : Int) (p5 : Int) (p6 : (List (List Int))) (p7 : (List Bool)) (p8 : (List (Int × Int))) : difference_CheckWithin.f p0 p1 p2 p3 p4 p5 p6 p7 p8 =
  bindD (difference_valid.f p0 p1 p2 p3 p4 p5 p6 p7) fun t139 =>
  ifB (t139.1 != (0 : Int))
   (some (false, ()))
  (difference_CheckWithin.l5 p8 (((List.length p8) : Nat) : Int) (0 : Int) p0 p1 p2 p3 p4 p5 p6 p7 p8) := (Einf_call Go.Proofs.C28.ctx 27 _).trans (by kernel_rfl)
theorem ancepsref28_CheckWithin.f_eq (p0 : Int) (p1 : Int) (p2 : (List (List Int))) (p3 : (List Bool)) (p4 : Int) (p5 : Int) (p6 : (List (List Int))) (p7 : (List Bool)) (p8 : (List (Int × Int))) : ancepsref28_CheckWithin.f p0 p1 p2 p3 p4 p5 p6 p7 p8 =
  bindD (ancepsref28_valid.f p0 p1 p2 p3 p4 p5 p6 p7) fun t140 =>
  ifB (t140.1 != (0 : Int))
   (some (false, ()))
  (ifB (decide (p1 ≥ (0 : Int)))
    (bindD (ancepsref28_index.f p8 p1 p5) fun t141 =>
    ifB (decide (t141.1 < (0 : Int)))
     (some (false, ()))
    (ancepsref28_CheckWithin.l4 p8 (0 : Int) p0 p1 p2 p3 p4 p5 p6 p7))
   (ancepsref28_CheckWithin.l4 p8 (0 : Int) p0 p1 p2 p3 p4 p5 p6 p7)) := (Einf_call Go.Proofs.C28.ctx 29 _).trans (by kernel_rfl)
theorem difference_Simulation.f_eq (p0 : Int) (p1 : Int) (p2 : (List (List Int))) (p3 : (List Bool)) (p4 : Int) (p5 : Int) (p6 : (List (List Int))) (p7 : (List Bool)) : difference_Simulation.f p0 p1 p2 p3 p4 p5 p6 p7 =
  bindD (difference_valid.f p0 p1 p2 p3 p4 p5 p6 p7) fun t148 =>
  ifB (t148.1 != (0 : Int))
   (some (([] : (List (Int × Int))), (t148.1, ())))
  (bindD (difference_within.f p0 p1 p2 p3 p4 p5 p6 p7) fun t149 =>
   ifB (!t149.1)
    (some (([] : (List (Int × Int))), ((12 : Int), ())))
   (bindD (difference_side.f p0 p1 p2 p3 p4 p5 p6 p7) fun t150 =>
    difference_Simulation.l8 (((List.length t150.1) : Nat) : Int) (0 : Int) ([] : (List (Int × Int))) t150.1)) := (Einf_call Go.Proofs.C28.ctx 34 _).trans (by kernel_rfl)
theorem ancepsref28_Simulation.f_eq (p0 : Int) (p1 : Int) (p2 : (List (List Int))) (p3 : (List Bool)) (p4 : Int) (p5 : Int) (p6 : (List (List Int))) (p7 : (List Bool)) : ancepsref28_Simulation.f p0 p1 p2 p3 p4 p5 p6 p7 =
  bindD (ancepsref28_valid.f p0 p1 p2 p3 p4 p5 p6 p7) fun t151 =>
  ifB (t151.1 != (0 : Int))
   (some (([] : (List (Int × Int))), (t151.1, ())))
  (bindD (ancepsref28_within.f p0 p1 p2 p3 p4 p5 p6 p7) fun t152 =>
   ifB (!t152.1)
    (some (([] : (List (Int × Int))), ((12 : Int), ())))
   (bindD (ancepsref28_reach.f p0 p1 p2 p3 p4 p5 p6 p7) fun t153 =>
    ancepsref28_Simulation.l9 t153.1 (0 : Int) ([] : (List (Int × Int))))) := (Einf_call Go.Proofs.C28.ctx 35 _).trans (by kernel_rfl)
theorem api_Pair_36.f_eq (p0 : (List (Int × Int))) (p1 : (List (Int × Int))) : api_Pair_36.f p0 p1 =
  ifB ((((List.length p0) : Nat) : Int) != (((List.length p1) : Nat) : Int))
   (some (false, ()))
  (api_Pair_36.l4 p0 p1 (((List.length p0) : Nat) : Int) (0 : Int)) := (Einf_call Go.Proofs.C28.ctx 36 _).trans (by kernel_rfl)
theorem ancepslaw28_of.f_eq (p0 : (List Bool)) (p1 : (List (List Int))) : ancepslaw28_of.f p0 p1 =
  some ((2 : Int), ((0 : Int), (p1, (p0, ())))) := (Einf_call Go.Proofs.C28.ctx 37 _).trans (by kernel_rfl)
theorem ancepsref28_Few.l3_eq (p0 : Int) (p1 : Int) (p2 : Int) (p3 : Int) (p4 : (List (List Int))) (p5 : (List Bool)) (p6 : Int) (p7 : Int) (p8 : (List (List Int))) (p9 : (List Bool)) : ancepsref28_Few.l3 p0 p1 p2 p3 p4 p5 p6 p7 p8 p9 =
  ifB (decide (p1 < (((List.length p4) : Nat) : Int)))
   (ifB (decide (p1 < (61 : Int)))
    (bindD ((ixAt p4 p1)) fun t154 =>
    ancepsref28_Few.l3 (Go.IntKind.wrap Go.IntKind.i64 (p0 + (((List.length t154) : Nat) : Int))) (Go.IntKind.wrap Go.IntKind.i64 (p1 + (1 : Int))) p2 p3 p4 p5 p6 p7 p8 p9)
   (ancepsref28_Few.l7 p0 (0 : Int) p2 p3 p4 p5 p6 p7 p8 p9))
  (ancepsref28_Few.l7 p0 (0 : Int) p2 p3 p4 p5 p6 p7 p8 p9) := (loopAt_step Go.Proofs.C28.ctx 12 3 _).trans (by kernel_rfl)
theorem difference_valid.f_eq (p0 : Int) (p1 : Int) (p2 : (List (List Int))) (p3 : (List Bool)) (p4 : Int) (p5 : Int) (p6 : (List (List Int))) (p7 : (List Bool)) : difference_valid.f p0 p1 p2 p3 p4 p5 p6 p7 =
  bindD (automaton_Valid.f p0 p1 p2 p3) fun t155 =>
  ifB (t155.1 != (0 : Int))
   (some ((1 : Int), ()))
  (bindD (automaton_Valid.f p4 p5 p6 p7) fun t156 =>
   ifB (t156.1 != (0 : Int))
    (some ((1 : Int), ()))
   (ifB (p0 != p4)
     (some ((1 : Int), ()))
    (some ((0 : Int), ())))) := (Einf_call Go.Proofs.C28.ctx 38 _).trans (by kernel_rfl)
theorem difference_apart.f_eq (p0 : Int) (p1 : Int) (p2 : (List (List Int))) (p3 : (List Bool)) (p4 : Int) (p5 : Int) (p6 : (List (List Int))) (p7 : (List Bool)) : difference_apart.f p0 p1 p2 p3 p4 p5 p6 p7 =
  bindD (difference_side.f1 p0 p1 p2 p3 p4 p5 p6 p7) fun t157 =>
  difference_apart.l3 (((List.length t157.1) : Nat) : Int) (0 : Int) p0 p1 p2 p3 p4 p5 p6 p7 t157.1 := (Einf_call Go.Proofs.C28.ctx 39 _).trans (by kernel_rfl)
theorem ancepsref28_valid.f_eq (p0 : Int) (p1 : Int) (p2 : (List (List Int))) (p3 : (List Bool)) (p4 : Int) (p5 : Int) (p6 : (List (List Int))) (p7 : (List Bool)) : ancepsref28_valid.f p0 p1 p2 p3 p4 p5 p6 p7 =
  bindD (ancepsref06_Valid.f p0 p1 p2 p3) fun t158 =>
  ifB (t158.1 != (0 : Int))
   (some ((1 : Int), ()))
  (bindD (ancepsref06_Valid.f p4 p5 p6 p7) fun t159 =>
   ifB (t159.1 != (0 : Int))
    (some ((1 : Int), ()))
   (ifB (p0 != p4)
     (some ((1 : Int), ()))
    (some ((0 : Int), ())))) := (Einf_call Go.Proofs.C28.ctx 44 _).trans (by kernel_rfl)
theorem ancepsref28_tells.f_eq (p0 : Int) (p1 : Int) (p2 : (List (List Int))) (p3 : (List Bool)) (p4 : Int) (p5 : Int) (p6 : (List (List Int))) (p7 : (List Bool)) : ancepsref28_tells.f p0 p1 p2 p3 p4 p5 p6 p7 =
  bindD (ancepsref28_reach.f p0 p1 p2 p3 p4 p5 p6 p7) fun t160 =>
  ancepsref28_tells.l3 (0 : Int) p0 p1 p2 p3 p4 p5 p6 p7 t160.1 t160.2.1 := (Einf_call Go.Proofs.C28.ctx 45 _).trans (by kernel_rfl)
theorem difference_within.f_eq (p0 : Int) (p1 : Int) (p2 : (List (List Int))) (p3 : (List Bool)) (p4 : Int) (p5 : Int) (p6 : (List (List Int))) (p7 : (List Bool)) : difference_within.f p0 p1 p2 p3 p4 p5 p6 p7 =
  bindD (difference_side.f p0 p1 p2 p3 p4 p5 p6 p7) fun t161 =>
  bindD (difference_visit.f1 t161.1 p0 p1 p2 p3 p4 p5 p6 p7) fun t162 =>
  some ((!t162.1), ()) := (Einf_call Go.Proofs.C28.ctx 40 _).trans (by kernel_rfl)
theorem ancepsref28_within.f_eq (p0 : Int) (p1 : Int) (p2 : (List (List Int))) (p3 : (List Bool)) (p4 : Int) (p5 : Int) (p6 : (List (List Int))) (p7 : (List Bool)) : ancepsref28_within.f p0 p1 p2 p3 p4 p5 p6 p7 =
  bindD (ancepsref28_reach.f p0 p1 p2 p3 p4 p5 p6 p7) fun t163 =>
  ancepsref28_within.l3 t163.1 (0 : Int) p0 p1 p2 p3 p4 p5 p6 p7 := (Einf_call Go.Proofs.C28.ctx 46 _).trans (by kernel_rfl)
theorem difference_side.f_eq (p0 : Int) (p1 : Int) (p2 : (List (List Int))) (p3 : (List Bool)) (p4 : Int) (p5 : Int) (p6 : (List (List Int))) (p7 : (List Bool)) : difference_side.f p0 p1 p2 p3 p4 p5 p6 p7 =
  bindD (difference_left.f p1 p5) fun t164 =>
  ifB (!t164.1)
   (some (([] : (List ((Int × Int) × (Int × Int)))), ()))
  (difference_side.l7 (0 : Int) p0 p1 p2 p3 p4 p5 p6 p7 (((p1, p5), ((-(1 : Int)), (-(1 : Int)))) :: ([] : (List ((Int × Int) × (Int × Int))))) (Go.Proofs.R.mput (Go.Proofs.R.Ty.pair (Go.Proofs.R.Ty.int Go.IntKind.i64) (Go.Proofs.R.Ty.int Go.IntKind.i64)) (p1, p5) true ([] : (List ((Int × Int) × Bool))))) := (Einf_call Go.Proofs.C28.ctx 54 _).trans (by kernel_rfl)
theorem ancepsref28_reach.f_eq (p0 : Int) (p1 : Int) (p2 : (List (List Int))) (p3 : (List Bool)) (p4 : Int) (p5 : Int) (p6 : (List (List Int))) (p7 : (List Bool)) : ancepsref28_reach.f p0 p1 p2 p3 p4 p5 p6 p7 =
  ifB (decide (p1 < (0 : Int)))
   (ifB (decide (p5 < (0 : Int)))
    (some (([] : (List (Int × Int))), (([] : (List (List Int))), ())))
   (ancepsref28_reach.l6 (0 : Int) p0 p1 p2 p3 p4 p5 p6 p7 ([] : (List (Int × Int))) ([] : (List (List Int))) ((p1, p5) :: ([] : (List (Int × Int)))) (([] : (List Int)) :: ([] : (List (List Int))))))
  (ancepsref28_reach.l6 (0 : Int) p0 p1 p2 p3 p4 p5 p6 p7 ([] : (List (Int × Int))) ([] : (List (List Int))) ((p1, p5) :: ([] : (List (Int × Int)))) (([] : (List Int)) :: ([] : (List (List Int))))) := (Einf_call Go.Proofs.C28.ctx 47 _).trans (by kernel_rfl)
theorem slices_Equal_int_int.l4_eq (p0 : (List Int)) (p1 : (List Int)) (p2 : Int) (p3 : Int) : slices_Equal_int_int.l4 p0 p1 p2 p3 =
  ifB (decide (p3 < p2))
   (bindD ((ixAt p0 p3)) fun t170 =>
   bindD ((ixAt p1 p3)) fun t171 =>
   ifB (t170 != t171)
    (some (false, ()))
   (slices_Equal_int_int.l4 p0 p1 p2 (Go.IntKind.wrap Go.IntKind.i64 (p3 + (1 : Int)))))
  (some (true, ())) := (loopAt_step Go.Proofs.C28.ctx 25 4 _).trans (by kernel_rfl)
theorem automaton_Valid.f_eq (p0 : Int) (p1 : Int) (p2 : (List (List Int))) (p3 : (List Bool)) : automaton_Valid.f p0 p1 p2 p3 =
  ifB (decide (p0 < (1 : Int)))
   (some ((1 : Int), ()))
  (ifB (decide (p0 > (8 : Int)))
    (some ((1 : Int), ()))
   (ifB (decide ((((List.length p2) : Nat) : Int) > (400 : Int)))
     (some ((1 : Int), ()))
    (ifB ((((List.length p3) : Nat) : Int) != (((List.length p2) : Nat) : Int))
      (some ((1 : Int), ()))
     (ifB (decide (p1 < (0 : Int)))
       (ifB (decide ((((List.length p2) : Nat) : Int) > (0 : Int)))
        (some ((1 : Int), ()))
       (ifB (p1 != (-(1 : Int)))
         (some ((1 : Int), ()))
        (ifB (decide (p1 ≥ (((List.length p2) : Nat) : Int)))
          (some ((1 : Int), ()))
         (automaton_Valid.l7 p2 (((List.length p2) : Nat) : Int) (0 : Int) p0 p1 p2 p3 (((List.length p2) : Nat) : Int)))))
      (ifB (decide (p1 ≥ (((List.length p2) : Nat) : Int)))
        (some ((1 : Int), ()))
       (automaton_Valid.l7 p2 (((List.length p2) : Nat) : Int) (0 : Int) p0 p1 p2 p3 (((List.length p2) : Nat) : Int))))))) := (Einf_call Go.Proofs.C28.ctx 57 _).trans (by kernel_rfl)
theorem difference_either.f_eq (p0 : Int) (p1 : Int) : difference_either.f p0 p1 =
  ifB (decide (p0 ≥ (0 : Int)))
   (some (true, ()))
  (some ((decide (p1 ≥ (0 : Int))), ())) := (Einf_call Go.Proofs.C28.ctx 41 _).trans (by kernel_rfl)
theorem difference_Compare.l13_eq (p0 : Int) (p1 : Int) (p2 : Int) (p3 : Int) (p4 : (List (List Int))) (p5 : (List Bool)) (p6 : Int) (p7 : Int) (p8 : (List (List Int))) (p9 : (List Bool)) (p10 : Bool) (p11 : Bool) (p12 : Bool) (p13 : Bool) (p14 : Bool) (p15 : Bool) (p16 : (List ((Int × Int) × Int))) (p17 : (List Int)) (p18 : (List Int)) (p19 : (List Int)) (p20 : (List Int)) (p21 : (List Int)) (p22 : (List Int)) (p23 : (List Int)) (p24 : (List Int)) : difference_Compare.l13 p0 p1 p2 p3 p4 p5 p6 p7 p8 p9 p10 p11 p12 p13 p14 p15 p16 p17 p18 p19 p20 p21 p22 p23 p24 =
  ifB (decide (p1 < p0))
   (difference_Compare.l17 (0 : Int) (0 : Int) (0 : Int) p0 p1 p2 p3 p4 p5 p6 p7 p8 p9 p10 p11 p12 p13 p14 p15 ([] : (List ((Int × Int) × Int))) (List.length p16) ([] : (List Nat)) p17 p18 p19 p20 p21 p22 p23 p24 p16)
  (some (p13, (p14, (p15, (p21, (p22, (p23, (p24, ((0 : Int), ()))))))))) := (loopAt_step Go.Proofs.C28.ctx 13 13 _).trans (by kernel_rfl)
theorem ancepsref28_Compare.l13_eq (p0 : Int) (p1 : (List (Int × Int))) (p2 : Int) (p3 : Int) (p4 : Int) (p5 : (List (List Int))) (p6 : (List Bool)) (p7 : Int) (p8 : Int) (p9 : (List (List Int))) (p10 : (List Bool)) (p11 : Bool) (p12 : Bool) (p13 : Bool) (p14 : Bool) (p15 : Bool) (p16 : Bool) (p17 : (List Int)) (p18 : (List Int)) (p19 : (List Int)) (p20 : (List Int)) (p21 : (List Int)) (p22 : (List Int)) (p23 : (List Int)) (p24 : (List Int)) (p25 : (List Int)) : ancepsref28_Compare.l13 p0 p1 p2 p3 p4 p5 p6 p7 p8 p9 p10 p11 p12 p13 p14 p15 p16 p17 p18 p19 p20 p21 p22 p23 p24 p25 =
  ifB (decide (p2 ≤ p0))
   (bindD ((Go.Proofs.R.mkLen (((List.length p1) : Nat) : Int) (((List.length p1) : Nat) : Int))) fun t174 =>
   ancepsref28_Compare.l18 p0 p1 p2 (0 : Int) (0 : Int) (0 : Int) (0 : Int) p3 p4 p5 p6 p7 p8 p9 p10 p11 p12 p13 p14 p15 p16 p17 p18 (List.replicate t174 (0 : Int)) p19 p20 p21 p22 p23 p24 p25)
  (some (p14, (p15, (p16, (p17, (p23, (p24, (p25, ((0 : Int), ()))))))))) := (loopAt_step Go.Proofs.C28.ctx 14 13 _).trans (by kernel_rfl)
theorem difference_CheckWithin.l5_eq (p0 : (List (Int × Int))) (p1 : Int) (p2 : Int) (p3 : Int) (p4 : Int) (p5 : (List (List Int))) (p6 : (List Bool)) (p7 : Int) (p8 : Int) (p9 : (List (List Int))) (p10 : (List Bool)) (p11 : (List (Int × Int))) : difference_CheckWithin.l5 p0 p1 p2 p3 p4 p5 p6 p7 p8 p9 p10 p11 =
  ifB (decide (p2 < p1))
   (bindD ((ixAt p0 p2)) fun t175 =>
   ifB (decide (p2 > (0 : Int)))
    (bindD ((ixAt p11 (Go.IntKind.wrap Go.IntKind.i64 (p2 - (1 : Int))))) fun t176 =>
    bindD (difference_order.f t176.1 t176.2 t175.1 t175.2) fun t177 =>
    ifB (decide (t177.1 ≥ (0 : Int)))
     (some (false, ()))
    (ifB (decide (t175.1 < (0 : Int)))
      (some (false, ()))
     (ifB (decide (t175.1 ≥ (((List.length p5) : Nat) : Int)))
       (some (false, ()))
      (ifB (decide (t175.2 < (-(1 : Int))))
        (some (false, ()))
       (ifB (decide (t175.2 ≥ (((List.length p9) : Nat) : Int)))
         (some (false, ()))
        (difference_CheckWithin.l5 p0 p1 (Go.IntKind.wrap Go.IntKind.i64 (p2 + (1 : Int))) p3 p4 p5 p6 p7 p8 p9 p10 p11))))))
   (ifB (decide (t175.1 < (0 : Int)))
     (some (false, ()))
    (ifB (decide (t175.1 ≥ (((List.length p5) : Nat) : Int)))
      (some (false, ()))
     (ifB (decide (t175.2 < (-(1 : Int))))
       (some (false, ()))
      (ifB (decide (t175.2 ≥ (((List.length p9) : Nat) : Int)))
        (some (false, ()))
       (difference_CheckWithin.l5 p0 p1 (Go.IntKind.wrap Go.IntKind.i64 (p2 + (1 : Int))) p3 p4 p5 p6 p7 p8 p9 p10 p11))))))
  (difference_CheckWithin.l11 p11 (((List.length p11) : Nat) : Int) (0 : Int) p3 p4 p5 p6 p7 p8 p9 p10 p11) := (loopAt_step Go.Proofs.C28.ctx 27 5 _).trans (by kernel_rfl)
theorem ancepsref28_index.f_eq (p0 : (List (Int × Int))) (p1 : Int) (p2 : Int) : ancepsref28_index.f p0 p1 p2 =
  ancepsref28_index.l2 p0 (0 : Int) p1 p2 := (Einf_call Go.Proofs.C28.ctx 49 _).trans (by kernel_rfl)
theorem ancepsref28_CheckWithin.l4_eq (p0 : (List (Int × Int))) (p1 : Int) (p2 : Int) (p3 : Int) (p4 : (List (List Int))) (p5 : (List Bool)) (p6 : Int) (p7 : Int) (p8 : (List (List Int))) (p9 : (List Bool)) : ancepsref28_CheckWithin.l4 p0 p1 p2 p3 p4 p5 p6 p7 p8 p9 =
  ifB (decide (p1 < (((List.length p0) : Nat) : Int)))
   (bindD ((ixAt p0 p1)) fun t178 =>
   ifB (decide (t178.1 < (0 : Int)))
    (some (false, ()))
   (ifB (decide (t178.1 ≥ (((List.length p4) : Nat) : Int)))
     (some (false, ()))
    (ifB (decide (t178.2 < (-(1 : Int))))
      (some (false, ()))
     (ifB (decide (t178.2 ≥ (((List.length p8) : Nat) : Int)))
       (some (false, ()))
      (ifB (decide (p1 > (0 : Int)))
        (bindD ((ixAt p0 (Go.IntKind.wrap Go.IntKind.i64 (p1 - (1 : Int))))) fun t179 =>
        bindD (ancepsref28_less.f t179.1 t179.2 t178.1 t178.2) fun t180 =>
        ifB (!t180.1)
         (some (false, ()))
        (bindD (ancepsref28_accepts.f p2 p3 p4 p5 t178.1) fun t181 =>
         ifB t181.1
          (bindD (ancepsref28_accepts.f p6 p7 p8 p9 t178.2) fun t182 =>
          ifB (!t182.1)
           (some (false, ()))
          (ancepsref28_CheckWithin.l10 p0 p1 (0 : Int) p2 p3 p4 p5 p6 p7 p8 p9 t178.1 t178.2))
         (ancepsref28_CheckWithin.l10 p0 p1 (0 : Int) p2 p3 p4 p5 p6 p7 p8 p9 t178.1 t178.2)))
       (bindD (ancepsref28_accepts.f p2 p3 p4 p5 t178.1) fun t183 =>
        ifB t183.1
         (bindD (ancepsref28_accepts.f p6 p7 p8 p9 t178.2) fun t184 =>
         ifB (!t184.1)
          (some (false, ()))
         (ancepsref28_CheckWithin.l10 p0 p1 (0 : Int) p2 p3 p4 p5 p6 p7 p8 p9 t178.1 t178.2))
        (ancepsref28_CheckWithin.l10 p0 p1 (0 : Int) p2 p3 p4 p5 p6 p7 p8 p9 t178.1 t178.2)))))))
  (some (true, ())) := (loopAt_step Go.Proofs.C28.ctx 29 4 _).trans (by kernel_rfl)
theorem difference_Simulation.l8_eq (p0 : Int) (p1 : Int) (p2 : (List (Int × Int))) (p3 : (List ((Int × Int) × (Int × Int)))) : difference_Simulation.l8 p0 p1 p2 p3 =
  ifB (decide (p1 < p0))
   (bindD ((ixAt p3 p1)) fun t196 =>
   bindD ((ixAt p3 p1)) fun t197 =>
   bindD ((Go.Proofs.R.grow ((List.length p2) + (List.length ((t197.1.1, t197.1.2) :: ([] : (List (Int × Int)))))))) fun t198 =>
   difference_Simulation.l8 p0 (Go.IntKind.wrap Go.IntKind.i64 (p1 + (1 : Int))) (p2 ++ ((t197.1.1, t197.1.2) :: ([] : (List (Int × Int))))) p3)
  (bindD ((Go.Proofs.R.grow (List.length p2))) fun t199 =>
   bindD (sortB false (fun t200 t201 => bindD (difference_order.f t200.1 t200.2 t201.1 t201.2) fun t202 =>
    some t202.1) p2) fun t203 =>
   some (t203, ((0 : Int), ()))) := (loopAt_step Go.Proofs.C28.ctx 34 8 _).trans (by kernel_rfl)
theorem ancepsref28_Simulation.l9_eq (p0 : (List (Int × Int))) (p1 : Int) (p2 : (List (Int × Int))) : ancepsref28_Simulation.l9 p0 p1 p2 =
  ifB (decide (p1 < (((List.length p0) : Nat) : Int)))
   (bindD ((ixAt p0 p1)) fun t204 =>
   ifB (decide (t204.1 < (0 : Int)))
    (ancepsref28_Simulation.l9 p0 (Go.IntKind.wrap Go.IntKind.i64 (p1 + (1 : Int))) p2)
   (ancepsref28_Simulation.l13 p0 p1 (((List.length p2) : Nat) : Int) p2))
  (some (p2, ((0 : Int), ()))) := (loopAt_step Go.Proofs.C28.ctx 35 9 _).trans (by kernel_rfl)
theorem api_Pair_36.l4_eq (p0 : (List (Int × Int))) (p1 : (List (Int × Int))) (p2 : Int) (p3 : Int) : api_Pair_36.l4 p0 p1 p2 p3 =
  ifB (decide (p3 < p2))
   (bindD ((ixAt p0 p3)) fun t205 =>
   bindD ((ixAt p1 p3)) fun t206 =>
   ifB (!((t205.1 == t206.1) && (t205.2 == t206.2)))
    (some (false, ()))
   (api_Pair_36.l4 p0 p1 p2 (Go.IntKind.wrap Go.IntKind.i64 (p3 + (1 : Int)))))
  (some (true, ())) := (loopAt_step Go.Proofs.C28.ctx 36 4 _).trans (by kernel_rfl)
theorem ancepsref28_Few.l7_eq (p0 : Int) (p1 : Int) (p2 : Int) (p3 : Int) (p4 : (List (List Int))) (p5 : (List Bool)) (p6 : Int) (p7 : Int) (p8 : (List (List Int))) (p9 : (List Bool)) : ancepsref28_Few.l7 p0 p1 p2 p3 p4 p5 p6 p7 p8 p9 =
  ifB (decide (p1 < (((List.length p8) : Nat) : Int)))
   (ifB (decide (p1 < (61 : Int)))
    (bindD ((ixAt p8 p1)) fun t207 =>
    ancepsref28_Few.l7 (Go.IntKind.wrap Go.IntKind.i64 (p0 + (((List.length t207) : Nat) : Int))) (Go.IntKind.wrap Go.IntKind.i64 (p1 + (1 : Int))) p2 p3 p4 p5 p6 p7 p8 p9)
   (ifB (decide ((Go.IntKind.wrap Go.IntKind.i64 ((((List.length p4) : Nat) : Int) + (((List.length p8) : Nat) : Int))) ≤ (60 : Int)))
     (ifB (decide (p0 ≤ (500 : Int)))
      (ifB (decide ((((List.length p5) : Nat) : Int) ≤ (70 : Int)))
       (some ((decide ((((List.length p9) : Nat) : Int) ≤ (70 : Int))), ()))
      (some (false, ())))
     (some (false, ())))
    (some (false, ()))))
  (ifB (decide ((Go.IntKind.wrap Go.IntKind.i64 ((((List.length p4) : Nat) : Int) + (((List.length p8) : Nat) : Int))) ≤ (60 : Int)))
    (ifB (decide (p0 ≤ (500 : Int)))
     (ifB (decide ((((List.length p5) : Nat) : Int) ≤ (70 : Int)))
      (some ((decide ((((List.length p9) : Nat) : Int) ≤ (70 : Int))), ()))
     (some (false, ())))
    (some (false, ())))
   (some (false, ()))) := (loopAt_step Go.Proofs.C28.ctx 12 7 _).trans (by kernel_rfl)
theorem difference_side.f1_eq (p0 : Int) (p1 : Int) (p2 : (List (List Int))) (p3 : (List Bool)) (p4 : Int) (p5 : Int) (p6 : (List (List Int))) (p7 : (List Bool)) : difference_side.f1 p0 p1 p2 p3 p4 p5 p6 p7 =
  bindD (difference_either.f p1 p5) fun t208 =>
  ifB (!t208.1)
   (some (([] : (List ((Int × Int) × (Int × Int)))), ()))
  (difference_side.l7_1 (0 : Int) p0 p1 p2 p3 p4 p5 p6 p7 (((p1, p5), ((-(1 : Int)), (-(1 : Int)))) :: ([] : (List ((Int × Int) × (Int × Int))))) (Go.Proofs.R.mput (Go.Proofs.R.Ty.pair (Go.Proofs.R.Ty.int Go.IntKind.i64) (Go.Proofs.R.Ty.int Go.IntKind.i64)) (p1, p5) true ([] : (List ((Int × Int) × Bool))))) := (Einf_call Go.Proofs.C28.ctx 54 _).trans (by kernel_rfl)
theorem difference_apart.l3_eq (p0 : Int) (p1 : Int) (p2 : Int) (p3 : Int) (p4 : (List (List Int))) (p5 : (List Bool)) (p6 : Int) (p7 : Int) (p8 : (List (List Int))) (p9 : (List Bool)) (p10 : (List ((Int × Int) × (Int × Int)))) : difference_apart.l3 p0 p1 p2 p3 p4 p5 p6 p7 p8 p9 p10 =
  ifB (decide (p1 < p0))
   (bindD ((ixAt p10 p1)) fun t209 =>
   bindD ((ixAt p10 p1)) fun t210 =>
   bindD (difference_accepts.f p2 p3 p4 p5 t210.1.1) fun t211 =>
   bindD (difference_accepts.f p6 p7 p8 p9 t210.1.2) fun t212 =>
   ifB (t211.1 == t212.1)
    (difference_apart.l3 p0 (Go.IntKind.wrap Go.IntKind.i64 (p1 + (1 : Int))) p2 p3 p4 p5 p6 p7 p8 p9 p10)
   (difference_apart.l9 t211.1 p1 p10 ([] : (List Int))))
  (some (([] : (List Int)), ((0 : Int), ()))) := (loopAt_step Go.Proofs.C28.ctx 39 3 _).trans (by kernel_rfl)
theorem ancepsref06_Valid.f_eq (p0 : Int) (p1 : Int) (p2 : (List (List Int))) (p3 : (List Bool)) : ancepsref06_Valid.f p0 p1 p2 p3 =
  ifB (decide (p0 < (1 : Int)))
   (some ((1 : Int), ()))
  (ifB (decide (p0 > (8 : Int)))
    (some ((1 : Int), ()))
   (ifB (decide ((((List.length p2) : Nat) : Int) > (400 : Int)))
     (some ((1 : Int), ()))
    (ifB ((((List.length p3) : Nat) : Int) != (((List.length p2) : Nat) : Int))
      (some ((1 : Int), ()))
     (ifB ((((List.length p2) : Nat) : Int) == (0 : Int))
       (ifB (p1 != (-(1 : Int)))
        (some ((1 : Int), ()))
       (ifB (decide ((((List.length p2) : Nat) : Int) > (0 : Int)))
         (ifB (decide (p1 < (0 : Int)))
          (some ((1 : Int), ()))
         (ifB (decide (p1 ≥ (((List.length p2) : Nat) : Int)))
           (some ((1 : Int), ()))
          (ancepsref06_Valid.l7 (((List.length p2) : Nat) : Int) (0 : Int) p0 p1 p2 p3)))
        (ancepsref06_Valid.l7 (((List.length p2) : Nat) : Int) (0 : Int) p0 p1 p2 p3)))
      (ifB (decide ((((List.length p2) : Nat) : Int) > (0 : Int)))
        (ifB (decide (p1 < (0 : Int)))
         (some ((1 : Int), ()))
        (ifB (decide (p1 ≥ (((List.length p2) : Nat) : Int)))
          (some ((1 : Int), ()))
         (ancepsref06_Valid.l7 (((List.length p2) : Nat) : Int) (0 : Int) p0 p1 p2 p3)))
       (ancepsref06_Valid.l7 (((List.length p2) : Nat) : Int) (0 : Int) p0 p1 p2 p3)))))) := (Einf_call Go.Proofs.C28.ctx 69 _).trans (by kernel_rfl)
theorem ancepsref28_tells.l3_eq (p0 : Int) (p1 : Int) (p2 : Int) (p3 : (List (List Int))) (p4 : (List Bool)) (p5 : Int) (p6 : Int) (p7 : (List (List Int))) (p8 : (List Bool)) (p9 : (List (Int × Int))) (p10 : (List (List Int))) : ancepsref28_tells.l3 p0 p1 p2 p3 p4 p5 p6 p7 p8 p9 p10 =
  ifB (decide (p0 < (((List.length p9) : Nat) : Int)))
   (bindD ((ixAt p9 p0)) fun t213 =>
   bindD (ancepsref28_accepts.f p1 p2 p3 p4 t213.1) fun t214 =>
   bindD ((ixAt p9 p0)) fun t215 =>
   bindD (ancepsref28_accepts.f p5 p6 p7 p8 t215.2) fun t216 =>
   ifB t214.1
    (ifB (!t216.1)
     (bindD ((ixAt p10 p0)) fun t217 =>
     some (t217, ((1 : Int), ())))
    (ifB t216.1
      (ifB (!t214.1)
       (bindD ((ixAt p10 p0)) fun t218 =>
       some (t218, ((2 : Int), ())))
      (ancepsref28_tells.l3 (Go.IntKind.wrap Go.IntKind.i64 (p0 + (1 : Int))) p1 p2 p3 p4 p5 p6 p7 p8 p9 p10))
     (ancepsref28_tells.l3 (Go.IntKind.wrap Go.IntKind.i64 (p0 + (1 : Int))) p1 p2 p3 p4 p5 p6 p7 p8 p9 p10)))
   (ifB t216.1
     (ifB (!t214.1)
      (bindD ((ixAt p10 p0)) fun t219 =>
      some (t219, ((2 : Int), ())))
     (ancepsref28_tells.l3 (Go.IntKind.wrap Go.IntKind.i64 (p0 + (1 : Int))) p1 p2 p3 p4 p5 p6 p7 p8 p9 p10))
    (ancepsref28_tells.l3 (Go.IntKind.wrap Go.IntKind.i64 (p0 + (1 : Int))) p1 p2 p3 p4 p5 p6 p7 p8 p9 p10)))
  (some (([] : (List Int)), ((0 : Int), ()))) := (loopAt_step Go.Proofs.C28.ctx 45 3 _).trans (by kernel_rfl)
theorem difference_visit.f1_eq (p0 : (List ((Int × Int) × (Int × Int)))) (p1 : Int) (p2 : Int) (p3 : (List (List Int))) (p4 : (List Bool)) (p5 : Int) (p6 : Int) (p7 : (List (List Int))) (p8 : (List Bool)) : difference_visit.f1 p0 p1 p2 p3 p4 p5 p6 p7 p8 =
  bindD (difference_visit_70.f1 p0 p1 p2 p3 p4 p5 p6 p7 p8) fun t220 =>
  some ((decide (t220.1 ≥ (0 : Int))), ()) := (Einf_call Go.Proofs.C28.ctx 53 _).trans (by kernel_rfl)
theorem ancepsref28_within.l3_eq (p0 : (List (Int × Int))) (p1 : Int) (p2 : Int) (p3 : Int) (p4 : (List (List Int))) (p5 : (List Bool)) (p6 : Int) (p7 : Int) (p8 : (List (List Int))) (p9 : (List Bool)) : ancepsref28_within.l3 p0 p1 p2 p3 p4 p5 p6 p7 p8 p9 =
  ifB (decide (p1 < (((List.length p0) : Nat) : Int)))
   (bindD ((ixAt p0 p1)) fun t221 =>
   bindD (ancepsref28_accepts.f p2 p3 p4 p5 t221.1) fun t222 =>
   ifB t222.1
    (bindD ((ixAt p0 p1)) fun t223 =>
    bindD (ancepsref28_accepts.f p6 p7 p8 p9 t223.2) fun t224 =>
    ifB (!t224.1)
     (some (false, ()))
    (ancepsref28_within.l3 p0 (Go.IntKind.wrap Go.IntKind.i64 (p1 + (1 : Int))) p2 p3 p4 p5 p6 p7 p8 p9))
   (ancepsref28_within.l3 p0 (Go.IntKind.wrap Go.IntKind.i64 (p1 + (1 : Int))) p2 p3 p4 p5 p6 p7 p8 p9))
  (some (true, ())) := (loopAt_step Go.Proofs.C28.ctx 46 3 _).trans (by kernel_rfl)
theorem difference_left.f_eq (p0 : Int) (p1 : Int) : difference_left.f p0 p1 =
  some ((decide (p0 ≥ (0 : Int))), ()) := (Einf_call Go.Proofs.C28.ctx 55 _).trans (by kernel_rfl)
theorem difference_side.l7_eq (p0 : Int) (p1 : Int) (p2 : Int) (p3 : (List (List Int))) (p4 : (List Bool)) (p5 : Int) (p6 : Int) (p7 : (List (List Int))) (p8 : (List Bool)) (p9 : (List ((Int × Int) × (Int × Int)))) (p10 : (List ((Int × Int) × Bool))) : difference_side.l7 p0 p1 p2 p3 p4 p5 p6 p7 p8 p9 p10 =
  ifB (decide (p0 < (((List.length p9) : Nat) : Int)))
   (difference_side.l10 p0 p1 (0 : Int) p1 p2 p3 p4 p5 p6 p7 p8 p9 p10)
  (some (p9, ())) := (loopAt_step Go.Proofs.C28.ctx 54 7 _).trans (by kernel_rfl)
theorem ancepsref28_reach.l6_eq (p0 : Int) (p1 : Int) (p2 : Int) (p3 : (List (List Int))) (p4 : (List Bool)) (p5 : Int) (p6 : Int) (p7 : (List (List Int))) (p8 : (List Bool)) (p9 : (List (Int × Int))) (p10 : (List (List Int))) (p11 : (List (Int × Int))) (p12 : (List (List Int))) : ancepsref28_reach.l6 p0 p1 p2 p3 p4 p5 p6 p7 p8 p9 p10 p11 p12 =
  ifB (decide (p0 < (((List.length p11) : Nat) : Int)))
   (ancepsref28_reach.l9 p0 (0 : Int) p1 p2 p3 p4 p5 p6 p7 p8 p9 p10 p11 p12)
  (some (p11, (p12, ()))) := (loopAt_step Go.Proofs.C28.ctx 47 6 _).trans (by kernel_rfl)
theorem ancepsref28_accepts.f_eq (p0 : Int) (p1 : Int) (p2 : (List (List Int))) (p3 : (List Bool)) (p4 : Int) : ancepsref28_accepts.f p0 p1 p2 p3 p4 =
  ifB (decide (p4 ≥ (0 : Int)))
   (bindD ((ixAt p3 p4)) fun t225 =>
   some (t225, ()))
  (some (false, ())) := (Einf_call Go.Proofs.C28.ctx 48 _).trans (by kernel_rfl)
theorem automaton_Valid.l7_eq (p0 : (List (List Int))) (p1 : Int) (p2 : Int) (p3 : Int) (p4 : Int) (p5 : (List (List Int))) (p6 : (List Bool)) (p7 : Int) : automaton_Valid.l7 p0 p1 p2 p3 p4 p5 p6 p7 =
  ifB (decide (p2 < p1))
   (bindD ((ixAt p0 p2)) fun t226 =>
   ifB ((((List.length t226) : Nat) : Int) != p3)
    (some ((1 : Int), ()))
   (bindD (slices_ContainsFunc_int_int.f t226 p7) fun t227 =>
    ifB t227.1
     (some ((1 : Int), ()))
    (automaton_Valid.l7 p0 p1 (Go.IntKind.wrap Go.IntKind.i64 (p2 + (1 : Int))) p3 p4 p5 p6 p7)))
  (some ((0 : Int), ())) := (loopAt_step Go.Proofs.C28.ctx 57 7 _).trans (by kernel_rfl)
theorem difference_Compare.l17_eq (p0 : Int) (p1 : Int) (p2 : Int) (p3 : Int) (p4 : Int) (p5 : Int) (p6 : Int) (p7 : (List (List Int))) (p8 : (List Bool)) (p9 : Int) (p10 : Int) (p11 : (List (List Int))) (p12 : (List Bool)) (p13 : Bool) (p14 : Bool) (p15 : Bool) (p16 : Bool) (p17 : Bool) (p18 : Bool) (p19 : (List ((Int × Int) × Int))) (p20 : Nat) (p21 : (List Nat)) (p22 : (List Int)) (p23 : (List Int)) (p24 : (List Int)) (p25 : (List Int)) (p26 : (List Int)) (p27 : (List Int)) (p28 : (List Int)) (p29 : (List Int)) (p30 : (List ((Int × Int) × Int))) : difference_Compare.l17 p0 p1 p2 p3 p4 p5 p6 p7 p8 p9 p10 p11 p12 p13 p14 p15 p16 p17 p18 p19 p20 p21 p22 p23 p24 p25 p26 p27 p28 p29 p30 =
  eachB p30 p20 p21
   (bindD ((Go.Proofs.R.grow ((List.length p27) + (List.length (p0 :: ([] : (List Int))))))) fun t230 =>
   bindD ((Go.Proofs.R.grow ((List.length p28) + (List.length (p1 :: ([] : (List Int))))))) fun t231 =>
   bindD ((Go.Proofs.R.grow ((List.length p29) + (List.length (p2 :: ([] : (List Int))))))) fun t232 =>
   difference_Compare.l13 p3 (Go.IntKind.wrap Go.IntKind.i64 (p4 + (1 : Int))) p5 p6 p7 p8 p9 p10 p11 p12 p13 p14 p15 p16 p17 p18 p19 p22 p23 p24 p25 p26 (p27 ++ (p0 :: ([] : (List Int)))) (p28 ++ (p1 :: ([] : (List Int)))) (p29 ++ (p2 :: ([] : (List Int))))) fun t233 t234 =>
   bindD ((Go.Proofs.R.entryAt p30 p20 (Go.Proofs.R.seenAdd p21 t233))) fun t235 =>
   bindD (difference_accepts.f p5 p6 p7 p8 t235.1.1) fun t236 =>
   bindD (difference_accepts.f p9 p10 p11 p12 t235.1.2) fun t237 =>
   ifB t236.1
    (ifB t237.1
     (difference_Compare.l27 (Go.IntKind.wrap Go.IntKind.i64 (p0 + t235.2)) p1 p2 t235.2 p3 p4 p5 (0 : Int) p5 p6 p7 p8 p9 p10 p11 p12 p13 p14 p15 p16 p17 p18 p19 t235.1.1 t235.1.2 p20 (Go.Proofs.R.seenAdd p21 t233) p22 p23 p24 p25 p26 p27 p28 p29 p30)
    (ifB t236.1
      (difference_Compare.l27 p0 (Go.IntKind.wrap Go.IntKind.i64 (p1 + t235.2)) p2 t235.2 p3 p4 p5 (0 : Int) p5 p6 p7 p8 p9 p10 p11 p12 p13 p14 p15 p16 p17 p18 p19 t235.1.1 t235.1.2 p20 (Go.Proofs.R.seenAdd p21 t233) p22 p23 p24 p25 p26 p27 p28 p29 p30)
     (ifB t237.1
       (difference_Compare.l27 p0 p1 (Go.IntKind.wrap Go.IntKind.i64 (p2 + t235.2)) t235.2 p3 p4 p5 (0 : Int) p5 p6 p7 p8 p9 p10 p11 p12 p13 p14 p15 p16 p17 p18 p19 t235.1.1 t235.1.2 p20 (Go.Proofs.R.seenAdd p21 t233) p22 p23 p24 p25 p26 p27 p28 p29 p30)
      (difference_Compare.l27 p0 p1 p2 t235.2 p3 p4 p5 (0 : Int) p5 p6 p7 p8 p9 p10 p11 p12 p13 p14 p15 p16 p17 p18 p19 t235.1.1 t235.1.2 p20 (Go.Proofs.R.seenAdd p21 t233) p22 p23 p24 p25 p26 p27 p28 p29 p30))))
   (ifB t236.1
     (difference_Compare.l27 p0 (Go.IntKind.wrap Go.IntKind.i64 (p1 + t235.2)) p2 t235.2 p3 p4 p5 (0 : Int) p5 p6 p7 p8 p9 p10 p11 p12 p13 p14 p15 p16 p17 p18 p19 t235.1.1 t235.1.2 p20 (Go.Proofs.R.seenAdd p21 t233) p22 p23 p24 p25 p26 p27 p28 p29 p30)
    (ifB t237.1
      (difference_Compare.l27 p0 p1 (Go.IntKind.wrap Go.IntKind.i64 (p2 + t235.2)) t235.2 p3 p4 p5 (0 : Int) p5 p6 p7 p8 p9 p10 p11 p12 p13 p14 p15 p16 p17 p18 p19 t235.1.1 t235.1.2 p20 (Go.Proofs.R.seenAdd p21 t233) p22 p23 p24 p25 p26 p27 p28 p29 p30)
     (difference_Compare.l27 p0 p1 p2 t235.2 p3 p4 p5 (0 : Int) p5 p6 p7 p8 p9 p10 p11 p12 p13 p14 p15 p16 p17 p18 p19 t235.1.1 t235.1.2 p20 (Go.Proofs.R.seenAdd p21 t233) p22 p23 p24 p25 p26 p27 p28 p29 p30))) := (loopAt_step Go.Proofs.C28.ctx 13 17 _).trans (by kernel_rfl)
theorem ancepsref28_Compare.l18_eq (p0 : Int) (p1 : (List (Int × Int))) (p2 : Int) (p3 : Int) (p4 : Int) (p5 : Int) (p6 : Int) (p7 : Int) (p8 : Int) (p9 : (List (List Int))) (p10 : (List Bool)) (p11 : Int) (p12 : Int) (p13 : (List (List Int))) (p14 : (List Bool)) (p15 : Bool) (p16 : Bool) (p17 : Bool) (p18 : Bool) (p19 : Bool) (p20 : Bool) (p21 : (List Int)) (p22 : (List Int)) (p23 : (List Int)) (p24 : (List Int)) (p25 : (List Int)) (p26 : (List Int)) (p27 : (List Int)) (p28 : (List Int)) (p29 : (List Int)) (p30 : (List Int)) : ancepsref28_Compare.l18 p0 p1 p2 p3 p4 p5 p6 p7 p8 p9 p10 p11 p12 p13 p14 p15 p16 p17 p18 p19 p20 p21 p22 p23 p24 p25 p26 p27 p28 p29 p30 =
  ifB (decide (p6 < (((List.length p1) : Nat) : Int)))
   (bindD ((ixAt p1 p6)) fun t238 =>
   bindD (ancepsref28_accepts.f p7 p8 p9 p10 t238.1) fun t239 =>
   bindD ((ixAt p1 p6)) fun t240 =>
   bindD (ancepsref28_accepts.f p11 p12 p13 p14 t240.2) fun t241 =>
   ifB t239.1
    (ifB t241.1
     (bindD ((ixAt p22 p6)) fun t242 =>
     bindD ((ixAt p22 p6)) fun t243 =>
     ifB t239.1
      (ifB (!t241.1)
       (bindD ((ixAt p22 p6)) fun t244 =>
       bindD ((ixAt p22 p6)) fun t245 =>
       ifB t241.1
        (ifB (!t239.1)
         (bindD ((ixAt p22 p6)) fun t246 =>
         bindD ((ixAt p22 p6)) fun t247 =>
         ancepsref28_Compare.l28 p0 p1 p2 (Go.IntKind.wrap Go.IntKind.i64 (p3 + t243)) (Go.IntKind.wrap Go.IntKind.i64 (p4 + t245)) (Go.IntKind.wrap Go.IntKind.i64 (p5 + t247)) p6 (0 : Int) p7 p8 p9 p10 p11 p12 p13 p14 p15 p16 p17 p18 p19 p20 p21 p22 p23 p24 p25 p26 p27 p28 p29 p30)
        (ancepsref28_Compare.l28 p0 p1 p2 (Go.IntKind.wrap Go.IntKind.i64 (p3 + t243)) (Go.IntKind.wrap Go.IntKind.i64 (p4 + t245)) p5 p6 (0 : Int) p7 p8 p9 p10 p11 p12 p13 p14 p15 p16 p17 p18 p19 p20 p21 p22 p23 p24 p25 p26 p27 p28 p29 p30))
       (ancepsref28_Compare.l28 p0 p1 p2 (Go.IntKind.wrap Go.IntKind.i64 (p3 + t243)) (Go.IntKind.wrap Go.IntKind.i64 (p4 + t245)) p5 p6 (0 : Int) p7 p8 p9 p10 p11 p12 p13 p14 p15 p16 p17 p18 p19 p20 p21 p22 p23 p24 p25 p26 p27 p28 p29 p30))
      (ifB t241.1
        (ifB (!t239.1)
         (bindD ((ixAt p22 p6)) fun t248 =>
         bindD ((ixAt p22 p6)) fun t249 =>
         ancepsref28_Compare.l28 p0 p1 p2 (Go.IntKind.wrap Go.IntKind.i64 (p3 + t243)) p4 (Go.IntKind.wrap Go.IntKind.i64 (p5 + t249)) p6 (0 : Int) p7 p8 p9 p10 p11 p12 p13 p14 p15 p16 p17 p18 p19 p20 p21 p22 p23 p24 p25 p26 p27 p28 p29 p30)
        (ancepsref28_Compare.l28 p0 p1 p2 (Go.IntKind.wrap Go.IntKind.i64 (p3 + t243)) p4 p5 p6 (0 : Int) p7 p8 p9 p10 p11 p12 p13 p14 p15 p16 p17 p18 p19 p20 p21 p22 p23 p24 p25 p26 p27 p28 p29 p30))
       (ancepsref28_Compare.l28 p0 p1 p2 (Go.IntKind.wrap Go.IntKind.i64 (p3 + t243)) p4 p5 p6 (0 : Int) p7 p8 p9 p10 p11 p12 p13 p14 p15 p16 p17 p18 p19 p20 p21 p22 p23 p24 p25 p26 p27 p28 p29 p30)))
     (ifB t241.1
       (ifB (!t239.1)
        (bindD ((ixAt p22 p6)) fun t250 =>
        bindD ((ixAt p22 p6)) fun t251 =>
        ancepsref28_Compare.l28 p0 p1 p2 (Go.IntKind.wrap Go.IntKind.i64 (p3 + t243)) p4 (Go.IntKind.wrap Go.IntKind.i64 (p5 + t251)) p6 (0 : Int) p7 p8 p9 p10 p11 p12 p13 p14 p15 p16 p17 p18 p19 p20 p21 p22 p23 p24 p25 p26 p27 p28 p29 p30)
       (ancepsref28_Compare.l28 p0 p1 p2 (Go.IntKind.wrap Go.IntKind.i64 (p3 + t243)) p4 p5 p6 (0 : Int) p7 p8 p9 p10 p11 p12 p13 p14 p15 p16 p17 p18 p19 p20 p21 p22 p23 p24 p25 p26 p27 p28 p29 p30))
      (ancepsref28_Compare.l28 p0 p1 p2 (Go.IntKind.wrap Go.IntKind.i64 (p3 + t243)) p4 p5 p6 (0 : Int) p7 p8 p9 p10 p11 p12 p13 p14 p15 p16 p17 p18 p19 p20 p21 p22 p23 p24 p25 p26 p27 p28 p29 p30)))
    (ifB t239.1
      (ifB (!t241.1)
       (bindD ((ixAt p22 p6)) fun t252 =>
       bindD ((ixAt p22 p6)) fun t253 =>
       ifB t241.1
        (ifB (!t239.1)
         (bindD ((ixAt p22 p6)) fun t254 =>
         bindD ((ixAt p22 p6)) fun t255 =>
         ancepsref28_Compare.l28 p0 p1 p2 p3 (Go.IntKind.wrap Go.IntKind.i64 (p4 + t253)) (Go.IntKind.wrap Go.IntKind.i64 (p5 + t255)) p6 (0 : Int) p7 p8 p9 p10 p11 p12 p13 p14 p15 p16 p17 p18 p19 p20 p21 p22 p23 p24 p25 p26 p27 p28 p29 p30)
        (ancepsref28_Compare.l28 p0 p1 p2 p3 (Go.IntKind.wrap Go.IntKind.i64 (p4 + t253)) p5 p6 (0 : Int) p7 p8 p9 p10 p11 p12 p13 p14 p15 p16 p17 p18 p19 p20 p21 p22 p23 p24 p25 p26 p27 p28 p29 p30))
       (ancepsref28_Compare.l28 p0 p1 p2 p3 (Go.IntKind.wrap Go.IntKind.i64 (p4 + t253)) p5 p6 (0 : Int) p7 p8 p9 p10 p11 p12 p13 p14 p15 p16 p17 p18 p19 p20 p21 p22 p23 p24 p25 p26 p27 p28 p29 p30))
      (ifB t241.1
        (ifB (!t239.1)
         (bindD ((ixAt p22 p6)) fun t256 =>
         bindD ((ixAt p22 p6)) fun t257 =>
         ancepsref28_Compare.l28 p0 p1 p2 p3 p4 (Go.IntKind.wrap Go.IntKind.i64 (p5 + t257)) p6 (0 : Int) p7 p8 p9 p10 p11 p12 p13 p14 p15 p16 p17 p18 p19 p20 p21 p22 p23 p24 p25 p26 p27 p28 p29 p30)
        (ancepsref28_Compare.l28 p0 p1 p2 p3 p4 p5 p6 (0 : Int) p7 p8 p9 p10 p11 p12 p13 p14 p15 p16 p17 p18 p19 p20 p21 p22 p23 p24 p25 p26 p27 p28 p29 p30))
       (ancepsref28_Compare.l28 p0 p1 p2 p3 p4 p5 p6 (0 : Int) p7 p8 p9 p10 p11 p12 p13 p14 p15 p16 p17 p18 p19 p20 p21 p22 p23 p24 p25 p26 p27 p28 p29 p30)))
     (ifB t241.1
       (ifB (!t239.1)
        (bindD ((ixAt p22 p6)) fun t258 =>
        bindD ((ixAt p22 p6)) fun t259 =>
        ancepsref28_Compare.l28 p0 p1 p2 p3 p4 (Go.IntKind.wrap Go.IntKind.i64 (p5 + t259)) p6 (0 : Int) p7 p8 p9 p10 p11 p12 p13 p14 p15 p16 p17 p18 p19 p20 p21 p22 p23 p24 p25 p26 p27 p28 p29 p30)
       (ancepsref28_Compare.l28 p0 p1 p2 p3 p4 p5 p6 (0 : Int) p7 p8 p9 p10 p11 p12 p13 p14 p15 p16 p17 p18 p19 p20 p21 p22 p23 p24 p25 p26 p27 p28 p29 p30))
      (ancepsref28_Compare.l28 p0 p1 p2 p3 p4 p5 p6 (0 : Int) p7 p8 p9 p10 p11 p12 p13 p14 p15 p16 p17 p18 p19 p20 p21 p22 p23 p24 p25 p26 p27 p28 p29 p30))))
   (ifB t239.1
     (ifB (!t241.1)
      (bindD ((ixAt p22 p6)) fun t260 =>
      bindD ((ixAt p22 p6)) fun t261 =>
      ifB t241.1
       (ifB (!t239.1)
        (bindD ((ixAt p22 p6)) fun t262 =>
        bindD ((ixAt p22 p6)) fun t263 =>
        ancepsref28_Compare.l28 p0 p1 p2 p3 (Go.IntKind.wrap Go.IntKind.i64 (p4 + t261)) (Go.IntKind.wrap Go.IntKind.i64 (p5 + t263)) p6 (0 : Int) p7 p8 p9 p10 p11 p12 p13 p14 p15 p16 p17 p18 p19 p20 p21 p22 p23 p24 p25 p26 p27 p28 p29 p30)
       (ancepsref28_Compare.l28 p0 p1 p2 p3 (Go.IntKind.wrap Go.IntKind.i64 (p4 + t261)) p5 p6 (0 : Int) p7 p8 p9 p10 p11 p12 p13 p14 p15 p16 p17 p18 p19 p20 p21 p22 p23 p24 p25 p26 p27 p28 p29 p30))
      (ancepsref28_Compare.l28 p0 p1 p2 p3 (Go.IntKind.wrap Go.IntKind.i64 (p4 + t261)) p5 p6 (0 : Int) p7 p8 p9 p10 p11 p12 p13 p14 p15 p16 p17 p18 p19 p20 p21 p22 p23 p24 p25 p26 p27 p28 p29 p30))
     (ifB t241.1
       (ifB (!t239.1)
        (bindD ((ixAt p22 p6)) fun t264 =>
        bindD ((ixAt p22 p6)) fun t265 =>
        ancepsref28_Compare.l28 p0 p1 p2 p3 p4 (Go.IntKind.wrap Go.IntKind.i64 (p5 + t265)) p6 (0 : Int) p7 p8 p9 p10 p11 p12 p13 p14 p15 p16 p17 p18 p19 p20 p21 p22 p23 p24 p25 p26 p27 p28 p29 p30)
       (ancepsref28_Compare.l28 p0 p1 p2 p3 p4 p5 p6 (0 : Int) p7 p8 p9 p10 p11 p12 p13 p14 p15 p16 p17 p18 p19 p20 p21 p22 p23 p24 p25 p26 p27 p28 p29 p30))
      (ancepsref28_Compare.l28 p0 p1 p2 p3 p4 p5 p6 (0 : Int) p7 p8 p9 p10 p11 p12 p13 p14 p15 p16 p17 p18 p19 p20 p21 p22 p23 p24 p25 p26 p27 p28 p29 p30)))
    (ifB t241.1
      (ifB (!t239.1)
       (bindD ((ixAt p22 p6)) fun t266 =>
       bindD ((ixAt p22 p6)) fun t267 =>
       ancepsref28_Compare.l28 p0 p1 p2 p3 p4 (Go.IntKind.wrap Go.IntKind.i64 (p5 + t267)) p6 (0 : Int) p7 p8 p9 p10 p11 p12 p13 p14 p15 p16 p17 p18 p19 p20 p21 p22 p23 p24 p25 p26 p27 p28 p29 p30)
      (ancepsref28_Compare.l28 p0 p1 p2 p3 p4 p5 p6 (0 : Int) p7 p8 p9 p10 p11 p12 p13 p14 p15 p16 p17 p18 p19 p20 p21 p22 p23 p24 p25 p26 p27 p28 p29 p30))
     (ancepsref28_Compare.l28 p0 p1 p2 p3 p4 p5 p6 (0 : Int) p7 p8 p9 p10 p11 p12 p13 p14 p15 p16 p17 p18 p19 p20 p21 p22 p23 p24 p25 p26 p27 p28 p29 p30))))
  (bindD ((Go.Proofs.R.grow ((List.length p28) + (List.length (p3 :: ([] : (List Int))))))) fun t268 =>
   bindD ((Go.Proofs.R.grow ((List.length p29) + (List.length (p4 :: ([] : (List Int))))))) fun t269 =>
   bindD ((Go.Proofs.R.grow ((List.length p30) + (List.length (p5 :: ([] : (List Int))))))) fun t270 =>
   ancepsref28_Compare.l13 p0 p1 (Go.IntKind.wrap Go.IntKind.i64 (p2 + (1 : Int))) p7 p8 p9 p10 p11 p12 p13 p14 p15 p16 p17 p18 p19 p20 p21 p23 p24 p25 p26 p27 (p28 ++ (p3 :: ([] : (List Int)))) (p29 ++ (p4 :: ([] : (List Int)))) (p30 ++ (p5 :: ([] : (List Int))))) := (loopAt_step Go.Proofs.C28.ctx 14 18 _).trans (by kernel_rfl)
theorem difference_order.f_eq (p0 : Int) (p1 : Int) (p2 : Int) (p3 : Int) : difference_order.f p0 p1 p2 p3 =
  bindD (cmp_Compare_int.f p0 p2) fun t279 =>
  bindD (cmp_Compare_int.f p1 p3) fun t280 =>
  bindD (cmp_Or_int.f (t279.1 :: (t280.1 :: ([] : (List Int))))) fun t281 =>
  some (t281.1, ()) := (Einf_call Go.Proofs.C28.ctx 62 _).trans (by kernel_rfl)
theorem difference_CheckWithin.l11_eq (p0 : (List (Int × Int))) (p1 : Int) (p2 : Int) (p3 : Int) (p4 : Int) (p5 : (List (List Int))) (p6 : (List Bool)) (p7 : Int) (p8 : Int) (p9 : (List (List Int))) (p10 : (List Bool)) (p11 : (List (Int × Int))) : difference_CheckWithin.l11 p0 p1 p2 p3 p4 p5 p6 p7 p8 p9 p10 p11 =
  ifB (decide (p2 < p1))
   (bindD ((ixAt p0 p2)) fun t282 =>
   bindD (difference_accepts.f p3 p4 p5 p6 t282.1) fun t283 =>
   ifB t283.1
    (bindD (difference_accepts.f p7 p8 p9 p10 t282.2) fun t284 =>
    ifB (!t284.1)
     (some (false, ()))
    (difference_CheckWithin.l16 p0 p1 p2 p3 (0 : Int) p3 p4 p5 p6 p7 p8 p9 p10 p11 t282.1 t282.2))
   (difference_CheckWithin.l16 p0 p1 p2 p3 (0 : Int) p3 p4 p5 p6 p7 p8 p9 p10 p11 t282.1 t282.2))
  (ifB (decide (p4 < (0 : Int)))
    (some (true, ()))
   (bindD (difference_CheckWithin_1.f p4 p8 p11) fun t285 =>
    some (t285.1, ()))) := (loopAt_step Go.Proofs.C28.ctx 27 11 _).trans (by kernel_rfl)
theorem ancepsref28_index.l2_eq (p0 : (List (Int × Int))) (p1 : Int) (p2 : Int) (p3 : Int) : ancepsref28_index.l2 p0 p1 p2 p3 =
  ifB (decide (p1 < (((List.length p0) : Nat) : Int)))
   (bindD ((ixAt p0 p1)) fun t286 =>
   ifB ((t286.1 == p2) && (t286.2 == p3))
    (some (p1, ()))
   (ancepsref28_index.l2 p0 (Go.IntKind.wrap Go.IntKind.i64 (p1 + (1 : Int))) p2 p3))
  (some ((-(1 : Int)), ())) := (loopAt_step Go.Proofs.C28.ctx 49 2 _).trans (by kernel_rfl)
theorem ancepsref28_less.f_eq (p0 : Int) (p1 : Int) (p2 : Int) (p3 : Int) : ancepsref28_less.f p0 p1 p2 p3 =
  ifB (decide (p0 < p2))
   (some (true, ()))
  (ifB (p0 == p2)
    (some ((decide (p1 < p3)), ()))
   (some (false, ()))) := (Einf_call Go.Proofs.C28.ctx 63 _).trans (by kernel_rfl)
theorem ancepsref28_CheckWithin.l10_eq (p0 : (List (Int × Int))) (p1 : Int) (p2 : Int) (p3 : Int) (p4 : Int) (p5 : (List (List Int))) (p6 : (List Bool)) (p7 : Int) (p8 : Int) (p9 : (List (List Int))) (p10 : (List Bool)) (p11 : Int) (p12 : Int) : ancepsref28_CheckWithin.l10 p0 p1 p2 p3 p4 p5 p6 p7 p8 p9 p10 p11 p12 =
  ifB (decide (p2 < p3))
   (bindD (ancepsref28_next.f p3 p4 p5 p6 p11 p2) fun t287 =>
   bindD (ancepsref28_next.f p7 p8 p9 p10 p12 p2) fun t288 =>
   ifB (decide (t287.1 ≥ (0 : Int)))
    (bindD (ancepsref28_index.f p0 t287.1 t288.1) fun t289 =>
    ifB (decide (t289.1 < (0 : Int)))
     (some (false, ()))
    (ancepsref28_CheckWithin.l10 p0 p1 (Go.IntKind.wrap Go.IntKind.i64 (p2 + (1 : Int))) p3 p4 p5 p6 p7 p8 p9 p10 p11 p12))
   (ancepsref28_CheckWithin.l10 p0 p1 (Go.IntKind.wrap Go.IntKind.i64 (p2 + (1 : Int))) p3 p4 p5 p6 p7 p8 p9 p10 p11 p12))
  (ancepsref28_CheckWithin.l4 p0 (Go.IntKind.wrap Go.IntKind.i64 (p1 + (1 : Int))) p3 p4 p5 p6 p7 p8 p9 p10) := (loopAt_step Go.Proofs.C28.ctx 29 10 _).trans (by kernel_rfl)
theorem ancepsref28_Simulation.l13_eq (p0 : (List (Int × Int))) (p1 : Int) (p2 : Int) (p3 : (List (Int × Int))) : ancepsref28_Simulation.l13 p0 p1 p2 p3 =
  ifB (decide (p2 > (0 : Int)))
   (bindD ((ixAt p0 p1)) fun t317 =>
   bindD ((ixAt p3 (Go.IntKind.wrap Go.IntKind.i64 (p2 - (1 : Int))))) fun t318 =>
   bindD ((ixAt p3 (Go.IntKind.wrap Go.IntKind.i64 (p2 - (1 : Int))))) fun t319 =>
   bindD (ancepsref28_less.f t317.1 t317.2 t319.1 t319.2) fun t320 =>
   ifB t320.1
    (ancepsref28_Simulation.l13 p0 p1 (Go.IntKind.wrap Go.IntKind.i64 (p2 - (1 : Int))) p3)
   (bindD ((subL p3 (0 : Int) p2)) fun t321 =>
    bindD ((Go.Proofs.R.grow ((List.length ([] : (List (Int × Int)))) + (List.length t321)))) fun t322 =>
    bindD ((ixAt p0 p1)) fun t323 =>
    bindD ((Go.Proofs.R.grow ((List.length (([] : (List (Int × Int))) ++ t321)) + (List.length ((t323.1, t323.2) :: ([] : (List (Int × Int)))))))) fun t324 =>
    bindD ((subL p3 p2 (((List.length p3) : Nat) : Int))) fun t325 =>
    bindD ((Go.Proofs.R.grow ((List.length ((([] : (List (Int × Int))) ++ t321) ++ ((t323.1, t323.2) :: ([] : (List (Int × Int)))))) + (List.length t325)))) fun t326 =>
    ancepsref28_Simulation.l9 p0 (Go.IntKind.wrap Go.IntKind.i64 (p1 + (1 : Int))) (((([] : (List (Int × Int))) ++ t321) ++ ((t323.1, t323.2) :: ([] : (List (Int × Int))))) ++ t325)))
  (bindD ((subL p3 (0 : Int) p2)) fun t327 =>
   bindD ((Go.Proofs.R.grow ((List.length ([] : (List (Int × Int)))) + (List.length t327)))) fun t328 =>
   bindD ((ixAt p0 p1)) fun t329 =>
   bindD ((Go.Proofs.R.grow ((List.length (([] : (List (Int × Int))) ++ t327)) + (List.length ((t329.1, t329.2) :: ([] : (List (Int × Int)))))))) fun t330 =>
   bindD ((subL p3 p2 (((List.length p3) : Nat) : Int))) fun t331 =>
   bindD ((Go.Proofs.R.grow ((List.length ((([] : (List (Int × Int))) ++ t327) ++ ((t329.1, t329.2) :: ([] : (List (Int × Int)))))) + (List.length t331)))) fun t332 =>
   ancepsref28_Simulation.l9 p0 (Go.IntKind.wrap Go.IntKind.i64 (p1 + (1 : Int))) (((([] : (List (Int × Int))) ++ t327) ++ ((t329.1, t329.2) :: ([] : (List (Int × Int))))) ++ t331)) := (loopAt_step Go.Proofs.C28.ctx 35 13 _).trans (by kernel_rfl)
theorem difference_side.l7_1_eq (p0 : Int) (p1 : Int) (p2 : Int) (p3 : (List (List Int))) (p4 : (List Bool)) (p5 : Int) (p6 : Int) (p7 : (List (List Int))) (p8 : (List Bool)) (p9 : (List ((Int × Int) × (Int × Int)))) (p10 : (List ((Int × Int) × Bool))) : difference_side.l7_1 p0 p1 p2 p3 p4 p5 p6 p7 p8 p9 p10 =
  ifB (decide (p0 < (((List.length p9) : Nat) : Int)))
   (difference_side.l10_1 p0 p1 (0 : Int) p1 p2 p3 p4 p5 p6 p7 p8 p9 p10)
  (some (p9, ())) := (loopAt_step Go.Proofs.C28.ctx 54 7 _).trans (by kernel_rfl)
theorem difference_accepts.f_eq (p0 : Int) (p1 : Int) (p2 : (List (List Int))) (p3 : (List Bool)) (p4 : Int) : difference_accepts.f p0 p1 p2 p3 p4 =
  ifB (decide (p4 ≥ (0 : Int)))
   (bindD ((ixAt p3 p4)) fun t333 =>
   some (t333, ()))
  (some (false, ())) := (Einf_call Go.Proofs.C28.ctx 42 _).trans (by kernel_rfl)
theorem difference_apart.l9_eq (p0 : Bool) (p1 : Int) (p2 : (List ((Int × Int) × (Int × Int)))) (p3 : (List Int)) : difference_apart.l9 p0 p1 p2 p3 =
  ifB (decide (p1 > (0 : Int)))
   (bindD ((ixAt p2 p1)) fun t334 =>
   bindD ((ixAt p2 p1)) fun t335 =>
   bindD ((Go.Proofs.R.grow ((List.length p3) + (List.length (t335.2.2 :: ([] : (List Int))))))) fun t336 =>
   bindD ((ixAt p2 p1)) fun t337 =>
   bindD ((ixAt p2 p1)) fun t338 =>
   difference_apart.l9 p0 t338.2.1 p2 (p3 ++ (t335.2.2 :: ([] : (List Int)))))
  (bindD ((Go.Proofs.R.grow (List.length p3))) fun t339 =>
   ifB p0
    (some ((Go.Proofs.R.revL p3), ((1 : Int), ())))
   (some ((Go.Proofs.R.revL p3), ((2 : Int), ())))) := (loopAt_step Go.Proofs.C28.ctx 39 9 _).trans (by kernel_rfl)
theorem ancepsref06_Valid.l7_eq (p0 : Int) (p1 : Int) (p2 : Int) (p3 : Int) (p4 : (List (List Int))) (p5 : (List Bool)) : ancepsref06_Valid.l7 p0 p1 p2 p3 p4 p5 =
  ifB (decide (p1 < p0))
   (bindD ((ixAt p4 p1)) fun t340 =>
   ifB ((((List.length t340) : Nat) : Int) != p2)
    (some ((1 : Int), ()))
   (ancepsref06_Valid.l12 p0 p1 (0 : Int) p2 p3 p4 p5))
  (some ((0 : Int), ())) := (loopAt_step Go.Proofs.C28.ctx 69 7 _).trans (by kernel_rfl)
theorem difference_visit_70.f1_eq (p0 : (List ((Int × Int) × (Int × Int)))) (p1 : Int) (p2 : Int) (p3 : (List (List Int))) (p4 : (List Bool)) (p5 : Int) (p6 : Int) (p7 : (List (List Int))) (p8 : (List Bool)) : difference_visit_70.f1 p0 p1 p2 p3 p4 p5 p6 p7 p8 =
  difference_visit_70.l2_1 p0 p1 p2 p3 p4 p5 p6 p7 p8 (((List.length p0) : Nat) : Int) (0 : Int) := (Einf_call Go.Proofs.C28.ctx 70 _).trans (by kernel_rfl)
theorem difference_side.l10_eq (p0 : Int) (p1 : Int) (p2 : Int) (p3 : Int) (p4 : Int) (p5 : (List (List Int))) (p6 : (List Bool)) (p7 : Int) (p8 : Int) (p9 : (List (List Int))) (p10 : (List Bool)) (p11 : (List ((Int × Int) × (Int × Int)))) (p12 : (List ((Int × Int) × Bool))) : difference_side.l10 p0 p1 p2 p3 p4 p5 p6 p7 p8 p9 p10 p11 p12 =
  ifB (decide (p2 < p1))
   (bindD ((ixAt p11 p0)) fun t341 =>
   bindD ((ixAt p11 p0)) fun t342 =>
   bindD (difference_step.f p3 p4 p5 p6 t342.1.1 p2) fun t343 =>
   bindD ((ixAt p11 p0)) fun t344 =>
   bindD ((ixAt p11 p0)) fun t345 =>
   bindD (difference_step.f p7 p8 p9 p10 t345.1.2 p2) fun t346 =>
   bindD (difference_left.f t343.1 t346.1) fun t347 =>
   ifB t347.1
    (ifB (!(Go.Proofs.R.mget (Go.Proofs.R.Ty.pair (Go.Proofs.R.Ty.int Go.IntKind.i64) (Go.Proofs.R.Ty.int Go.IntKind.i64)) false (t343.1, t346.1) p12).1)
     (bindD ((Go.Proofs.R.grow ((List.length p11) + (List.length (((t343.1, t346.1), (p0, p2)) :: ([] : (List ((Int × Int) × (Int × Int))))))))) fun t348 =>
     difference_side.l10 p0 p1 (Go.IntKind.wrap Go.IntKind.i64 (p2 + (1 : Int))) p3 p4 p5 p6 p7 p8 p9 p10 (p11 ++ (((t343.1, t346.1), (p0, p2)) :: ([] : (List ((Int × Int) × (Int × Int)))))) (Go.Proofs.R.mput (Go.Proofs.R.Ty.pair (Go.Proofs.R.Ty.int Go.IntKind.i64) (Go.Proofs.R.Ty.int Go.IntKind.i64)) (t343.1, t346.1) true p12))
    (difference_side.l10 p0 p1 (Go.IntKind.wrap Go.IntKind.i64 (p2 + (1 : Int))) p3 p4 p5 p6 p7 p8 p9 p10 p11 p12))
   (difference_side.l10 p0 p1 (Go.IntKind.wrap Go.IntKind.i64 (p2 + (1 : Int))) p3 p4 p5 p6 p7 p8 p9 p10 p11 p12))
  (difference_side.l7 (Go.IntKind.wrap Go.IntKind.i64 (p0 + (1 : Int))) p3 p4 p5 p6 p7 p8 p9 p10 p11 p12) := (loopAt_step Go.Proofs.C28.ctx 54 10 _).trans (by kernel_rfl)
theorem ancepsref28_reach.l9_eq (p0 : Int) (p1 : Int) (p2 : Int) (p3 : Int) (p4 : (List (List Int))) (p5 : (List Bool)) (p6 : Int) (p7 : Int) (p8 : (List (List Int))) (p9 : (List Bool)) (p10 : (List (Int × Int))) (p11 : (List (List Int))) (p12 : (List (Int × Int))) (p13 : (List (List Int))) : ancepsref28_reach.l9 p0 p1 p2 p3 p4 p5 p6 p7 p8 p9 p10 p11 p12 p13 =
  ifB (decide (p1 < p2))
   (bindD ((ixAt p12 p0)) fun t351 =>
   bindD ((ixAt p12 p0)) fun t352 =>
   bindD (ancepsref28_next.f p2 p3 p4 p5 t352.1 p1) fun t353 =>
   bindD ((ixAt p12 p0)) fun t354 =>
   bindD ((ixAt p12 p0)) fun t355 =>
   bindD (ancepsref28_next.f p6 p7 p8 p9 t355.2 p1) fun t356 =>
   ifB (decide (t353.1 < (0 : Int)))
    (ifB (decide (t356.1 < (0 : Int)))
     (ancepsref28_reach.l9 p0 (Go.IntKind.wrap Go.IntKind.i64 (p1 + (1 : Int))) p2 p3 p4 p5 p6 p7 p8 p9 p10 p11 p12 p13)
    (bindD (ancepsref28_index.f p12 t353.1 t356.1) fun t357 =>
     ifB (decide (t357.1 ≥ (0 : Int)))
      (ancepsref28_reach.l9 p0 (Go.IntKind.wrap Go.IntKind.i64 (p1 + (1 : Int))) p2 p3 p4 p5 p6 p7 p8 p9 p10 p11 p12 p13)
     (bindD ((Go.Proofs.R.grow ((List.length p12) + (List.length ((t353.1, t356.1) :: ([] : (List (Int × Int)))))))) fun t358 =>
      bindD ((ixAt p13 p0)) fun t359 =>
      bindD ((ixAt p13 p0)) fun t360 =>
      bindD ((Go.Proofs.R.grow ((List.length ([] : (List Int))) + (List.length t360)))) fun t361 =>
      bindD ((Go.Proofs.R.grow ((List.length (([] : (List Int)) ++ t360)) + (List.length (p1 :: ([] : (List Int))))))) fun t362 =>
      bindD ((Go.Proofs.R.grow ((List.length p13) + (List.length (((([] : (List Int)) ++ t360) ++ (p1 :: ([] : (List Int)))) :: ([] : (List (List Int)))))))) fun t363 =>
      ancepsref28_reach.l9 p0 (Go.IntKind.wrap Go.IntKind.i64 (p1 + (1 : Int))) p2 p3 p4 p5 p6 p7 p8 p9 p10 p11 (p12 ++ ((t353.1, t356.1) :: ([] : (List (Int × Int))))) (p13 ++ (((([] : (List Int)) ++ t360) ++ (p1 :: ([] : (List Int)))) :: ([] : (List (List Int))))))))
   (bindD (ancepsref28_index.f p12 t353.1 t356.1) fun t364 =>
    ifB (decide (t364.1 ≥ (0 : Int)))
     (ancepsref28_reach.l9 p0 (Go.IntKind.wrap Go.IntKind.i64 (p1 + (1 : Int))) p2 p3 p4 p5 p6 p7 p8 p9 p10 p11 p12 p13)
    (bindD ((Go.Proofs.R.grow ((List.length p12) + (List.length ((t353.1, t356.1) :: ([] : (List (Int × Int)))))))) fun t365 =>
     bindD ((ixAt p13 p0)) fun t366 =>
     bindD ((ixAt p13 p0)) fun t367 =>
     bindD ((Go.Proofs.R.grow ((List.length ([] : (List Int))) + (List.length t367)))) fun t368 =>
     bindD ((Go.Proofs.R.grow ((List.length (([] : (List Int)) ++ t367)) + (List.length (p1 :: ([] : (List Int))))))) fun t369 =>
     bindD ((Go.Proofs.R.grow ((List.length p13) + (List.length (((([] : (List Int)) ++ t367) ++ (p1 :: ([] : (List Int)))) :: ([] : (List (List Int)))))))) fun t370 =>
     ancepsref28_reach.l9 p0 (Go.IntKind.wrap Go.IntKind.i64 (p1 + (1 : Int))) p2 p3 p4 p5 p6 p7 p8 p9 p10 p11 (p12 ++ ((t353.1, t356.1) :: ([] : (List (Int × Int))))) (p13 ++ (((([] : (List Int)) ++ t367) ++ (p1 :: ([] : (List Int)))) :: ([] : (List (List Int))))))))
  (ancepsref28_reach.l6 (Go.IntKind.wrap Go.IntKind.i64 (p0 + (1 : Int))) p2 p3 p4 p5 p6 p7 p8 p9 p10 p11 p12 p13) := (loopAt_step Go.Proofs.C28.ctx 47 9 _).trans (by kernel_rfl)
theorem slices_ContainsFunc_int_int.f_eq (p0 : (List Int)) (p1 : Int) : slices_ContainsFunc_int_int.f p0 p1 =
  bindD (slices_IndexFunc_int_int.f p0 p1) fun t371 =>
  some ((decide (t371.1 ≥ (0 : Int))), ()) := (Einf_call Go.Proofs.C28.ctx 71 _).trans (by kernel_rfl)
theorem difference_Compare.l27_eq (p0 : Int) (p1 : Int) (p2 : Int) (p3 : Int) (p4 : Int) (p5 : Int) (p6 : Int) (p7 : Int) (p8 : Int) (p9 : Int) (p10 : (List (List Int))) (p11 : (List Bool)) (p12 : Int) (p13 : Int) (p14 : (List (List Int))) (p15 : (List Bool)) (p16 : Bool) (p17 : Bool) (p18 : Bool) (p19 : Bool) (p20 : Bool) (p21 : Bool) (p22 : (List ((Int × Int) × Int))) (p23 : Int) (p24 : Int) (p25 : Nat) (p26 : (List Nat)) (p27 : (List Int)) (p28 : (List Int)) (p29 : (List Int)) (p30 : (List Int)) (p31 : (List Int)) (p32 : (List Int)) (p33 : (List Int)) (p34 : (List Int)) (p35 : (List ((Int × Int) × Int))) : difference_Compare.l27 p0 p1 p2 p3 p4 p5 p6 p7 p8 p9 p10 p11 p12 p13 p14 p15 p16 p17 p18 p19 p20 p21 p22 p23 p24 p25 p26 p27 p28 p29 p30 p31 p32 p33 p34 p35 =
  ifB (decide (p7 < p6))
   (bindD (difference_step.f p8 p9 p10 p11 p23 p7) fun t374 =>
   bindD (difference_step.f p12 p13 p14 p15 p24 p7) fun t375 =>
   bindD (difference_either.f t374.1 t375.1) fun t376 =>
   ifB t376.1
    (bindD ((Go.Proofs.R.mstore (Go.Proofs.R.mput (Go.Proofs.R.Ty.pair (Go.Proofs.R.Ty.int Go.IntKind.i64) (Go.Proofs.R.Ty.int Go.IntKind.i64)) (t374.1, t375.1) (Go.Proofs.R.mget (Go.Proofs.R.Ty.pair (Go.Proofs.R.Ty.int Go.IntKind.i64) (Go.Proofs.R.Ty.int Go.IntKind.i64)) (0 : Int) (t374.1, t375.1) p22).1 p22) (((Go.Proofs.R.mfind (Go.Proofs.R.Ty.pair (Go.Proofs.R.Ty.int Go.IntKind.i64) (Go.Proofs.R.Ty.int Go.IntKind.i64)) (t374.1, t375.1) p22) : Nat) : Int) (Go.IntKind.wrap Go.IntKind.i64 ((Go.Proofs.R.mget (Go.Proofs.R.Ty.pair (Go.Proofs.R.Ty.int Go.IntKind.i64) (Go.Proofs.R.Ty.int Go.IntKind.i64)) (0 : Int) (t374.1, t375.1) p22).1 + p3)))) fun t377 =>
    difference_Compare.l27 p0 p1 p2 p3 p4 p5 p6 (Go.IntKind.wrap Go.IntKind.i64 (p7 + (1 : Int))) p8 p9 p10 p11 p12 p13 p14 p15 p16 p17 p18 p19 p20 p21 t377 p23 p24 p25 p26 p27 p28 p29 p30 p31 p32 p33 p34 p35)
   (difference_Compare.l27 p0 p1 p2 p3 p4 p5 p6 (Go.IntKind.wrap Go.IntKind.i64 (p7 + (1 : Int))) p8 p9 p10 p11 p12 p13 p14 p15 p16 p17 p18 p19 p20 p21 p22 p23 p24 p25 p26 p27 p28 p29 p30 p31 p32 p33 p34 p35))
  (difference_Compare.l17 p0 p1 p2 p4 p5 p8 p9 p10 p11 p12 p13 p14 p15 p16 p17 p18 p19 p20 p21 p22 p25 p26 p27 p28 p29 p30 p31 p32 p33 p34 p35) := (loopAt_step Go.Proofs.C28.ctx 13 27 _).trans (by kernel_rfl)
theorem ancepsref28_Compare.l28_eq (p0 : Int) (p1 : (List (Int × Int))) (p2 : Int) (p3 : Int) (p4 : Int) (p5 : Int) (p6 : Int) (p7 : Int) (p8 : Int) (p9 : Int) (p10 : (List (List Int))) (p11 : (List Bool)) (p12 : Int) (p13 : Int) (p14 : (List (List Int))) (p15 : (List Bool)) (p16 : Bool) (p17 : Bool) (p18 : Bool) (p19 : Bool) (p20 : Bool) (p21 : Bool) (p22 : (List Int)) (p23 : (List Int)) (p24 : (List Int)) (p25 : (List Int)) (p26 : (List Int)) (p27 : (List Int)) (p28 : (List Int)) (p29 : (List Int)) (p30 : (List Int)) (p31 : (List Int)) : ancepsref28_Compare.l28 p0 p1 p2 p3 p4 p5 p6 p7 p8 p9 p10 p11 p12 p13 p14 p15 p16 p17 p18 p19 p20 p21 p22 p23 p24 p25 p26 p27 p28 p29 p30 p31 =
  ifB (decide (p7 < p8))
   (bindD ((ixAt p23 p6)) fun t378 =>
   bindD ((ixAt p23 p6)) fun t379 =>
   ifB (decide (t379 > (0 : Int)))
    (bindD ((ixAt p1 p6)) fun t380 =>
    bindD (ancepsref28_next.f p8 p9 p10 p11 t380.1 p7) fun t381 =>
    bindD ((ixAt p1 p6)) fun t382 =>
    bindD (ancepsref28_next.f p12 p13 p14 p15 t382.2 p7) fun t383 =>
    bindD (ancepsref28_index.f p1 t381.1 t383.1) fun t384 =>
    ifB (decide (t384.1 ≥ (0 : Int)))
     (bindD ((ixAt p24 t384.1)) fun t385 =>
     bindD ((ixAt p24 t384.1)) fun t386 =>
     bindD ((ixAt p23 p6)) fun t387 =>
     bindD ((ixAt p23 p6)) fun t388 =>
     bindD ((ixAt p24 t384.1)) fun t389 =>
     bindD ((ixAt p24 t384.1)) fun t390 =>
     ancepsref28_Compare.l28 p0 p1 p2 p3 p4 p5 p6 (Go.IntKind.wrap Go.IntKind.i64 (p7 + (1 : Int))) p8 p9 p10 p11 p12 p13 p14 p15 p16 p17 p18 p19 p20 p21 p22 p23 (setRow p24 t384.1 (Go.IntKind.wrap Go.IntKind.i64 (t386 + t388))) p25 p26 p27 p28 p29 p30 p31)
    (ancepsref28_Compare.l28 p0 p1 p2 p3 p4 p5 p6 (Go.IntKind.wrap Go.IntKind.i64 (p7 + (1 : Int))) p8 p9 p10 p11 p12 p13 p14 p15 p16 p17 p18 p19 p20 p21 p22 p23 p24 p25 p26 p27 p28 p29 p30 p31))
   (ancepsref28_Compare.l18 p0 p1 p2 p3 p4 p5 (Go.IntKind.wrap Go.IntKind.i64 (p6 + (1 : Int))) p8 p9 p10 p11 p12 p13 p14 p15 p16 p17 p18 p19 p20 p21 p22 p23 p24 p25 p26 p27 p28 p29 p30 p31))
  (ancepsref28_Compare.l18 p0 p1 p2 p3 p4 p5 (Go.IntKind.wrap Go.IntKind.i64 (p6 + (1 : Int))) p8 p9 p10 p11 p12 p13 p14 p15 p16 p17 p18 p19 p20 p21 p22 p23 p24 p25 p26 p27 p28 p29 p30 p31) := (loopAt_step Go.Proofs.C28.ctx 14 28 _).trans (by kernel_rfl)
theorem cmp_Compare_int.f_eq (p0 : Int) (p1 : Int) : cmp_Compare_int.f p0 p1 =
  bindD (cmp_isNaN_int.f p0) fun t391 =>
  bindD (cmp_isNaN_int.f p1) fun t392 =>
  ifB t391.1
   (ifB t392.1
    (some ((0 : Int), ()))
   (some ((-(1 : Int)), ())))
  (ifB t392.1
    (some ((1 : Int), ()))
   (ifB (decide (p0 < p1))
     (some ((-(1 : Int)), ()))
    (ifB (decide (p0 > p1))
      (some ((1 : Int), ()))
     (some ((0 : Int), ()))))) := (Einf_call Go.Proofs.C28.ctx 75 _).trans (by kernel_rfl)
theorem cmp_Or_int.f_eq (p0 : (List Int)) : cmp_Or_int.f p0 =
  cmp_Or_int.l3 (0 : Int) p0 (((List.length p0) : Nat) : Int) (0 : Int) := (Einf_call Go.Proofs.C28.ctx 74 _).trans (by kernel_rfl)
theorem difference_CheckWithin.l16_eq (p0 : (List (Int × Int))) (p1 : Int) (p2 : Int) (p3 : Int) (p4 : Int) (p5 : Int) (p6 : Int) (p7 : (List (List Int))) (p8 : (List Bool)) (p9 : Int) (p10 : Int) (p11 : (List (List Int))) (p12 : (List Bool)) (p13 : (List (Int × Int))) (p14 : Int) (p15 : Int) : difference_CheckWithin.l16 p0 p1 p2 p3 p4 p5 p6 p7 p8 p9 p10 p11 p12 p13 p14 p15 =
  ifB (decide (p4 < p3))
   (bindD (difference_step.f p5 p6 p7 p8 p14 p4) fun t393 =>
   bindD (difference_step.f p9 p10 p11 p12 p15 p4) fun t394 =>
   ifB (decide (t393.1 ≥ (0 : Int)))
    (bindD (difference_CheckWithin_1.f t393.1 t394.1 p13) fun t395 =>
    ifB (!t395.1)
     (some (false, ()))
    (difference_CheckWithin.l16 p0 p1 p2 p3 (Go.IntKind.wrap Go.IntKind.i64 (p4 + (1 : Int))) p5 p6 p7 p8 p9 p10 p11 p12 p13 p14 p15))
   (difference_CheckWithin.l16 p0 p1 p2 p3 (Go.IntKind.wrap Go.IntKind.i64 (p4 + (1 : Int))) p5 p6 p7 p8 p9 p10 p11 p12 p13 p14 p15))
  (difference_CheckWithin.l11 p0 p1 (Go.IntKind.wrap Go.IntKind.i64 (p2 + (1 : Int))) p5 p6 p7 p8 p9 p10 p11 p12 p13) := (loopAt_step Go.Proofs.C28.ctx 27 16 _).trans (by kernel_rfl)
theorem difference_CheckWithin_1.f_eq (p0 : Int) (p1 : Int) (p2 : (List (Int × Int))) : difference_CheckWithin_1.f p0 p1 p2 =
  bindD (api_Pair_61.f p2 p0 p1) fun t396 =>
  some (t396.2.1, ()) := (Einf_call Go.Proofs.C28.ctx 60 _).trans (by kernel_rfl)
theorem ancepsref28_next.f_eq (p0 : Int) (p1 : Int) (p2 : (List (List Int))) (p3 : (List Bool)) (p4 : Int) (p5 : Int) : ancepsref28_next.f p0 p1 p2 p3 p4 p5 =
  ifB (decide (p4 < (0 : Int)))
   (some ((-(1 : Int)), ()))
  (bindD ((ixAt p2 p4)) fun t397 =>
   bindD ((ixAt t397 p5)) fun t398 =>
   some (t398, ())) := (Einf_call Go.Proofs.C28.ctx 50 _).trans (by kernel_rfl)
theorem difference_side.l10_1_eq (p0 : Int) (p1 : Int) (p2 : Int) (p3 : Int) (p4 : Int) (p5 : (List (List Int))) (p6 : (List Bool)) (p7 : Int) (p8 : Int) (p9 : (List (List Int))) (p10 : (List Bool)) (p11 : (List ((Int × Int) × (Int × Int)))) (p12 : (List ((Int × Int) × Bool))) : difference_side.l10_1 p0 p1 p2 p3 p4 p5 p6 p7 p8 p9 p10 p11 p12 =
  ifB (decide (p2 < p1))
   (bindD ((ixAt p11 p0)) fun t411 =>
   bindD ((ixAt p11 p0)) fun t412 =>
   bindD (difference_step.f p3 p4 p5 p6 t412.1.1 p2) fun t413 =>
   bindD ((ixAt p11 p0)) fun t414 =>
   bindD ((ixAt p11 p0)) fun t415 =>
   bindD (difference_step.f p7 p8 p9 p10 t415.1.2 p2) fun t416 =>
   bindD (difference_either.f t413.1 t416.1) fun t417 =>
   ifB t417.1
    (ifB (!(Go.Proofs.R.mget (Go.Proofs.R.Ty.pair (Go.Proofs.R.Ty.int Go.IntKind.i64) (Go.Proofs.R.Ty.int Go.IntKind.i64)) false (t413.1, t416.1) p12).1)
     (bindD ((Go.Proofs.R.grow ((List.length p11) + (List.length (((t413.1, t416.1), (p0, p2)) :: ([] : (List ((Int × Int) × (Int × Int))))))))) fun t418 =>
     difference_side.l10_1 p0 p1 (Go.IntKind.wrap Go.IntKind.i64 (p2 + (1 : Int))) p3 p4 p5 p6 p7 p8 p9 p10 (p11 ++ (((t413.1, t416.1), (p0, p2)) :: ([] : (List ((Int × Int) × (Int × Int)))))) (Go.Proofs.R.mput (Go.Proofs.R.Ty.pair (Go.Proofs.R.Ty.int Go.IntKind.i64) (Go.Proofs.R.Ty.int Go.IntKind.i64)) (t413.1, t416.1) true p12))
    (difference_side.l10_1 p0 p1 (Go.IntKind.wrap Go.IntKind.i64 (p2 + (1 : Int))) p3 p4 p5 p6 p7 p8 p9 p10 p11 p12))
   (difference_side.l10_1 p0 p1 (Go.IntKind.wrap Go.IntKind.i64 (p2 + (1 : Int))) p3 p4 p5 p6 p7 p8 p9 p10 p11 p12))
  (difference_side.l7_1 (Go.IntKind.wrap Go.IntKind.i64 (p0 + (1 : Int))) p3 p4 p5 p6 p7 p8 p9 p10 p11 p12) := (loopAt_step Go.Proofs.C28.ctx 54 10 _).trans (by kernel_rfl)
theorem ancepsref06_Valid.l12_eq (p0 : Int) (p1 : Int) (p2 : Int) (p3 : Int) (p4 : Int) (p5 : (List (List Int))) (p6 : (List Bool)) : ancepsref06_Valid.l12 p0 p1 p2 p3 p4 p5 p6 =
  ifB (decide (p2 < p3))
   (bindD ((ixAt p5 p1)) fun t419 =>
   bindD ((ixAt t419 p2)) fun t420 =>
   ifB (decide (t420 < (-(1 : Int))))
    (some ((1 : Int), ()))
   (bindD ((ixAt p5 p1)) fun t421 =>
    bindD ((ixAt t421 p2)) fun t422 =>
    ifB (decide (t422 ≥ p0))
     (some ((1 : Int), ()))
    (ancepsref06_Valid.l12 p0 p1 (Go.IntKind.wrap Go.IntKind.i64 (p2 + (1 : Int))) p3 p4 p5 p6)))
  (ancepsref06_Valid.l7 p0 (Go.IntKind.wrap Go.IntKind.i64 (p1 + (1 : Int))) p3 p4 p5 p6) := (loopAt_step Go.Proofs.C28.ctx 69 12 _).trans (by kernel_rfl)
theorem difference_visit_70.l2_1_eq (p0 : (List ((Int × Int) × (Int × Int)))) (p1 : Int) (p2 : Int) (p3 : (List (List Int))) (p4 : (List Bool)) (p5 : Int) (p6 : Int) (p7 : (List (List Int))) (p8 : (List Bool)) (p9 : Int) (p10 : Int) : difference_visit_70.l2_1 p0 p1 p2 p3 p4 p5 p6 p7 p8 p9 p10 =
  ifB (decide (p10 < p9))
   (bindD ((ixAt p0 p10)) fun t423 =>
   bindD (difference_within_1.f t423.1.1 t423.1.2 t423.2.1 t423.2.2 p1 p2 p3 p4 p5 p6 p7 p8) fun t424 =>
   ifB t424.1
    (some (p10, ()))
   (difference_visit_70.l2_1 p0 p1 p2 p3 p4 p5 p6 p7 p8 p9 (Go.IntKind.wrap Go.IntKind.i64 (p10 + (1 : Int)))))
  (some ((-(1 : Int)), ())) := (loopAt_step Go.Proofs.C28.ctx 70 2 _).trans (by kernel_rfl)
theorem difference_step.f_eq (p0 : Int) (p1 : Int) (p2 : (List (List Int))) (p3 : (List Bool)) (p4 : Int) (p5 : Int) : difference_step.f p0 p1 p2 p3 p4 p5 =
  ifB (decide (p4 < (0 : Int)))
   (some ((-(1 : Int)), ()))
  (bindD ((ixAt p2 p4)) fun t425 =>
   bindD ((ixAt t425 p5)) fun t426 =>
   some (t426, ())) := (Einf_call Go.Proofs.C28.ctx 43 _).trans (by kernel_rfl)
theorem slices_IndexFunc_int_int.f_eq (p0 : (List Int)) (p1 : Int) : slices_IndexFunc_int_int.f p0 p1 =
  slices_IndexFunc_int_int.l2 p0 p1 (((List.length p0) : Nat) : Int) (0 : Int) := (Einf_call Go.Proofs.C28.ctx 82 _).trans (by kernel_rfl)
theorem cmp_isNaN_int.f_eq (p0 : Int) : cmp_isNaN_int.f p0 =
  some ((p0 != p0), ()) := (Einf_call Go.Proofs.C28.ctx 83 _).trans (by kernel_rfl)
theorem cmp_Or_int.l3_eq (p0 : Int) (p1 : (List Int)) (p2 : Int) (p3 : Int) : cmp_Or_int.l3 p0 p1 p2 p3 =
  ifB (decide (p3 < p2))
   (bindD ((ixAt p1 p3)) fun t429 =>
   ifB (t429 != p0)
    (some (t429, ()))
   (cmp_Or_int.l3 p0 p1 p2 (Go.IntKind.wrap Go.IntKind.i64 (p3 + (1 : Int)))))
  (some (p0, ())) := (loopAt_step Go.Proofs.C28.ctx 74 3 _).trans (by kernel_rfl)
theorem api_Pair_61.f_eq (p0 : (List (Int × Int))) (p1 : Int) (p2 : Int) : api_Pair_61.f p0 p1 p2 =
  api_Pair_61.l3 p0 (((List.length p0) : Nat) : Int) (0 : Int) (((List.length p0) : Nat) : Int) p1 p2 := (Einf_call Go.Proofs.C28.ctx 61 _).trans (by kernel_rfl)
theorem difference_within_1.f_eq (p0 : Int) (p1 : Int) (p2 : Int) (p3 : Int) (p4 : Int) (p5 : Int) (p6 : (List (List Int))) (p7 : (List Bool)) (p8 : Int) (p9 : Int) (p10 : (List (List Int))) (p11 : (List Bool)) : difference_within_1.f p0 p1 p2 p3 p4 p5 p6 p7 p8 p9 p10 p11 =
  bindD (difference_accepts.f p4 p5 p6 p7 p0) fun t473 =>
  ifB t473.1
   (bindD (difference_accepts.f p8 p9 p10 p11 p1) fun t474 =>
   some ((!t474.1), ()))
  (some (false, ())) := (Einf_call Go.Proofs.C28.ctx 68 _).trans (by kernel_rfl)
theorem slices_IndexFunc_int_int.l2_eq (p0 : (List Int)) (p1 : Int) (p2 : Int) (p3 : Int) : slices_IndexFunc_int_int.l2 p0 p1 p2 p3 =
  ifB (decide (p3 < p2))
   (bindD ((ixAt p0 p3)) fun t475 =>
   bindD (automaton_Valid_1.f t475 p1) fun t476 =>
   ifB t476.1
    (some (p3, ()))
   (slices_IndexFunc_int_int.l2 p0 p1 p2 (Go.IntKind.wrap Go.IntKind.i64 (p3 + (1 : Int)))))
  (some ((-(1 : Int)), ())) := (loopAt_step Go.Proofs.C28.ctx 82 2 _).trans (by kernel_rfl)
theorem api_Pair_61.l3_eq (p0 : (List (Int × Int))) (p1 : Int) (p2 : Int) (p3 : Int) (p4 : Int) (p5 : Int) : api_Pair_61.l3 p0 p1 p2 p3 p4 p5 =
  ifB (decide (p2 < p3))
   (bindD ((ixAt p0 (Go.IntKind.wrap Go.IntKind.i64 (Go.Proofs.R.shrInt Go.IntKind.u64 (Go.IntKind.wrap Go.IntKind.u64 (Go.IntKind.wrap Go.IntKind.i64 (p2 + p3))) (1 : Int))))) fun t477 =>
   bindD (difference_order.f t477.1 t477.2 p4 p5) fun t478 =>
   ifB (decide (t478.1 < (0 : Int)))
    (api_Pair_61.l3 p0 p1 (Go.IntKind.wrap Go.IntKind.i64 ((Go.IntKind.wrap Go.IntKind.i64 (Go.Proofs.R.shrInt Go.IntKind.u64 (Go.IntKind.wrap Go.IntKind.u64 (Go.IntKind.wrap Go.IntKind.i64 (p2 + p3))) (1 : Int))) + (1 : Int))) p3 p4 p5)
   (api_Pair_61.l3 p0 p1 p2 (Go.IntKind.wrap Go.IntKind.i64 (Go.Proofs.R.shrInt Go.IntKind.u64 (Go.IntKind.wrap Go.IntKind.u64 (Go.IntKind.wrap Go.IntKind.i64 (p2 + p3))) (1 : Int))) p4 p5))
  (ifB (decide (p2 < p1))
    (bindD ((ixAt p0 p2)) fun t479 =>
    bindD (difference_order.f t479.1 t479.2 p4 p5) fun t480 =>
    some (p2, ((t480.1 == (0 : Int)), ())))
   (some (p2, (false, ())))) := (loopAt_step Go.Proofs.C28.ctx 61 3 _).trans (by kernel_rfl)
theorem automaton_Valid_1.f_eq (p0 : Int) (p1 : Int) : automaton_Valid_1.f p0 p1 =
  ifB (decide (p0 < (-(1 : Int))))
   (some (true, ()))
  (some ((decide (p0 ≥ p1)), ())) := (Einf_call Go.Proofs.C28.ctx 72 _).trans (by kernel_rfl)
end Go.Proofs.C28
