/- C06B: what the row's functions are, as the evaluator tells them. No condition. -/
import Derived.Test.YtbbikmikiefcoaaC06
set_option linter.unusedVariables false
set_option linter.unusedSimpArgs false
set_option maxRecDepth 100000
set_option linter.unusedVariables false
namespace Go.Proofs.C06
open Go Go.Proofs.R
noncomputable def ancepslaw06_AutomatonRelation.f (p0 : Int) (p1 : Int) (p2 : (List (List Int))) (p3 : (List Bool)) (p4 : Int) (p5 : Int) (p6 : (List (List Int))) (p7 : (List Bool)) : Option (Bool × Unit) := (Go.Proofs.R.Einf Go.Proofs.C06.ctx).call 10 [(.agg [(.v (.int .i64) p0), (.v (.int .i64) p1), (.v (.sl (.sl (.int .i64))) p2), (.v (.sl .bool) p3)]), (.agg [(.v (.int .i64) p4), (.v (.int .i64) p5), (.v (.sl (.sl (.int .i64))) p6), (.v (.sl .bool) p7)])]
noncomputable def ancepslaw06_awake.f : Option (Bool × Unit) := (Go.Proofs.R.Einf Go.Proofs.C06.ctx).call 12 []
noncomputable def ancepsref06_Few.f (p0 : Int) (p1 : Int) (p2 : (List (List Int))) (p3 : (List Bool)) : Option (Bool × Unit) := (Go.Proofs.R.Einf Go.Proofs.C06.ctx).call 17 [(.agg [(.v (.int .i64) p0), (.v (.int .i64) p1), (.v (.sl (.sl (.int .i64))) p2), (.v (.sl .bool) p3)])]
noncomputable def ancepslaw06_copied.f (p0 : Int) (p1 : Int) (p2 : (List (List Int))) (p3 : (List Bool)) : Option (Int × (Int × ((List (List Int)) × ((List Bool) × Unit)))) := (Go.Proofs.R.Einf Go.Proofs.C06.ctx).call 19 [(.agg [(.v (.int .i64) p0), (.v (.int .i64) p1), (.v (.sl (.sl (.int .i64))) p2), (.v (.sl .bool) p3)])]
noncomputable def automaton_Valid.f (p0 : Int) (p1 : Int) (p2 : (List (List Int))) (p3 : (List Bool)) : Option (Int × Unit) := (Go.Proofs.R.Einf Go.Proofs.C06.ctx).call 18 [(.agg [(.v (.int .i64) p0), (.v (.int .i64) p1), (.v (.sl (.sl (.int .i64))) p2), (.v (.sl .bool) p3)])]
noncomputable def ancepsref06_Valid.f (p0 : Int) (p1 : Int) (p2 : (List (List Int))) (p3 : (List Bool)) : Option (Int × Unit) := (Go.Proofs.R.Einf Go.Proofs.C06.ctx).call 20 [(.agg [(.v (.int .i64) p0), (.v (.int .i64) p1), (.v (.sl (.sl (.int .i64))) p2), (.v (.sl .bool) p3)])]
noncomputable def slices_Clone_int_int.f (p0 : (List Int)) : Option ((List Int) × Unit) := (Go.Proofs.R.Einf Go.Proofs.C06.ctx).call 22 [(.one (.v (.sl (.int .i64)) p0))]
noncomputable def ancepslaw06_small.f (p0 : Int) (p1 : Int) (p2 : (List (List Int))) (p3 : (List Bool)) (p4 : Int) (p5 : Int) (p6 : (List (List Int))) (p7 : (List Bool)) : Option (Bool × Unit) := (Go.Proofs.R.Einf Go.Proofs.C06.ctx).call 27 [(.agg [(.v (.int .i64) p0), (.v (.int .i64) p1), (.v (.sl (.sl (.int .i64))) p2), (.v (.sl .bool) p3)]), (.agg [(.v (.int .i64) p4), (.v (.int .i64) p5), (.v (.sl (.sl (.int .i64))) p6), (.v (.sl .bool) p7)])]
noncomputable def automaton_Same.f (p0 : Int) (p1 : Int) (p2 : (List (List Int))) (p3 : (List Bool)) (p4 : Int) (p5 : Int) (p6 : (List (List Int))) (p7 : (List Bool)) : Option (Bool × (Int × Unit)) := (Go.Proofs.R.Einf Go.Proofs.C06.ctx).call 32 [(.agg [(.v (.int .i64) p0), (.v (.int .i64) p1), (.v (.sl (.sl (.int .i64))) p2), (.v (.sl .bool) p3)]), (.agg [(.v (.int .i64) p4), (.v (.int .i64) p5), (.v (.sl (.sl (.int .i64))) p6), (.v (.sl .bool) p7)])]
noncomputable def automaton_CheckRelation.f (p0 : Int) (p1 : Int) (p2 : (List (List Int))) (p3 : (List Bool)) (p4 : Int) (p5 : Int) (p6 : (List (List Int))) (p7 : (List Bool)) (p8 : (List (Int × Int))) : Option (Bool × Unit) := (Go.Proofs.R.Einf Go.Proofs.C06.ctx).call 36 [(.agg [(.v (.int .i64) p0), (.v (.int .i64) p1), (.v (.sl (.sl (.int .i64))) p2), (.v (.sl .bool) p3)]), (.agg [(.v (.int .i64) p4), (.v (.int .i64) p5), (.v (.sl (.sl (.int .i64))) p6), (.v (.sl .bool) p7)]), (.one (.v (.sl (.pair (.int .i64) (.int .i64))) p8))]
noncomputable def automaton_Relation.f (p0 : Int) (p1 : Int) (p2 : (List (List Int))) (p3 : (List Bool)) (p4 : Int) (p5 : Int) (p6 : (List (List Int))) (p7 : (List Bool)) : Option ((List (Int × Int)) × (Int × Unit)) := (Go.Proofs.R.Einf Go.Proofs.C06.ctx).call 39 [(.agg [(.v (.int .i64) p0), (.v (.int .i64) p1), (.v (.sl (.sl (.int .i64))) p2), (.v (.sl .bool) p3)]), (.agg [(.v (.int .i64) p4), (.v (.int .i64) p5), (.v (.sl (.sl (.int .i64))) p6), (.v (.sl .bool) p7)])]
noncomputable def ancepsref06_Relation.f (p0 : Int) (p1 : Int) (p2 : (List (List Int))) (p3 : (List Bool)) (p4 : Int) (p5 : Int) (p6 : (List (List Int))) (p7 : (List Bool)) : Option ((List (Int × Int)) × (Int × Unit)) := (Go.Proofs.R.Einf Go.Proofs.C06.ctx).call 40 [(.agg [(.v (.int .i64) p0), (.v (.int .i64) p1), (.v (.sl (.sl (.int .i64))) p2), (.v (.sl .bool) p3)]), (.agg [(.v (.int .i64) p4), (.v (.int .i64) p5), (.v (.sl (.sl (.int .i64))) p6), (.v (.sl .bool) p7)])]
noncomputable def api_Pair_41.f (p0 : (List (Int × Int))) (p1 : (List (Int × Int))) : Option (Bool × Unit) := (Go.Proofs.R.Einf Go.Proofs.C06.ctx).call 41 [(.one (.v (.sl (.pair (.int .i64) (.int .i64))) p0)), (.one (.v (.sl (.pair (.int .i64) (.int .i64))) p1))]
noncomputable def ancepsref06_Few.l5 (p0 : Int) (p1 : Int) (p2 : Int) (p3 : Int) (p4 : (List (List Int))) (p5 : (List Bool)) : Option (Bool × Unit) := Go.Proofs.R.loopAt Go.Proofs.C06.ctx (Go.Proofs.R.Einf Go.Proofs.C06.ctx) 17 5 (.mk [(1, (.one (.ref 7 0))), (3, (.one (.v (.int .i64) p0))), (4, (.one (.v (.int .i64) p1)))] [(7, (.box 29 [(.v (.int .i64) p2), (.v (.int .i64) p3), (.v (.sl (.sl (.int .i64))) p4), (.v (.sl .bool) p5)]))])
noncomputable def slices_Clone_bool_bool.f (p0 : (List Bool)) : Option ((List Bool) × Unit) := (Go.Proofs.R.Einf Go.Proofs.C06.ctx).call 50 [(.one (.v (.sl .bool) p0))]
noncomputable def ancepslaw06_copied.l3 (p0 : (List (List Int))) (p1 : Int) (p2 : Int) (p3 : Int) (p4 : Int) (p5 : Int) (p6 : Int) (p7 : (List (List Int))) (p8 : (List Bool)) (p9 : (List (List Int))) (p10 : (List Bool)) : Option (Int × (Int × ((List (List Int)) × ((List Bool) × Unit)))) := Go.Proofs.R.loopAt Go.Proofs.C06.ctx (Go.Proofs.R.Einf Go.Proofs.C06.ctx) 19 3 (.mk [(2, (.one (.ref 7 0))), (3, (.one (.ref 15 0))), (15, (.one (.v (.sl (.sl (.int .i64))) p0))), (16, (.one (.v (.int .i64) p1))), (17, (.one (.v (.int .i64) p2)))] [(7, (.box 29 [(.v (.int .i64) p3), (.v (.int .i64) p4), (.row 23), (.row 31)])), (15, (.box 29 [(.v (.int .i64) p5), (.v (.int .i64) p6), (.row 39), (.row 47)])), (23, (.row 40 (.sl (.int .i64)) p7 false)), (31, (.row 4 .bool p8 false)), (39, (.row 40 (.sl (.int .i64)) p9 false)), (47, (.row 4 .bool p10 false))])
noncomputable def automaton_Valid.l7 (p0 : (List (List Int))) (p1 : Int) (p2 : Int) (p3 : Int) (p4 : Int) (p5 : (List (List Int))) (p6 : (List Bool)) (p7 : Int) : Option (Int × Unit) := Go.Proofs.R.loopAt Go.Proofs.C06.ctx (Go.Proofs.R.Einf Go.Proofs.C06.ctx) 18 7 (.mk [(1, (.one (.ref 7 0))), (3, (.one (.ref 15 0))), (47, (.one (.v (.sl (.sl (.int .i64))) p0))), (48, (.one (.v (.int .i64) p1))), (49, (.one (.v (.int .i64) p2)))] [(7, (.box 29 [(.v (.int .i64) p3), (.v (.int .i64) p4), (.v (.sl (.sl (.int .i64))) p5), (.v (.sl .bool) p6)])), (15, (.box 3 [(.v (.int .i64) p7)]))])
noncomputable def ancepsref06_Valid.l7 (p0 : Int) (p1 : Int) (p2 : Int) (p3 : Int) (p4 : (List (List Int))) (p5 : (List Bool)) : Option (Int × Unit) := Go.Proofs.R.loopAt Go.Proofs.C06.ctx (Go.Proofs.R.Einf Go.Proofs.C06.ctx) 20 7 (.mk [(1, (.one (.ref 7 0))), (3, (.one (.v (.int .i64) p0))), (4, (.one (.v (.int .i64) p1)))] [(7, (.box 29 [(.v (.int .i64) p2), (.v (.int .i64) p3), (.v (.sl (.sl (.int .i64))) p4), (.v (.sl .bool) p5)]))])
noncomputable def automaton_ends.f (p0 : Int) (p1 : Int) (p2 : (List (List Int))) (p3 : (List Bool)) (p4 : Int) : Option (Bool × Unit) := (Go.Proofs.R.Einf Go.Proofs.C06.ctx).call 45 [(.agg [(.v (.int .i64) p0), (.v (.int .i64) p1), (.v (.sl (.sl (.int .i64))) p2), (.v (.sl .bool) p3)]), (.one (.v (.int .i64) p4))]
noncomputable def automaton_both.f (p0 : Int) (p1 : Int) (p2 : (List (List Int))) (p3 : (List Bool)) (p4 : Int) (p5 : Int) (p6 : (List (List Int))) (p7 : (List Bool)) : Option (Int × Unit) := (Go.Proofs.R.Einf Go.Proofs.C06.ctx).call 42 [(.agg [(.v (.int .i64) p0), (.v (.int .i64) p1), (.v (.sl (.sl (.int .i64))) p2), (.v (.sl .bool) p3)]), (.agg [(.v (.int .i64) p4), (.v (.int .i64) p5), (.v (.sl (.sl (.int .i64))) p6), (.v (.sl .bool) p7)])]
noncomputable def automaton_visits.f (p0 : Int) (p1 : Int) (p2 : (List (List Int))) (p3 : (List Bool)) (p4 : Int) (p5 : Int) (p6 : (List (List Int))) (p7 : (List Bool)) : Option ((List ((Int × Int) × (Int × Int))) × Unit) := (Go.Proofs.R.Einf Go.Proofs.C06.ctx).call 43 [(.agg [(.v (.int .i64) p0), (.v (.int .i64) p1), (.v (.sl (.sl (.int .i64))) p2), (.v (.sl .bool) p3)]), (.agg [(.v (.int .i64) p4), (.v (.int .i64) p5), (.v (.sl (.sl (.int .i64))) p6), (.v (.sl .bool) p7)])]
noncomputable def ancepsref06_both.f (p0 : Int) (p1 : Int) (p2 : (List (List Int))) (p3 : (List Bool)) (p4 : Int) (p5 : Int) (p6 : (List (List Int))) (p7 : (List Bool)) : Option (Int × Unit) := (Go.Proofs.R.Einf Go.Proofs.C06.ctx).call 53 [(.agg [(.v (.int .i64) p0), (.v (.int .i64) p1), (.v (.sl (.sl (.int .i64))) p2), (.v (.sl .bool) p3)]), (.agg [(.v (.int .i64) p4), (.v (.int .i64) p5), (.v (.sl (.sl (.int .i64))) p6), (.v (.sl .bool) p7)])]
noncomputable def ancepsref06_walk.f (p0 : Int) (p1 : Int) (p2 : (List (List Int))) (p3 : (List Bool)) (p4 : Int) (p5 : Int) (p6 : (List (List Int))) (p7 : (List Bool)) : Option ((List ((Int × Int) × (Int × Int))) × Unit) := (Go.Proofs.R.Einf Go.Proofs.C06.ctx).call 54 [(.agg [(.v (.int .i64) p0), (.v (.int .i64) p1), (.v (.sl (.sl (.int .i64))) p2), (.v (.sl .bool) p3)]), (.agg [(.v (.int .i64) p4), (.v (.int .i64) p5), (.v (.sl (.sl (.int .i64))) p6), (.v (.sl .bool) p7)])]
noncomputable def automaton_differ.f (p0 : Int) (p1 : Int) (p2 : (List (List Int))) (p3 : (List Bool)) (p4 : Int) (p5 : Int) (p6 : (List (List Int))) (p7 : (List Bool)) (p8 : (List ((Int × Int) × (Int × Int)))) : Option (Int × Unit) := (Go.Proofs.R.Einf Go.Proofs.C06.ctx).call 58 [(.agg [(.v (.int .i64) p0), (.v (.int .i64) p1), (.v (.sl (.sl (.int .i64))) p2), (.v (.sl .bool) p3)]), (.agg [(.v (.int .i64) p4), (.v (.int .i64) p5), (.v (.sl (.sl (.int .i64))) p6), (.v (.sl .bool) p7)]), (.one (.v (.sl (.pair (.pair (.int .i64) (.int .i64)) (.pair (.int .i64) (.int .i64)))) p8))]
noncomputable def automaton_CheckRelation.l6 (p0 : (List (Int × Int))) (p1 : Int) (p2 : Int) (p3 : Int) (p4 : Int) (p5 : (List (List Int))) (p6 : (List Bool)) (p7 : Int) (p8 : Int) (p9 : (List (List Int))) (p10 : (List Bool)) (p11 : (List (Int × Int))) (p12 : Int) (p13 : Int) : Option (Bool × Unit) := Go.Proofs.R.loopAt Go.Proofs.C06.ctx (Go.Proofs.R.Einf Go.Proofs.C06.ctx) 36 6 (.mk [(3, (.one (.ref 7 0))), (4, (.one (.ref 15 0))), (5, (.one (.ref 23 0))), (7, (.one (.ref 31 0))), (8, (.one (.clo 60 [(.ref 23 0), (.ref 31 0)]))), (20, (.one (.v (.sl (.pair (.int .i64) (.int .i64))) p0))), (21, (.one (.v (.int .i64) p1))), (22, (.one (.v (.int .i64) p2)))] [(7, (.box 29 [(.v (.int .i64) p3), (.v (.int .i64) p4), (.v (.sl (.sl (.int .i64))) p5), (.v (.sl .bool) p6)])), (15, (.box 29 [(.v (.int .i64) p7), (.v (.int .i64) p8), (.v (.sl (.sl (.int .i64))) p9), (.v (.sl .bool) p10)])), (23, (.box 56 [(.v (.sl (.pair (.int .i64) (.int .i64))) p11)])), (31, (.box 60 [(.v (.int .i64) p12), (.v (.int .i64) p13)]))])
noncomputable def automaton_Relation.l9 (p0 : Int) (p1 : Int) (p2 : (List (Int × Int))) (p3 : (List ((Int × Int) × (Int × Int)))) : Option ((List (Int × Int)) × (Int × Unit)) := Go.Proofs.R.loopAt Go.Proofs.C06.ctx (Go.Proofs.R.Einf Go.Proofs.C06.ctx) 39 9 (.mk [(8, (.one (.row 7))), (25, (.one (.row 15))), (26, (.one (.v (.int .i64) p0))), (27, (.one (.v (.int .i64) p1)))] [(7, (.row 60 (.pair (.int .i64) (.int .i64)) p2 false)), (15, (.row 69 (.pair (.pair (.int .i64) (.int .i64)) (.pair (.int .i64) (.int .i64))) p3 false))])
noncomputable def ancepsref06_Relation.l7 (p0 : Int) (p1 : Int) (p2 : Int) (p3 : (List (List Int))) (p4 : (List Bool)) (p5 : Int) (p6 : Int) (p7 : (List (List Int))) (p8 : (List Bool)) (p9 : (List ((Int × Int) × (Int × Int)))) (p10 : (List (Int × Int))) : Option ((List (Int × Int)) × (Int × Unit)) := Go.Proofs.R.loopAt Go.Proofs.C06.ctx (Go.Proofs.R.Einf Go.Proofs.C06.ctx) 40 7 (.mk [(2, (.one (.ref 7 0))), (3, (.one (.ref 15 0))), (7, (.one (.row 23))), (8, (.one (.row 31))), (9, (.one (.v (.int .i64) p0)))] [(7, (.box 29 [(.v (.int .i64) p1), (.v (.int .i64) p2), (.v (.sl (.sl (.int .i64))) p3), (.v (.sl .bool) p4)])), (15, (.box 29 [(.v (.int .i64) p5), (.v (.int .i64) p6), (.v (.sl (.sl (.int .i64))) p7), (.v (.sl .bool) p8)])), (23, (.row 81 (.pair (.pair (.int .i64) (.int .i64)) (.pair (.int .i64) (.int .i64))) p9 false)), (31, (.row 60 (.pair (.int .i64) (.int .i64)) p10 false))])
noncomputable def api_Pair_41.l4 (p0 : (List (Int × Int))) (p1 : (List (Int × Int))) (p2 : Int) (p3 : Int) : Option (Bool × Unit) := Go.Proofs.R.loopAt Go.Proofs.C06.ctx (Go.Proofs.R.Einf Go.Proofs.C06.ctx) 41 4 (.mk [(0, (.one (.v (.sl (.pair (.int .i64) (.int .i64))) p0))), (1, (.one (.v (.sl (.pair (.int .i64) (.int .i64))) p1))), (12, (.one (.v (.int .i64) p2))), (13, (.one (.v (.int .i64) p3)))] [])
noncomputable def slices_ContainsFunc_int_int.f (p0 : (List Int)) (p1 : Int) : Option (Bool × Unit) := (Go.Proofs.R.Einf Go.Proofs.C06.ctx).call 48 [(.one (.v (.sl (.int .i64)) p0)), (.one (.clo 49 [(.pref [(.v (.int .i64) p1)] 0)]))]
noncomputable def ancepsref06_Valid.l12 (p0 : Int) (p1 : Int) (p2 : Int) (p3 : Int) (p4 : Int) (p5 : (List (List Int))) (p6 : (List Bool)) : Option (Int × Unit) := Go.Proofs.R.loopAt Go.Proofs.C06.ctx (Go.Proofs.R.Einf Go.Proofs.C06.ctx) 20 12 (.mk [(1, (.one (.ref 7 0))), (3, (.one (.v (.int .i64) p0))), (4, (.one (.v (.int .i64) p1))), (5, (.one (.v (.int .i64) p2)))] [(7, (.box 29 [(.v (.int .i64) p3), (.v (.int .i64) p4), (.v (.sl (.sl (.int .i64))) p5), (.v (.sl .bool) p6)]))])
noncomputable def automaton_next.f (p0 : Int) (p1 : Int) (p2 : (List (List Int))) (p3 : (List Bool)) (p4 : Int) (p5 : Int) : Option (Int × Unit) := (Go.Proofs.R.Einf Go.Proofs.C06.ctx).call 44 [(.agg [(.v (.int .i64) p0), (.v (.int .i64) p1), (.v (.sl (.sl (.int .i64))) p2), (.v (.sl .bool) p3)]), (.one (.v (.int .i64) p4)), (.one (.v (.int .i64) p5))]
noncomputable def automaton_visits.l4 (p0 : Int) (p1 : Int) (p2 : Int) (p3 : (List (List Int))) (p4 : (List Bool)) (p5 : Int) (p6 : Int) (p7 : (List (List Int))) (p8 : (List Bool)) (p9 : (List ((Int × Int) × (Int × Int)))) (p10 : (List ((Int × Int) × Bool))) : Option ((List ((Int × Int) × (Int × Int))) × Unit) := Go.Proofs.R.loopAt Go.Proofs.C06.ctx (Go.Proofs.R.Einf Go.Proofs.C06.ctx) 43 4 (.mk [(2, (.one (.ref 7 0))), (3, (.one (.ref 15 0))), (5, (.one (.row 23))), (6, (.one (.mp 31))), (7, (.one (.v (.int .i64) p0)))] [(7, (.box 29 [(.v (.int .i64) p1), (.v (.int .i64) p2), (.v (.sl (.sl (.int .i64))) p3), (.v (.sl .bool) p4)])), (15, (.box 29 [(.v (.int .i64) p5), (.v (.int .i64) p6), (.v (.sl (.sl (.int .i64))) p7), (.v (.sl .bool) p8)])), (23, (.row 69 (.pair (.pair (.int .i64) (.int .i64)) (.pair (.int .i64) (.int .i64))) p9 false)), (31, (.mp 60 4 (.pair (.int .i64) (.int .i64)) .bool p10))])
noncomputable def ancepsref06_walk.l4 (p0 : Int) (p1 : Int) (p2 : Int) (p3 : (List (List Int))) (p4 : (List Bool)) (p5 : Int) (p6 : Int) (p7 : (List (List Int))) (p8 : (List Bool)) (p9 : (List ((Int × Int) × (Int × Int)))) (p10 : (List ((Int × Int) × Bool))) : Option ((List ((Int × Int) × (Int × Int))) × Unit) := Go.Proofs.R.loopAt Go.Proofs.C06.ctx (Go.Proofs.R.Einf Go.Proofs.C06.ctx) 54 4 (.mk [(2, (.one (.ref 7 0))), (3, (.one (.ref 15 0))), (5, (.one (.row 23))), (6, (.one (.mp 31))), (7, (.one (.v (.int .i64) p0)))] [(7, (.box 29 [(.v (.int .i64) p1), (.v (.int .i64) p2), (.v (.sl (.sl (.int .i64))) p3), (.v (.sl .bool) p4)])), (15, (.box 29 [(.v (.int .i64) p5), (.v (.int .i64) p6), (.v (.sl (.sl (.int .i64))) p7), (.v (.sl .bool) p8)])), (23, (.row 81 (.pair (.pair (.int .i64) (.int .i64)) (.pair (.int .i64) (.int .i64))) p9 false)), (31, (.mp 60 4 (.pair (.int .i64) (.int .i64)) .bool p10))])
noncomputable def automaton_visit.f (p0 : (List ((Int × Int) × (Int × Int)))) (p1 : Int) (p2 : Int) (p3 : (List (List Int))) (p4 : (List Bool)) (p5 : Int) (p6 : Int) (p7 : (List (List Int))) (p8 : (List Bool)) : Option (Int × Unit) := (Go.Proofs.R.Einf Go.Proofs.C06.ctx).call 69 [(.one (.v (.sl (.pair (.pair (.int .i64) (.int .i64)) (.pair (.int .i64) (.int .i64)))) p0)), (.one (.clo 70 [(.pref [(.v (.int .i64) p1), (.v (.int .i64) p2), (.v (.sl (.sl (.int .i64))) p3), (.v (.sl .bool) p4)] 0), (.pref [(.v (.int .i64) p5), (.v (.int .i64) p6), (.v (.sl (.sl (.int .i64))) p7), (.v (.sl .bool) p8)] 0)]))]
noncomputable def ancepsref06_accepting.f (p0 : Int) (p1 : Int) (p2 : (List (List Int))) (p3 : (List Bool)) (p4 : Int) : Option (Bool × Unit) := (Go.Proofs.R.Einf Go.Proofs.C06.ctx).call 56 [(.agg [(.v (.int .i64) p0), (.v (.int .i64) p1), (.v (.sl (.sl (.int .i64))) p2), (.v (.sl .bool) p3)]), (.one (.v (.int .i64) p4))]
noncomputable def automaton_order.f (p0 : Int) (p1 : Int) (p2 : Int) (p3 : Int) : Option (Int × Unit) := (Go.Proofs.R.Einf Go.Proofs.C06.ctx).call 62 [(.agg [(.v (.int .i64) p0), (.v (.int .i64) p1)]), (.agg [(.v (.int .i64) p2), (.v (.int .i64) p3)])]
noncomputable def automaton_CheckRelation_1.f (p0 : Int) (p1 : Int) (p2 : (List (Int × Int))) (p3 : Int) (p4 : Int) : Option (Bool × Unit) := (Go.Proofs.R.Einf Go.Proofs.C06.ctx).call 60 [(.agg [(.v (.int .i64) p0), (.v (.int .i64) p1)]), (.one (.pref [(.v (.sl (.pair (.int .i64) (.int .i64))) p2)] 0)), (.one (.pref [(.v (.int .i64) p3), (.v (.int .i64) p4)] 0))]
noncomputable def automaton_CheckRelation.l14 (p0 : (List (Int × Int))) (p1 : Int) (p2 : Int) (p3 : Int) (p4 : Int) (p5 : (List (List Int))) (p6 : (List Bool)) (p7 : Int) (p8 : Int) (p9 : (List (List Int))) (p10 : (List Bool)) (p11 : (List (Int × Int))) (p12 : Int) (p13 : Int) : Option (Bool × Unit) := Go.Proofs.R.loopAt Go.Proofs.C06.ctx (Go.Proofs.R.Einf Go.Proofs.C06.ctx) 36 14 (.mk [(3, (.one (.ref 7 0))), (4, (.one (.ref 15 0))), (8, (.one (.clo 60 [(.ref 23 0), (.ref 31 0)]))), (79, (.one (.v (.sl (.pair (.int .i64) (.int .i64))) p0))), (80, (.one (.v (.int .i64) p1))), (81, (.one (.v (.int .i64) p2)))] [(7, (.box 29 [(.v (.int .i64) p3), (.v (.int .i64) p4), (.v (.sl (.sl (.int .i64))) p5), (.v (.sl .bool) p6)])), (15, (.box 29 [(.v (.int .i64) p7), (.v (.int .i64) p8), (.v (.sl (.sl (.int .i64))) p9), (.v (.sl .bool) p10)])), (23, (.box 56 [(.v (.sl (.pair (.int .i64) (.int .i64))) p11)])), (31, (.box 60 [(.v (.int .i64) p12), (.v (.int .i64) p13)]))])
noncomputable def ancepsref06_less.f (p0 : Int) (p1 : Int) (p2 : Int) (p3 : Int) : Option (Bool × Unit) := (Go.Proofs.R.Einf Go.Proofs.C06.ctx).call 64 [(.agg [(.v (.int .i64) p0), (.v (.int .i64) p1)]), (.agg [(.v (.int .i64) p2), (.v (.int .i64) p3)])]
noncomputable def ancepsref06_Relation.l14 (p0 : Int) (p1 : Int) (p2 : Int) (p3 : Int) (p4 : (List (List Int))) (p5 : (List Bool)) (p6 : Int) (p7 : Int) (p8 : (List (List Int))) (p9 : (List Bool)) (p10 : (List ((Int × Int) × (Int × Int)))) (p11 : (List (Int × Int))) (p12 : Int) (p13 : Int) : Option ((List (Int × Int)) × (Int × Unit)) := Go.Proofs.R.loopAt Go.Proofs.C06.ctx (Go.Proofs.R.Einf Go.Proofs.C06.ctx) 40 14 (.mk [(2, (.one (.ref 7 0))), (3, (.one (.ref 15 0))), (7, (.one (.row 23))), (8, (.one (.row 31))), (9, (.one (.v (.int .i64) p0))), (10, (.one (.ref 39 0))), (11, (.one (.v (.int .i64) p1)))] [(7, (.box 29 [(.v (.int .i64) p2), (.v (.int .i64) p3), (.v (.sl (.sl (.int .i64))) p4), (.v (.sl .bool) p5)])), (15, (.box 29 [(.v (.int .i64) p6), (.v (.int .i64) p7), (.v (.sl (.sl (.int .i64))) p8), (.v (.sl .bool) p9)])), (23, (.row 81 (.pair (.pair (.int .i64) (.int .i64)) (.pair (.int .i64) (.int .i64))) p10 false)), (31, (.row 60 (.pair (.int .i64) (.int .i64)) p11 false)), (39, (.box 60 [(.v (.int .i64) p12), (.v (.int .i64) p13)]))])
noncomputable def slices_IndexFunc_int_int.f (p0 : (List Int)) (p1 : Int) : Option (Int × Unit) := (Go.Proofs.R.Einf Go.Proofs.C06.ctx).call 67 [(.one (.v (.sl (.int .i64)) p0)), (.one (.clo 49 [(.pref [(.v (.int .i64) p1)] 0)]))]
noncomputable def ancepsref06_step.f (p0 : Int) (p1 : Int) (p2 : (List (List Int))) (p3 : (List Bool)) (p4 : Int) (p5 : Int) : Option (Int × Unit) := (Go.Proofs.R.Einf Go.Proofs.C06.ctx).call 55 [(.agg [(.v (.int .i64) p0), (.v (.int .i64) p1), (.v (.sl (.sl (.int .i64))) p2), (.v (.sl .bool) p3)]), (.one (.v (.int .i64) p4)), (.one (.v (.int .i64) p5))]
noncomputable def automaton_visits.l8 (p0 : Int) (p1 : Int) (p2 : Int) (p3 : Int) (p4 : Int) (p5 : (List (List Int))) (p6 : (List Bool)) (p7 : Int) (p8 : Int) (p9 : (List (List Int))) (p10 : (List Bool)) (p11 : (List ((Int × Int) × (Int × Int)))) (p12 : (List ((Int × Int) × Bool))) (p13 : Int) (p14 : Int) : Option ((List ((Int × Int) × (Int × Int))) × Unit) := Go.Proofs.R.loopAt Go.Proofs.C06.ctx (Go.Proofs.R.Einf Go.Proofs.C06.ctx) 43 8 (.mk [(2, (.one (.ref 7 0))), (3, (.one (.ref 15 0))), (5, (.one (.row 23))), (6, (.one (.mp 31))), (7, (.one (.v (.int .i64) p0))), (8, (.one (.ref 39 0))), (36, (.one (.v (.int .i64) p1))), (37, (.one (.v (.int .i64) p2)))] [(7, (.box 29 [(.v (.int .i64) p3), (.v (.int .i64) p4), (.v (.sl (.sl (.int .i64))) p5), (.v (.sl .bool) p6)])), (15, (.box 29 [(.v (.int .i64) p7), (.v (.int .i64) p8), (.v (.sl (.sl (.int .i64))) p9), (.v (.sl .bool) p10)])), (23, (.row 69 (.pair (.pair (.int .i64) (.int .i64)) (.pair (.int .i64) (.int .i64))) p11 false)), (31, (.mp 60 4 (.pair (.int .i64) (.int .i64)) .bool p12)), (39, (.box 60 [(.v (.int .i64) p13), (.v (.int .i64) p14)]))])
noncomputable def ancepsref06_walk.l7 (p0 : Int) (p1 : Int) (p2 : Int) (p3 : Int) (p4 : (List (List Int))) (p5 : (List Bool)) (p6 : Int) (p7 : Int) (p8 : (List (List Int))) (p9 : (List Bool)) (p10 : (List ((Int × Int) × (Int × Int)))) (p11 : (List ((Int × Int) × Bool))) : Option ((List ((Int × Int) × (Int × Int))) × Unit) := Go.Proofs.R.loopAt Go.Proofs.C06.ctx (Go.Proofs.R.Einf Go.Proofs.C06.ctx) 54 7 (.mk [(2, (.one (.ref 7 0))), (3, (.one (.ref 15 0))), (5, (.one (.row 23))), (6, (.one (.mp 31))), (7, (.one (.v (.int .i64) p0))), (8, (.one (.v (.int .i64) p1)))] [(7, (.box 29 [(.v (.int .i64) p2), (.v (.int .i64) p3), (.v (.sl (.sl (.int .i64))) p4), (.v (.sl .bool) p5)])), (15, (.box 29 [(.v (.int .i64) p6), (.v (.int .i64) p7), (.v (.sl (.sl (.int .i64))) p8), (.v (.sl .bool) p9)])), (23, (.row 81 (.pair (.pair (.int .i64) (.int .i64)) (.pair (.int .i64) (.int .i64))) p10 false)), (31, (.mp 60 4 (.pair (.int .i64) (.int .i64)) .bool p11))])
noncomputable def automaton_visit.l2 (p0 : (List ((Int × Int) × (Int × Int)))) (p1 : Int) (p2 : Int) (p3 : (List (List Int))) (p4 : (List Bool)) (p5 : Int) (p6 : Int) (p7 : (List (List Int))) (p8 : (List Bool)) (p9 : Int) (p10 : Int) : Option (Int × Unit) := Go.Proofs.R.loopAt Go.Proofs.C06.ctx (Go.Proofs.R.Einf Go.Proofs.C06.ctx) 69 2 (.mk [(0, (.one (.v (.sl (.pair (.pair (.int .i64) (.int .i64)) (.pair (.int .i64) (.int .i64)))) p0))), (1, (.one (.clo 70 [(.pref [(.v (.int .i64) p1), (.v (.int .i64) p2), (.v (.sl (.sl (.int .i64))) p3), (.v (.sl .bool) p4)] 0), (.pref [(.v (.int .i64) p5), (.v (.int .i64) p6), (.v (.sl (.sl (.int .i64))) p7), (.v (.sl .bool) p8)] 0)]))), (7, (.one (.v (.int .i64) p9))), (8, (.one (.v (.int .i64) p10)))] [])
noncomputable def cmp_Compare_int.f (p0 : Int) (p1 : Int) : Option (Int × Unit) := (Go.Proofs.R.Einf Go.Proofs.C06.ctx).call 73 [(.one (.v (.int .i64) p0)), (.one (.v (.int .i64) p1))]
noncomputable def cmp_Or_int.f (p0 : (List Int)) : Option (Int × Unit) := (Go.Proofs.R.Einf Go.Proofs.C06.ctx).call 72 [(.one (.v (.sl (.int .i64)) p0))]
noncomputable def api_Pair_61.f (p0 : (List (Int × Int))) (p1 : Int) (p2 : Int) : Option (Int × (Bool × Unit)) := (Go.Proofs.R.Einf Go.Proofs.C06.ctx).call 61 [(.one (.v (.sl (.pair (.int .i64) (.int .i64))) p0)), (.agg [(.v (.int .i64) p1), (.v (.int .i64) p2)]), (.one (.clo 62 []))]
noncomputable def automaton_CheckRelation.l19 (p0 : (List (Int × Int))) (p1 : Int) (p2 : Int) (p3 : Int) (p4 : Int) (p5 : Int) (p6 : Int) (p7 : (List (List Int))) (p8 : (List Bool)) (p9 : Int) (p10 : Int) (p11 : (List (List Int))) (p12 : (List Bool)) (p13 : (List (Int × Int))) (p14 : Int) (p15 : Int) (p16 : Int) (p17 : Int) : Option (Bool × Unit) := Go.Proofs.R.loopAt Go.Proofs.C06.ctx (Go.Proofs.R.Einf Go.Proofs.C06.ctx) 36 19 (.mk [(3, (.one (.ref 7 0))), (4, (.one (.ref 15 0))), (8, (.one (.clo 60 [(.ref 23 0), (.ref 31 0)]))), (12, (.one (.ref 39 0))), (79, (.one (.v (.sl (.pair (.int .i64) (.int .i64))) p0))), (80, (.one (.v (.int .i64) p1))), (81, (.one (.v (.int .i64) p2))), (95, (.one (.v (.int .i64) p3))), (96, (.one (.v (.int .i64) p4)))] [(7, (.box 29 [(.v (.int .i64) p5), (.v (.int .i64) p6), (.v (.sl (.sl (.int .i64))) p7), (.v (.sl .bool) p8)])), (15, (.box 29 [(.v (.int .i64) p9), (.v (.int .i64) p10), (.v (.sl (.sl (.int .i64))) p11), (.v (.sl .bool) p12)])), (23, (.box 56 [(.v (.sl (.pair (.int .i64) (.int .i64))) p13)])), (31, (.box 60 [(.v (.int .i64) p14), (.v (.int .i64) p15)])), (39, (.box 60 [(.v (.int .i64) p16), (.v (.int .i64) p17)]))])
noncomputable def slices_IndexFunc_int_int.l2 (p0 : (List Int)) (p1 : Int) (p2 : Int) (p3 : Int) : Option (Int × Unit) := Go.Proofs.R.loopAt Go.Proofs.C06.ctx (Go.Proofs.R.Einf Go.Proofs.C06.ctx) 67 2 (.mk [(0, (.one (.v (.sl (.int .i64)) p0))), (1, (.one (.clo 49 [(.pref [(.v (.int .i64) p1)] 0)]))), (7, (.one (.v (.int .i64) p2))), (8, (.one (.v (.int .i64) p3)))] [])
noncomputable def automaton_differ_1.f (p0 : Int) (p1 : Int) (p2 : Int) (p3 : Int) (p4 : Int) (p5 : Int) (p6 : (List (List Int))) (p7 : (List Bool)) (p8 : Int) (p9 : Int) (p10 : (List (List Int))) (p11 : (List Bool)) : Option (Bool × Unit) := (Go.Proofs.R.Einf Go.Proofs.C06.ctx).call 70 [(.agg [(.v (.int .i64) p0), (.v (.int .i64) p1), (.v (.int .i64) p2), (.v (.int .i64) p3)]), (.one (.pref [(.v (.int .i64) p4), (.v (.int .i64) p5), (.v (.sl (.sl (.int .i64))) p6), (.v (.sl .bool) p7)] 0)), (.one (.pref [(.v (.int .i64) p8), (.v (.int .i64) p9), (.v (.sl (.sl (.int .i64))) p10), (.v (.sl .bool) p11)] 0))]
noncomputable def cmp_isNaN_int.f (p0 : Int) : Option (Bool × Unit) := (Go.Proofs.R.Einf Go.Proofs.C06.ctx).call 79 [(.one (.v (.int .i64) p0))]
noncomputable def cmp_Or_int.l3 (p0 : Int) (p1 : (List Int)) (p2 : Int) (p3 : Int) : Option (Int × Unit) := Go.Proofs.R.loopAt Go.Proofs.C06.ctx (Go.Proofs.R.Einf Go.Proofs.C06.ctx) 72 3 (.mk [(3, (.one (.v (.int .i64) p0))), (6, (.one (.v (.sl (.int .i64)) p1))), (7, (.one (.v (.int .i64) p2))), (8, (.one (.v (.int .i64) p3)))] [])
noncomputable def api_Pair_61.l3 (p0 : (List (Int × Int))) (p1 : Int) (p2 : Int) (p3 : Int) (p4 : Int) (p5 : Int) : Option (Int × (Bool × Unit)) := Go.Proofs.R.loopAt Go.Proofs.C06.ctx (Go.Proofs.R.Einf Go.Proofs.C06.ctx) 61 3 (.mk [(0, (.one (.v (.sl (.pair (.int .i64) (.int .i64))) p0))), (2, (.one (.clo 62 []))), (4, (.one (.ref 7 0))), (8, (.one (.v (.int .i64) p1))), (9, (.one (.v (.int .i64) p2))), (10, (.one (.v (.int .i64) p3)))] [(7, (.box 60 [(.v (.int .i64) p4), (.v (.int .i64) p5)]))])
noncomputable def automaton_Valid_1.f (p0 : Int) (p1 : Int) : Option (Bool × Unit) := (Go.Proofs.R.Einf Go.Proofs.C06.ctx).call 49 [(.one (.v (.int .i64) p0)), (.one (.pref [(.v (.int .i64) p1)] 0))]
theorem ancepslaw06_AutomatonRelation.f_eq (p0 : Int) (p1 : Int) (p2 : (List (List Int))) (p3 : (List Bool)) (p4 : Int) (p5 : Int) (p6 : (List (List Int))) (p7 : (List Bool)) : ancepslaw06_AutomatonRelation.f p0 p1 p2 p3 p4 p5 p6 p7 =
  bindD (ancepslaw06_awake.f) fun t112 =>
  ifB (!t112.1)
   (bindD (ancepslaw06_awake.f) fun t113 =>
   some (t113.1, ()))
  (bindD (ancepslaw06_small.f p0 p1 p2 p3 p4 p5 p6 p7) fun t114 =>
   ifB (!t114.1)
    (bindD (ancepslaw06_awake.f) fun t115 =>
    some (t115.1, ()))
   (bindD (ancepslaw06_copied.f p0 p1 p2 p3) fun t116 =>
    bindD (ancepslaw06_copied.f p4 p5 p6 p7) fun t117 =>
    bindD (automaton_Relation.f t116.1 t116.2.1 t116.2.2.1 t116.2.2.2.1 t117.1 t117.2.1 t117.2.2.1 t117.2.2.2.1) fun t118 =>
    bindD (ancepsref06_Relation.f p0 p1 p2 p3 p4 p5 p6 p7) fun t119 =>
    ifB (t118.2.1 != t119.2.1)
     (ifB (t118.2.1 == t119.2.1)
      (bindD (api_Pair_41.f t118.1 t119.1) fun t120 =>
      some (t120.1, ()))
     (some (false, ())))
    (bindD (api_Pair_41.f t118.1 t119.1) fun t121 =>
     ifB (!t121.1)
      (ifB (t118.2.1 == t119.2.1)
       (bindD (api_Pair_41.f t118.1 t119.1) fun t122 =>
       some (t122.1, ()))
      (some (false, ())))
     (ifB (t118.2.1 != (0 : Int))
       (ifB (t118.2.1 == t119.2.1)
        (bindD (api_Pair_41.f t118.1 t119.1) fun t123 =>
        some (t123.1, ()))
       (some (false, ())))
      (bindD (automaton_Same.f p0 p1 p2 p3 p4 p5 p6 p7) fun t124 =>
       ifB (t124.2.1 == (0 : Int))
        (ifB t124.1
         (bindD (automaton_CheckRelation.f p0 p1 p2 p3 p4 p5 p6 p7 t118.1) fun t125 =>
         some (t125.1, ()))
        (some (false, ())))
       (some (false, ()))))))) := (Einf_call Go.Proofs.C06.ctx 10 _).trans (by kernel_rfl)
theorem ancepsref06_Few.f_eq (p0 : Int) (p1 : Int) (p2 : (List (List Int))) (p3 : (List Bool)) : ancepsref06_Few.f p0 p1 p2 p3 =
  ifB (decide ((((List.length p2) : Nat) : Int) > (410 : Int)))
   (some (false, ()))
  (ifB (decide ((((List.length p3) : Nat) : Int) > (420 : Int)))
    (some (false, ()))
   (ancepsref06_Few.l5 (0 : Int) (0 : Int) p0 p1 p2 p3)) := (Einf_call Go.Proofs.C06.ctx 17 _).trans (by kernel_rfl)
theorem ancepslaw06_copied.f_eq (p0 : Int) (p1 : Int) (p2 : (List (List Int))) (p3 : (List Bool)) : ancepslaw06_copied.f p0 p1 p2 p3 =
  bindD (slices_Clone_bool_bool.f p3) fun t137 =>
  ancepslaw06_copied.l3 p2 (((List.length p2) : Nat) : Int) (0 : Int) (0 : Int) (0 : Int) p0 p1 ([] : (List (List Int))) ([] : (List Bool)) ([] : (List (List Int))) t137.1 := (Einf_call Go.Proofs.C06.ctx 19 _).trans (by kernel_rfl)
theorem automaton_Valid.f_eq (p0 : Int) (p1 : Int) (p2 : (List (List Int))) (p3 : (List Bool)) : automaton_Valid.f p0 p1 p2 p3 =
  ifB (decide (p0 < (1 : Int)))
   (some ((1 : Int), ()))
  (ifB (decide (p0 > (8 : Int)))
    (some ((1 : Int), ()))
   (ifB (decide ((((List.length p2) : Nat) : Int) > (400 : Int)))
     (some ((1 : Int), ()))
    (ifB ((((List.length p3) : Nat) : Int) != (((List.length p2) : Nat) : Int))
      (some ((1 : Int), ()))
     (ifB (decide (p1 < (0 : Int)))
       (ifB (decide ((((List.length p2) : Nat) : Int) > (0 : Int)))
        (some ((1 : Int), ()))
       (ifB (p1 != (-(1 : Int)))
         (some ((1 : Int), ()))
        (ifB (decide (p1 ≥ (((List.length p2) : Nat) : Int)))
          (some ((1 : Int), ()))
         (automaton_Valid.l7 p2 (((List.length p2) : Nat) : Int) (0 : Int) p0 p1 p2 p3 (((List.length p2) : Nat) : Int)))))
      (ifB (decide (p1 ≥ (((List.length p2) : Nat) : Int)))
        (some ((1 : Int), ()))
       (automaton_Valid.l7 p2 (((List.length p2) : Nat) : Int) (0 : Int) p0 p1 p2 p3 (((List.length p2) : Nat) : Int))))))) := (Einf_call Go.Proofs.C06.ctx 18 _).trans (by kernel_rfl)
theorem ancepsref06_Valid.f_eq (p0 : Int) (p1 : Int) (p2 : (List (List Int))) (p3 : (List Bool)) : ancepsref06_Valid.f p0 p1 p2 p3 =
  ifB (decide (p0 < (1 : Int)))
   (some ((1 : Int), ()))
  (ifB (decide (p0 > (8 : Int)))
    (some ((1 : Int), ()))
   (ifB (decide ((((List.length p2) : Nat) : Int) > (400 : Int)))
     (some ((1 : Int), ()))
    (ifB ((((List.length p3) : Nat) : Int) != (((List.length p2) : Nat) : Int))
      (some ((1 : Int), ()))
     (ifB ((((List.length p2) : Nat) : Int) == (0 : Int))
       (ifB (p1 != (-(1 : Int)))
        (some ((1 : Int), ()))
       (ifB (decide ((((List.length p2) : Nat) : Int) > (0 : Int)))
         (ifB (decide (p1 < (0 : Int)))
          (some ((1 : Int), ()))
         (ifB (decide (p1 ≥ (((List.length p2) : Nat) : Int)))
           (some ((1 : Int), ()))
          (ancepsref06_Valid.l7 (((List.length p2) : Nat) : Int) (0 : Int) p0 p1 p2 p3)))
        (ancepsref06_Valid.l7 (((List.length p2) : Nat) : Int) (0 : Int) p0 p1 p2 p3)))
      (ifB (decide ((((List.length p2) : Nat) : Int) > (0 : Int)))
        (ifB (decide (p1 < (0 : Int)))
         (some ((1 : Int), ()))
        (ifB (decide (p1 ≥ (((List.length p2) : Nat) : Int)))
          (some ((1 : Int), ()))
         (ancepsref06_Valid.l7 (((List.length p2) : Nat) : Int) (0 : Int) p0 p1 p2 p3)))
       (ancepsref06_Valid.l7 (((List.length p2) : Nat) : Int) (0 : Int) p0 p1 p2 p3)))))) := (Einf_call Go.Proofs.C06.ctx 20 _).trans (by kernel_rfl)
theorem slices_Clone_int_int.f_eq (p0 : (List Int)) : slices_Clone_int_int.f p0 =
  bindD ((Go.Proofs.R.grow (List.length p0))) fun t138 =>
  some (p0, ()) := (Einf_call Go.Proofs.C06.ctx 22 _).trans (by kernel_rfl)
theorem ancepslaw06_small.f_eq (p0 : Int) (p1 : Int) (p2 : (List (List Int))) (p3 : (List Bool)) (p4 : Int) (p5 : Int) (p6 : (List (List Int))) (p7 : (List Bool)) : ancepslaw06_small.f p0 p1 p2 p3 p4 p5 p6 p7 =
  bindD (ancepsref06_Few.f p0 p1 p2 p3) fun t156 =>
  ifB t156.1
   (bindD (ancepsref06_Few.f p4 p5 p6 p7) fun t157 =>
   ifB t157.1
    (some ((decide ((Go.IntKind.wrap Go.IntKind.i64 ((((List.length p2) : Nat) : Int) * (((List.length p6) : Nat) : Int))) ≤ (900 : Int))), ()))
   (some (false, ())))
  (some (false, ())) := (Einf_call Go.Proofs.C06.ctx 27 _).trans (by kernel_rfl)
theorem automaton_Same.f_eq (p0 : Int) (p1 : Int) (p2 : (List (List Int))) (p3 : (List Bool)) (p4 : Int) (p5 : Int) (p6 : (List (List Int))) (p7 : (List Bool)) : automaton_Same.f p0 p1 p2 p3 p4 p5 p6 p7 =
  bindD (automaton_both.f p0 p1 p2 p3 p4 p5 p6 p7) fun t164 =>
  ifB (t164.1 != (0 : Int))
   (some (false, (t164.1, ())))
  (bindD (automaton_visits.f p0 p1 p2 p3 p4 p5 p6 p7) fun t165 =>
   bindD (automaton_differ.f p0 p1 p2 p3 p4 p5 p6 p7 t165.1) fun t166 =>
   some ((decide (t166.1 < (0 : Int))), ((0 : Int), ()))) := (Einf_call Go.Proofs.C06.ctx 32 _).trans (by kernel_rfl)
theorem automaton_CheckRelation.f_eq (p0 : Int) (p1 : Int) (p2 : (List (List Int))) (p3 : (List Bool)) (p4 : Int) (p5 : Int) (p6 : (List (List Int))) (p7 : (List Bool)) (p8 : (List (Int × Int))) : automaton_CheckRelation.f p0 p1 p2 p3 p4 p5 p6 p7 p8 =
  bindD (automaton_both.f p0 p1 p2 p3 p4 p5 p6 p7) fun t180 =>
  ifB (t180.1 != (0 : Int))
   (some (false, ()))
  (automaton_CheckRelation.l6 p8 (((List.length p8) : Nat) : Int) (0 : Int) p0 p1 p2 p3 p4 p5 p6 p7 p8 (-(1 : Int)) (-(1 : Int))) := (Einf_call Go.Proofs.C06.ctx 36 _).trans (by kernel_rfl)
theorem automaton_Relation.f_eq (p0 : Int) (p1 : Int) (p2 : (List (List Int))) (p3 : (List Bool)) (p4 : Int) (p5 : Int) (p6 : (List (List Int))) (p7 : (List Bool)) : automaton_Relation.f p0 p1 p2 p3 p4 p5 p6 p7 =
  bindD (automaton_both.f p0 p1 p2 p3 p4 p5 p6 p7) fun t183 =>
  ifB (t183.1 != (0 : Int))
   (some (([] : (List (Int × Int))), (t183.1, ())))
  (bindD (automaton_visits.f p0 p1 p2 p3 p4 p5 p6 p7) fun t184 =>
   bindD (automaton_differ.f p0 p1 p2 p3 p4 p5 p6 p7 t184.1) fun t185 =>
   ifB (decide (t185.1 ≥ (0 : Int)))
    (some (([] : (List (Int × Int))), ((12 : Int), ())))
   (automaton_Relation.l9 (((List.length t184.1) : Nat) : Int) (0 : Int) ([] : (List (Int × Int))) t184.1)) := (Einf_call Go.Proofs.C06.ctx 39 _).trans (by kernel_rfl)
theorem ancepsref06_Relation.f_eq (p0 : Int) (p1 : Int) (p2 : (List (List Int))) (p3 : (List Bool)) (p4 : Int) (p5 : Int) (p6 : (List (List Int))) (p7 : (List Bool)) : ancepsref06_Relation.f p0 p1 p2 p3 p4 p5 p6 p7 =
  bindD (ancepsref06_both.f p0 p1 p2 p3 p4 p5 p6 p7) fun t186 =>
  ifB (t186.1 != (0 : Int))
   (some (([] : (List (Int × Int))), (t186.1, ())))
  (bindD (ancepsref06_walk.f p0 p1 p2 p3 p4 p5 p6 p7) fun t187 =>
   ancepsref06_Relation.l7 (0 : Int) p0 p1 p2 p3 p4 p5 p6 p7 t187.1 ([] : (List (Int × Int)))) := (Einf_call Go.Proofs.C06.ctx 40 _).trans (by kernel_rfl)
theorem api_Pair_41.f_eq (p0 : (List (Int × Int))) (p1 : (List (Int × Int))) : api_Pair_41.f p0 p1 =
  ifB ((((List.length p0) : Nat) : Int) != (((List.length p1) : Nat) : Int))
   (some (false, ()))
  (api_Pair_41.l4 p0 p1 (((List.length p0) : Nat) : Int) (0 : Int)) := (Einf_call Go.Proofs.C06.ctx 41 _).trans (by kernel_rfl)
theorem ancepsref06_Few.l5_eq (p0 : Int) (p1 : Int) (p2 : Int) (p3 : Int) (p4 : (List (List Int))) (p5 : (List Bool)) : ancepsref06_Few.l5 p0 p1 p2 p3 p4 p5 =
  ifB (decide (p1 < (((List.length p4) : Nat) : Int)))
   (bindD ((ixAt p4 p1)) fun t188 =>
   ancepsref06_Few.l5 (Go.IntKind.wrap Go.IntKind.i64 (p0 + (((List.length t188) : Nat) : Int))) (Go.IntKind.wrap Go.IntKind.i64 (p1 + (1 : Int))) p2 p3 p4 p5)
  (some ((decide (p0 ≤ (1700 : Int))), ())) := (loopAt_step Go.Proofs.C06.ctx 17 5 _).trans (by kernel_rfl)
theorem slices_Clone_bool_bool.f_eq (p0 : (List Bool)) : slices_Clone_bool_bool.f p0 =
  bindD ((Go.Proofs.R.grow (List.length p0))) fun t189 =>
  some (p0, ()) := (Einf_call Go.Proofs.C06.ctx 50 _).trans (by kernel_rfl)
theorem ancepslaw06_copied.l3_eq (p0 : (List (List Int))) (p1 : Int) (p2 : Int) (p3 : Int) (p4 : Int) (p5 : Int) (p6 : Int) (p7 : (List (List Int))) (p8 : (List Bool)) (p9 : (List (List Int))) (p10 : (List Bool)) : ancepslaw06_copied.l3 p0 p1 p2 p3 p4 p5 p6 p7 p8 p9 p10 =
  ifB (decide (p2 < p1))
   (bindD ((ixAt p0 p2)) fun t190 =>
   bindD (slices_Clone_int_int.f t190) fun t191 =>
   bindD ((Go.Proofs.R.grow ((List.length p9) + (List.length (t191.1 :: ([] : (List (List Int)))))))) fun t192 =>
   ancepslaw06_copied.l3 p0 p1 (Go.IntKind.wrap Go.IntKind.i64 (p2 + (1 : Int))) p3 p4 p5 p6 p7 p8 (p9 ++ (t191.1 :: ([] : (List (List Int))))) p10)
  (some (p5, (p6, (p9, (p10, ()))))) := (loopAt_step Go.Proofs.C06.ctx 19 3 _).trans (by kernel_rfl)
theorem automaton_Valid.l7_eq (p0 : (List (List Int))) (p1 : Int) (p2 : Int) (p3 : Int) (p4 : Int) (p5 : (List (List Int))) (p6 : (List Bool)) (p7 : Int) : automaton_Valid.l7 p0 p1 p2 p3 p4 p5 p6 p7 =
  ifB (decide (p2 < p1))
   (bindD ((ixAt p0 p2)) fun t193 =>
   ifB ((((List.length t193) : Nat) : Int) != p3)
    (some ((1 : Int), ()))
   (bindD (slices_ContainsFunc_int_int.f t193 p7) fun t194 =>
    ifB t194.1
     (some ((1 : Int), ()))
    (automaton_Valid.l7 p0 p1 (Go.IntKind.wrap Go.IntKind.i64 (p2 + (1 : Int))) p3 p4 p5 p6 p7)))
  (some ((0 : Int), ())) := (loopAt_step Go.Proofs.C06.ctx 18 7 _).trans (by kernel_rfl)
theorem ancepsref06_Valid.l7_eq (p0 : Int) (p1 : Int) (p2 : Int) (p3 : Int) (p4 : (List (List Int))) (p5 : (List Bool)) : ancepsref06_Valid.l7 p0 p1 p2 p3 p4 p5 =
  ifB (decide (p1 < p0))
   (bindD ((ixAt p4 p1)) fun t195 =>
   ifB ((((List.length t195) : Nat) : Int) != p2)
    (some ((1 : Int), ()))
   (ancepsref06_Valid.l12 p0 p1 (0 : Int) p2 p3 p4 p5))
  (some ((0 : Int), ())) := (loopAt_step Go.Proofs.C06.ctx 20 7 _).trans (by kernel_rfl)
theorem automaton_ends.f_eq (p0 : Int) (p1 : Int) (p2 : (List (List Int))) (p3 : (List Bool)) (p4 : Int) : automaton_ends.f p0 p1 p2 p3 p4 =
  ifB (decide (p4 ≥ (0 : Int)))
   (bindD ((ixAt p3 p4)) fun t198 =>
   some (t198, ()))
  (some (false, ())) := (Einf_call Go.Proofs.C06.ctx 45 _).trans (by kernel_rfl)
theorem automaton_both.f_eq (p0 : Int) (p1 : Int) (p2 : (List (List Int))) (p3 : (List Bool)) (p4 : Int) (p5 : Int) (p6 : (List (List Int))) (p7 : (List Bool)) : automaton_both.f p0 p1 p2 p3 p4 p5 p6 p7 =
  bindD (automaton_Valid.f p0 p1 p2 p3) fun t214 =>
  ifB (t214.1 != (0 : Int))
   (some ((1 : Int), ()))
  (bindD (automaton_Valid.f p4 p5 p6 p7) fun t215 =>
   ifB (t215.1 != (0 : Int))
    (some ((1 : Int), ()))
   (ifB (p0 != p4)
     (some ((1 : Int), ()))
    (some ((0 : Int), ())))) := (Einf_call Go.Proofs.C06.ctx 42 _).trans (by kernel_rfl)
theorem automaton_visits.f_eq (p0 : Int) (p1 : Int) (p2 : (List (List Int))) (p3 : (List Bool)) (p4 : Int) (p5 : Int) (p6 : (List (List Int))) (p7 : (List Bool)) : automaton_visits.f p0 p1 p2 p3 p4 p5 p6 p7 =
  bindD ((ixAt (((p1, p5), ((-(1 : Int)), (0 : Int))) :: ([] : (List ((Int × Int) × (Int × Int))))) (0 : Int))) fun t216 =>
  bindD ((ixAt (((p1, p5), ((-(1 : Int)), (0 : Int))) :: ([] : (List ((Int × Int) × (Int × Int))))) (0 : Int))) fun t217 =>
  automaton_visits.l4 (0 : Int) p0 p1 p2 p3 p4 p5 p6 p7 (((p1, p5), ((-(1 : Int)), (0 : Int))) :: ([] : (List ((Int × Int) × (Int × Int))))) (Go.Proofs.R.mput (Go.Proofs.R.Ty.pair (Go.Proofs.R.Ty.int Go.IntKind.i64) (Go.Proofs.R.Ty.int Go.IntKind.i64)) (t217.1.1, t217.1.2) true ([] : (List ((Int × Int) × Bool)))) := (Einf_call Go.Proofs.C06.ctx 43 _).trans (by kernel_rfl)
theorem ancepsref06_both.f_eq (p0 : Int) (p1 : Int) (p2 : (List (List Int))) (p3 : (List Bool)) (p4 : Int) (p5 : Int) (p6 : (List (List Int))) (p7 : (List Bool)) : ancepsref06_both.f p0 p1 p2 p3 p4 p5 p6 p7 =
  bindD (ancepsref06_Valid.f p0 p1 p2 p3) fun t220 =>
  ifB (t220.1 != (0 : Int))
   (some ((1 : Int), ()))
  (bindD (ancepsref06_Valid.f p4 p5 p6 p7) fun t221 =>
   ifB (t221.1 != (0 : Int))
    (some ((1 : Int), ()))
   (ifB (p0 != p4)
     (some ((1 : Int), ()))
    (some ((0 : Int), ())))) := (Einf_call Go.Proofs.C06.ctx 53 _).trans (by kernel_rfl)
theorem ancepsref06_walk.f_eq (p0 : Int) (p1 : Int) (p2 : (List (List Int))) (p3 : (List Bool)) (p4 : Int) (p5 : Int) (p6 : (List (List Int))) (p7 : (List Bool)) : ancepsref06_walk.f p0 p1 p2 p3 p4 p5 p6 p7 =
  bindD ((ixAt (((p1, p5), ((-(1 : Int)), (0 : Int))) :: ([] : (List ((Int × Int) × (Int × Int))))) (0 : Int))) fun t222 =>
  bindD ((ixAt (((p1, p5), ((-(1 : Int)), (0 : Int))) :: ([] : (List ((Int × Int) × (Int × Int))))) (0 : Int))) fun t223 =>
  ancepsref06_walk.l4 (0 : Int) p0 p1 p2 p3 p4 p5 p6 p7 (((p1, p5), ((-(1 : Int)), (0 : Int))) :: ([] : (List ((Int × Int) × (Int × Int))))) (Go.Proofs.R.mput (Go.Proofs.R.Ty.pair (Go.Proofs.R.Ty.int Go.IntKind.i64) (Go.Proofs.R.Ty.int Go.IntKind.i64)) (t223.1.1, t223.1.2) true ([] : (List ((Int × Int) × Bool)))) := (Einf_call Go.Proofs.C06.ctx 54 _).trans (by kernel_rfl)
theorem automaton_differ.f_eq (p0 : Int) (p1 : Int) (p2 : (List (List Int))) (p3 : (List Bool)) (p4 : Int) (p5 : Int) (p6 : (List (List Int))) (p7 : (List Bool)) (p8 : (List ((Int × Int) × (Int × Int)))) : automaton_differ.f p0 p1 p2 p3 p4 p5 p6 p7 p8 =
  bindD (automaton_visit.f p8 p0 p1 p2 p3 p4 p5 p6 p7) fun t226 =>
  some (t226.1, ()) := (Einf_call Go.Proofs.C06.ctx 58 _).trans (by kernel_rfl)
theorem automaton_CheckRelation.l6_eq (p0 : (List (Int × Int))) (p1 : Int) (p2 : Int) (p3 : Int) (p4 : Int) (p5 : (List (List Int))) (p6 : (List Bool)) (p7 : Int) (p8 : Int) (p9 : (List (List Int))) (p10 : (List Bool)) (p11 : (List (Int × Int))) (p12 : Int) (p13 : Int) : automaton_CheckRelation.l6 p0 p1 p2 p3 p4 p5 p6 p7 p8 p9 p10 p11 p12 p13 =
  ifB (decide (p2 < p1))
   (bindD ((ixAt p0 p2)) fun t236 =>
   ifB ((t236.1 == p12) && (t236.2 == p13))
    (some (false, ()))
   (ifB (decide (t236.1 < (-(1 : Int))))
     (some (false, ()))
    (ifB (decide (t236.1 ≥ (((List.length p5) : Nat) : Int)))
      (some (false, ()))
     (ifB (decide (t236.2 < (-(1 : Int))))
       (some (false, ()))
      (ifB (decide (t236.2 ≥ (((List.length p9) : Nat) : Int)))
        (some (false, ()))
       (ifB (decide (p2 > (0 : Int)))
         (bindD ((ixAt p11 (Go.IntKind.wrap Go.IntKind.i64 (p2 - (1 : Int))))) fun t237 =>
         bindD (automaton_order.f t237.1 t237.2 t236.1 t236.2) fun t238 =>
         ifB (decide (t238.1 ≥ (0 : Int)))
          (some (false, ()))
         (automaton_CheckRelation.l6 p0 p1 (Go.IntKind.wrap Go.IntKind.i64 (p2 + (1 : Int))) p3 p4 p5 p6 p7 p8 p9 p10 p11 p12 p13))
        (automaton_CheckRelation.l6 p0 p1 (Go.IntKind.wrap Go.IntKind.i64 (p2 + (1 : Int))) p3 p4 p5 p6 p7 p8 p9 p10 p11 p12 p13)))))))
  (bindD (automaton_CheckRelation_1.f p4 p8 p11 p12 p13) fun t239 =>
   ifB (!t239.1)
    (some (false, ()))
   (automaton_CheckRelation.l14 p11 (((List.length p11) : Nat) : Int) (0 : Int) p3 p4 p5 p6 p7 p8 p9 p10 p11 p12 p13)) := (loopAt_step Go.Proofs.C06.ctx 36 6 _).trans (by kernel_rfl)
theorem automaton_Relation.l9_eq (p0 : Int) (p1 : Int) (p2 : (List (Int × Int))) (p3 : (List ((Int × Int) × (Int × Int)))) : automaton_Relation.l9 p0 p1 p2 p3 =
  ifB (decide (p1 < p0))
   (bindD ((ixAt p3 p1)) fun t253 =>
   bindD ((ixAt p3 p1)) fun t254 =>
   ifB (!((t254.1.1 == (-(1 : Int))) && (t254.1.2 == (-(1 : Int)))))
    (bindD ((Go.Proofs.R.grow ((List.length p2) + (List.length ((t254.1.1, t254.1.2) :: ([] : (List (Int × Int)))))))) fun t255 =>
    automaton_Relation.l9 p0 (Go.IntKind.wrap Go.IntKind.i64 (p1 + (1 : Int))) (p2 ++ ((t254.1.1, t254.1.2) :: ([] : (List (Int × Int))))) p3)
   (automaton_Relation.l9 p0 (Go.IntKind.wrap Go.IntKind.i64 (p1 + (1 : Int))) p2 p3))
  (bindD ((Go.Proofs.R.grow (List.length p2))) fun t256 =>
   bindD (sortB false (fun t257 t258 => bindD (automaton_order.f t257.1 t257.2 t258.1 t258.2) fun t259 =>
    some t259.1) p2) fun t260 =>
   some (t260, ((0 : Int), ()))) := (loopAt_step Go.Proofs.C06.ctx 39 9 _).trans (by kernel_rfl)
theorem ancepsref06_Relation.l7_eq (p0 : Int) (p1 : Int) (p2 : Int) (p3 : (List (List Int))) (p4 : (List Bool)) (p5 : Int) (p6 : Int) (p7 : (List (List Int))) (p8 : (List Bool)) (p9 : (List ((Int × Int) × (Int × Int)))) (p10 : (List (Int × Int))) : ancepsref06_Relation.l7 p0 p1 p2 p3 p4 p5 p6 p7 p8 p9 p10 =
  ifB (decide (p0 < (((List.length p9) : Nat) : Int)))
   (bindD ((ixAt p9 p0)) fun t261 =>
   bindD ((ixAt p9 p0)) fun t262 =>
   bindD (ancepsref06_accepting.f p1 p2 p3 p4 t262.1.1) fun t263 =>
   bindD (ancepsref06_accepting.f p5 p6 p7 p8 t262.1.2) fun t264 =>
   ifB (!(t263.1 == t264.1))
    (some (([] : (List (Int × Int))), ((12 : Int), ())))
   (ifB (decide (t262.1.1 < (0 : Int)))
     (ifB (decide (t262.1.2 < (0 : Int)))
      (ancepsref06_Relation.l7 (Go.IntKind.wrap Go.IntKind.i64 (p0 + (1 : Int))) p1 p2 p3 p4 p5 p6 p7 p8 p9 p10)
     (ancepsref06_Relation.l14 p0 (((List.length p10) : Nat) : Int) p1 p2 p3 p4 p5 p6 p7 p8 p9 p10 t262.1.1 t262.1.2))
    (ancepsref06_Relation.l14 p0 (((List.length p10) : Nat) : Int) p1 p2 p3 p4 p5 p6 p7 p8 p9 p10 t262.1.1 t262.1.2)))
  (some (p10, ((0 : Int), ()))) := (loopAt_step Go.Proofs.C06.ctx 40 7 _).trans (by kernel_rfl)
theorem api_Pair_41.l4_eq (p0 : (List (Int × Int))) (p1 : (List (Int × Int))) (p2 : Int) (p3 : Int) : api_Pair_41.l4 p0 p1 p2 p3 =
  ifB (decide (p3 < p2))
   (bindD ((ixAt p0 p3)) fun t265 =>
   bindD ((ixAt p1 p3)) fun t266 =>
   ifB (!((t265.1 == t266.1) && (t265.2 == t266.2)))
    (some (false, ()))
   (api_Pair_41.l4 p0 p1 p2 (Go.IntKind.wrap Go.IntKind.i64 (p3 + (1 : Int)))))
  (some (true, ())) := (loopAt_step Go.Proofs.C06.ctx 41 4 _).trans (by kernel_rfl)
theorem slices_ContainsFunc_int_int.f_eq (p0 : (List Int)) (p1 : Int) : slices_ContainsFunc_int_int.f p0 p1 =
  bindD (slices_IndexFunc_int_int.f p0 p1) fun t267 =>
  some ((decide (t267.1 ≥ (0 : Int))), ()) := (Einf_call Go.Proofs.C06.ctx 48 _).trans (by kernel_rfl)
theorem ancepsref06_Valid.l12_eq (p0 : Int) (p1 : Int) (p2 : Int) (p3 : Int) (p4 : Int) (p5 : (List (List Int))) (p6 : (List Bool)) : ancepsref06_Valid.l12 p0 p1 p2 p3 p4 p5 p6 =
  ifB (decide (p2 < p3))
   (bindD ((ixAt p5 p1)) fun t268 =>
   bindD ((ixAt t268 p2)) fun t269 =>
   ifB (decide (t269 < (-(1 : Int))))
    (some ((1 : Int), ()))
   (bindD ((ixAt p5 p1)) fun t270 =>
    bindD ((ixAt t270 p2)) fun t271 =>
    ifB (decide (t271 ≥ p0))
     (some ((1 : Int), ()))
    (ancepsref06_Valid.l12 p0 p1 (Go.IntKind.wrap Go.IntKind.i64 (p2 + (1 : Int))) p3 p4 p5 p6)))
  (ancepsref06_Valid.l7 p0 (Go.IntKind.wrap Go.IntKind.i64 (p1 + (1 : Int))) p3 p4 p5 p6) := (loopAt_step Go.Proofs.C06.ctx 20 12 _).trans (by kernel_rfl)
theorem automaton_next.f_eq (p0 : Int) (p1 : Int) (p2 : (List (List Int))) (p3 : (List Bool)) (p4 : Int) (p5 : Int) : automaton_next.f p0 p1 p2 p3 p4 p5 =
  ifB (decide (p4 < (0 : Int)))
   (some ((-(1 : Int)), ()))
  (ifB (decide (p5 < (0 : Int)))
    (some ((-(1 : Int)), ()))
   (ifB (decide (p5 ≥ p0))
     (some ((-(1 : Int)), ()))
    (bindD ((ixAt p2 p4)) fun t272 =>
     bindD ((ixAt t272 p5)) fun t273 =>
     some (t273, ())))) := (Einf_call Go.Proofs.C06.ctx 44 _).trans (by kernel_rfl)
theorem automaton_visits.l4_eq (p0 : Int) (p1 : Int) (p2 : Int) (p3 : (List (List Int))) (p4 : (List Bool)) (p5 : Int) (p6 : Int) (p7 : (List (List Int))) (p8 : (List Bool)) (p9 : (List ((Int × Int) × (Int × Int)))) (p10 : (List ((Int × Int) × Bool))) : automaton_visits.l4 p0 p1 p2 p3 p4 p5 p6 p7 p8 p9 p10 =
  ifB (decide (p0 < (((List.length p9) : Nat) : Int)))
   (bindD ((ixAt p9 p0)) fun t286 =>
   bindD ((ixAt p9 p0)) fun t287 =>
   automaton_visits.l8 p0 p1 (0 : Int) p1 p2 p3 p4 p5 p6 p7 p8 p9 p10 t287.1.1 t287.1.2)
  (some (p9, ())) := (loopAt_step Go.Proofs.C06.ctx 43 4 _).trans (by kernel_rfl)
theorem ancepsref06_walk.l4_eq (p0 : Int) (p1 : Int) (p2 : Int) (p3 : (List (List Int))) (p4 : (List Bool)) (p5 : Int) (p6 : Int) (p7 : (List (List Int))) (p8 : (List Bool)) (p9 : (List ((Int × Int) × (Int × Int)))) (p10 : (List ((Int × Int) × Bool))) : ancepsref06_walk.l4 p0 p1 p2 p3 p4 p5 p6 p7 p8 p9 p10 =
  ifB (decide (p0 < (((List.length p9) : Nat) : Int)))
   (ancepsref06_walk.l7 p0 (0 : Int) p1 p2 p3 p4 p5 p6 p7 p8 p9 p10)
  (some (p9, ())) := (loopAt_step Go.Proofs.C06.ctx 54 4 _).trans (by kernel_rfl)
theorem automaton_visit.f_eq (p0 : (List ((Int × Int) × (Int × Int)))) (p1 : Int) (p2 : Int) (p3 : (List (List Int))) (p4 : (List Bool)) (p5 : Int) (p6 : Int) (p7 : (List (List Int))) (p8 : (List Bool)) : automaton_visit.f p0 p1 p2 p3 p4 p5 p6 p7 p8 =
  automaton_visit.l2 p0 p1 p2 p3 p4 p5 p6 p7 p8 (((List.length p0) : Nat) : Int) (0 : Int) := (Einf_call Go.Proofs.C06.ctx 69 _).trans (by kernel_rfl)
theorem ancepsref06_accepting.f_eq (p0 : Int) (p1 : Int) (p2 : (List (List Int))) (p3 : (List Bool)) (p4 : Int) : ancepsref06_accepting.f p0 p1 p2 p3 p4 =
  ifB (decide (p4 ≥ (0 : Int)))
   (bindD ((ixAt p3 p4)) fun t300 =>
   some (t300, ()))
  (some (false, ())) := (Einf_call Go.Proofs.C06.ctx 56 _).trans (by kernel_rfl)
theorem automaton_order.f_eq (p0 : Int) (p1 : Int) (p2 : Int) (p3 : Int) : automaton_order.f p0 p1 p2 p3 =
  bindD (cmp_Compare_int.f p0 p2) fun t317 =>
  bindD (cmp_Compare_int.f p1 p3) fun t318 =>
  bindD (cmp_Or_int.f (t317.1 :: (t318.1 :: ([] : (List Int))))) fun t319 =>
  some (t319.1, ()) := (Einf_call Go.Proofs.C06.ctx 62 _).trans (by kernel_rfl)
theorem automaton_CheckRelation_1.f_eq (p0 : Int) (p1 : Int) (p2 : (List (Int × Int))) (p3 : Int) (p4 : Int) : automaton_CheckRelation_1.f p0 p1 p2 p3 p4 =
  bindD (api_Pair_61.f p2 p0 p1) fun t320 =>
  ifB t320.2.1
   (some (true, ()))
  (some (((p0 == p3) && (p1 == p4)), ())) := (Einf_call Go.Proofs.C06.ctx 60 _).trans (by kernel_rfl)
theorem automaton_CheckRelation.l14_eq (p0 : (List (Int × Int))) (p1 : Int) (p2 : Int) (p3 : Int) (p4 : Int) (p5 : (List (List Int))) (p6 : (List Bool)) (p7 : Int) (p8 : Int) (p9 : (List (List Int))) (p10 : (List Bool)) (p11 : (List (Int × Int))) (p12 : Int) (p13 : Int) : automaton_CheckRelation.l14 p0 p1 p2 p3 p4 p5 p6 p7 p8 p9 p10 p11 p12 p13 =
  ifB (decide (p2 < p1))
   (bindD ((ixAt p0 p2)) fun t321 =>
   bindD (automaton_ends.f p3 p4 p5 p6 t321.1) fun t322 =>
   bindD (automaton_ends.f p7 p8 p9 p10 t321.2) fun t323 =>
   ifB (!(t322.1 == t323.1))
    (some (false, ()))
   (automaton_CheckRelation.l19 p0 p1 p2 p3 (0 : Int) p3 p4 p5 p6 p7 p8 p9 p10 p11 p12 p13 t321.1 t321.2))
  (some (true, ())) := (loopAt_step Go.Proofs.C06.ctx 36 14 _).trans (by kernel_rfl)
theorem ancepsref06_less.f_eq (p0 : Int) (p1 : Int) (p2 : Int) (p3 : Int) : ancepsref06_less.f p0 p1 p2 p3 =
  ifB (decide (p0 < p2))
   (some (true, ()))
  (ifB (p0 == p2)
    (some ((decide (p1 < p3)), ()))
   (some (false, ()))) := (Einf_call Go.Proofs.C06.ctx 64 _).trans (by kernel_rfl)
theorem ancepsref06_Relation.l14_eq (p0 : Int) (p1 : Int) (p2 : Int) (p3 : Int) (p4 : (List (List Int))) (p5 : (List Bool)) (p6 : Int) (p7 : Int) (p8 : (List (List Int))) (p9 : (List Bool)) (p10 : (List ((Int × Int) × (Int × Int)))) (p11 : (List (Int × Int))) (p12 : Int) (p13 : Int) : ancepsref06_Relation.l14 p0 p1 p2 p3 p4 p5 p6 p7 p8 p9 p10 p11 p12 p13 =
  ifB (decide (p1 > (0 : Int)))
   (bindD ((ixAt p11 (Go.IntKind.wrap Go.IntKind.i64 (p1 - (1 : Int))))) fun t328 =>
   bindD ((ixAt p11 (Go.IntKind.wrap Go.IntKind.i64 (p1 - (1 : Int))))) fun t329 =>
   bindD (ancepsref06_less.f p12 p13 t329.1 t329.2) fun t330 =>
   ifB t330.1
    (ancepsref06_Relation.l14 p0 (Go.IntKind.wrap Go.IntKind.i64 (p1 - (1 : Int))) p2 p3 p4 p5 p6 p7 p8 p9 p10 p11 p12 p13)
   (bindD ((subL p11 (0 : Int) p1)) fun t331 =>
    bindD ((subL p11 p1 (((List.length p11) : Nat) : Int))) fun t332 =>
    bindD ((Go.Proofs.R.grow ((List.length ((p12, p13) :: ([] : (List (Int × Int))))) + (List.length (viewL p11 p1 (((List.length p11) : Nat) : Int)))))) fun t333 =>
    bindD ((Go.Proofs.R.grow ((List.length (viewL p11 (0 : Int) p1)) + (List.length (((p12, p13) :: ([] : (List (Int × Int)))) ++ (viewL p11 p1 (((List.length p11) : Nat) : Int))))))) fun t334 =>
    ancepsref06_Relation.l7 (Go.IntKind.wrap Go.IntKind.i64 (p0 + (1 : Int))) p2 p3 p4 p5 p6 p7 p8 p9 p10 ((viewL p11 (0 : Int) p1) ++ (((p12, p13) :: ([] : (List (Int × Int)))) ++ (viewL p11 p1 (((List.length p11) : Nat) : Int))))))
  (bindD ((subL p11 (0 : Int) p1)) fun t335 =>
   bindD ((subL p11 p1 (((List.length p11) : Nat) : Int))) fun t336 =>
   bindD ((Go.Proofs.R.grow ((List.length ((p12, p13) :: ([] : (List (Int × Int))))) + (List.length (viewL p11 p1 (((List.length p11) : Nat) : Int)))))) fun t337 =>
   bindD ((Go.Proofs.R.grow ((List.length (viewL p11 (0 : Int) p1)) + (List.length (((p12, p13) :: ([] : (List (Int × Int)))) ++ (viewL p11 p1 (((List.length p11) : Nat) : Int))))))) fun t338 =>
   ancepsref06_Relation.l7 (Go.IntKind.wrap Go.IntKind.i64 (p0 + (1 : Int))) p2 p3 p4 p5 p6 p7 p8 p9 p10 ((viewL p11 (0 : Int) p1) ++ (((p12, p13) :: ([] : (List (Int × Int)))) ++ (viewL p11 p1 (((List.length p11) : Nat) : Int))))) := (loopAt_step Go.Proofs.C06.ctx 40 14 _).trans (by kernel_rfl)
theorem slices_IndexFunc_int_int.f_eq (p0 : (List Int)) (p1 : Int) : slices_IndexFunc_int_int.f p0 p1 =
  slices_IndexFunc_int_int.l2 p0 p1 (((List.length p0) : Nat) : Int) (0 : Int) := (Einf_call Go.Proofs.C06.ctx 67 _).trans (by kernel_rfl)
theorem ancepsref06_step.f_eq (p0 : Int) (p1 : Int) (p2 : (List (List Int))) (p3 : (List Bool)) (p4 : Int) (p5 : Int) : ancepsref06_step.f p0 p1 p2 p3 p4 p5 =
  ifB (decide (p4 < (0 : Int)))
   (some ((-(1 : Int)), ()))
  (ifB (decide (p5 < (0 : Int)))
    (some ((-(1 : Int)), ()))
   (ifB (decide (p5 ≥ p0))
     (some ((-(1 : Int)), ()))
    (bindD ((ixAt p2 p4)) fun t339 =>
     bindD ((ixAt t339 p5)) fun t340 =>
     some (t340, ())))) := (Einf_call Go.Proofs.C06.ctx 55 _).trans (by kernel_rfl)
theorem automaton_visits.l8_eq (p0 : Int) (p1 : Int) (p2 : Int) (p3 : Int) (p4 : Int) (p5 : (List (List Int))) (p6 : (List Bool)) (p7 : Int) (p8 : Int) (p9 : (List (List Int))) (p10 : (List Bool)) (p11 : (List ((Int × Int) × (Int × Int)))) (p12 : (List ((Int × Int) × Bool))) (p13 : Int) (p14 : Int) : automaton_visits.l8 p0 p1 p2 p3 p4 p5 p6 p7 p8 p9 p10 p11 p12 p13 p14 =
  ifB (decide (p2 < p1))
   (bindD (automaton_next.f p3 p4 p5 p6 p13 p2) fun t401 =>
   bindD (automaton_next.f p7 p8 p9 p10 p14 p2) fun t402 =>
   ifB (!(Go.Proofs.R.mget (Go.Proofs.R.Ty.pair (Go.Proofs.R.Ty.int Go.IntKind.i64) (Go.Proofs.R.Ty.int Go.IntKind.i64)) false (t401.1, t402.1) p12).1)
    (bindD ((Go.Proofs.R.grow ((List.length p11) + (List.length (((t401.1, t402.1), (p0, p2)) :: ([] : (List ((Int × Int) × (Int × Int))))))))) fun t403 =>
    automaton_visits.l8 p0 p1 (Go.IntKind.wrap Go.IntKind.i64 (p2 + (1 : Int))) p3 p4 p5 p6 p7 p8 p9 p10 (p11 ++ (((t401.1, t402.1), (p0, p2)) :: ([] : (List ((Int × Int) × (Int × Int)))))) (Go.Proofs.R.mput (Go.Proofs.R.Ty.pair (Go.Proofs.R.Ty.int Go.IntKind.i64) (Go.Proofs.R.Ty.int Go.IntKind.i64)) (t401.1, t402.1) true p12) p13 p14)
   (automaton_visits.l8 p0 p1 (Go.IntKind.wrap Go.IntKind.i64 (p2 + (1 : Int))) p3 p4 p5 p6 p7 p8 p9 p10 p11 p12 p13 p14))
  (automaton_visits.l4 (Go.IntKind.wrap Go.IntKind.i64 (p0 + (1 : Int))) p3 p4 p5 p6 p7 p8 p9 p10 p11 p12) := (loopAt_step Go.Proofs.C06.ctx 43 8 _).trans (by kernel_rfl)
theorem ancepsref06_walk.l7_eq (p0 : Int) (p1 : Int) (p2 : Int) (p3 : Int) (p4 : (List (List Int))) (p5 : (List Bool)) (p6 : Int) (p7 : Int) (p8 : (List (List Int))) (p9 : (List Bool)) (p10 : (List ((Int × Int) × (Int × Int)))) (p11 : (List ((Int × Int) × Bool))) : ancepsref06_walk.l7 p0 p1 p2 p3 p4 p5 p6 p7 p8 p9 p10 p11 =
  ifB (decide (p1 < p2))
   (bindD ((ixAt p10 p0)) fun t430 =>
   bindD ((ixAt p10 p0)) fun t431 =>
   bindD (ancepsref06_step.f p2 p3 p4 p5 t431.1.1 p1) fun t432 =>
   bindD ((ixAt p10 p0)) fun t433 =>
   bindD ((ixAt p10 p0)) fun t434 =>
   bindD (ancepsref06_step.f p6 p7 p8 p9 t434.1.2 p1) fun t435 =>
   ifB (!(Go.Proofs.R.mget (Go.Proofs.R.Ty.pair (Go.Proofs.R.Ty.int Go.IntKind.i64) (Go.Proofs.R.Ty.int Go.IntKind.i64)) false (t432.1, t435.1) p11).1)
    (bindD ((Go.Proofs.R.grow ((List.length p10) + (List.length (((t432.1, t435.1), (p0, p1)) :: ([] : (List ((Int × Int) × (Int × Int))))))))) fun t436 =>
    ancepsref06_walk.l7 p0 (Go.IntKind.wrap Go.IntKind.i64 (p1 + (1 : Int))) p2 p3 p4 p5 p6 p7 p8 p9 (p10 ++ (((t432.1, t435.1), (p0, p1)) :: ([] : (List ((Int × Int) × (Int × Int)))))) (Go.Proofs.R.mput (Go.Proofs.R.Ty.pair (Go.Proofs.R.Ty.int Go.IntKind.i64) (Go.Proofs.R.Ty.int Go.IntKind.i64)) (t432.1, t435.1) true p11))
   (ancepsref06_walk.l7 p0 (Go.IntKind.wrap Go.IntKind.i64 (p1 + (1 : Int))) p2 p3 p4 p5 p6 p7 p8 p9 p10 p11))
  (ancepsref06_walk.l4 (Go.IntKind.wrap Go.IntKind.i64 (p0 + (1 : Int))) p2 p3 p4 p5 p6 p7 p8 p9 p10 p11) := (loopAt_step Go.Proofs.C06.ctx 54 7 _).trans (by kernel_rfl)
theorem automaton_visit.l2_eq (p0 : (List ((Int × Int) × (Int × Int)))) (p1 : Int) (p2 : Int) (p3 : (List (List Int))) (p4 : (List Bool)) (p5 : Int) (p6 : Int) (p7 : (List (List Int))) (p8 : (List Bool)) (p9 : Int) (p10 : Int) : automaton_visit.l2 p0 p1 p2 p3 p4 p5 p6 p7 p8 p9 p10 =
  ifB (decide (p10 < p9))
   (bindD ((ixAt p0 p10)) fun t469 =>
   bindD (automaton_differ_1.f t469.1.1 t469.1.2 t469.2.1 t469.2.2 p1 p2 p3 p4 p5 p6 p7 p8) fun t470 =>
   ifB t470.1
    (some (p10, ()))
   (automaton_visit.l2 p0 p1 p2 p3 p4 p5 p6 p7 p8 p9 (Go.IntKind.wrap Go.IntKind.i64 (p10 + (1 : Int)))))
  (some ((-(1 : Int)), ())) := (loopAt_step Go.Proofs.C06.ctx 69 2 _).trans (by kernel_rfl)
theorem cmp_Compare_int.f_eq (p0 : Int) (p1 : Int) : cmp_Compare_int.f p0 p1 =
  bindD (cmp_isNaN_int.f p0) fun t472 =>
  bindD (cmp_isNaN_int.f p1) fun t473 =>
  ifB t472.1
   (ifB t473.1
    (some ((0 : Int), ()))
   (some ((-(1 : Int)), ())))
  (ifB t473.1
    (some ((1 : Int), ()))
   (ifB (decide (p0 < p1))
     (some ((-(1 : Int)), ()))
    (ifB (decide (p0 > p1))
      (some ((1 : Int), ()))
     (some ((0 : Int), ()))))) := (Einf_call Go.Proofs.C06.ctx 73 _).trans (by kernel_rfl)
theorem cmp_Or_int.f_eq (p0 : (List Int)) : cmp_Or_int.f p0 =
  cmp_Or_int.l3 (0 : Int) p0 (((List.length p0) : Nat) : Int) (0 : Int) := (Einf_call Go.Proofs.C06.ctx 72 _).trans (by kernel_rfl)
theorem api_Pair_61.f_eq (p0 : (List (Int × Int))) (p1 : Int) (p2 : Int) : api_Pair_61.f p0 p1 p2 =
  api_Pair_61.l3 p0 (((List.length p0) : Nat) : Int) (0 : Int) (((List.length p0) : Nat) : Int) p1 p2 := (Einf_call Go.Proofs.C06.ctx 61 _).trans (by kernel_rfl)
theorem automaton_CheckRelation.l19_eq (p0 : (List (Int × Int))) (p1 : Int) (p2 : Int) (p3 : Int) (p4 : Int) (p5 : Int) (p6 : Int) (p7 : (List (List Int))) (p8 : (List Bool)) (p9 : Int) (p10 : Int) (p11 : (List (List Int))) (p12 : (List Bool)) (p13 : (List (Int × Int))) (p14 : Int) (p15 : Int) (p16 : Int) (p17 : Int) : automaton_CheckRelation.l19 p0 p1 p2 p3 p4 p5 p6 p7 p8 p9 p10 p11 p12 p13 p14 p15 p16 p17 =
  ifB (decide (p4 < p3))
   (bindD (automaton_next.f p5 p6 p7 p8 p16 p4) fun t474 =>
   bindD (automaton_next.f p9 p10 p11 p12 p17 p4) fun t475 =>
   bindD (automaton_CheckRelation_1.f t474.1 t475.1 p13 p14 p15) fun t476 =>
   ifB (!t476.1)
    (some (false, ()))
   (automaton_CheckRelation.l19 p0 p1 p2 p3 (Go.IntKind.wrap Go.IntKind.i64 (p4 + (1 : Int))) p5 p6 p7 p8 p9 p10 p11 p12 p13 p14 p15 p16 p17))
  (automaton_CheckRelation.l14 p0 p1 (Go.IntKind.wrap Go.IntKind.i64 (p2 + (1 : Int))) p5 p6 p7 p8 p9 p10 p11 p12 p13 p14 p15) := (loopAt_step Go.Proofs.C06.ctx 36 19 _).trans (by kernel_rfl)
theorem slices_IndexFunc_int_int.l2_eq (p0 : (List Int)) (p1 : Int) (p2 : Int) (p3 : Int) : slices_IndexFunc_int_int.l2 p0 p1 p2 p3 =
  ifB (decide (p3 < p2))
   (bindD ((ixAt p0 p3)) fun t477 =>
   bindD (automaton_Valid_1.f t477 p1) fun t478 =>
   ifB t478.1
    (some (p3, ()))
   (slices_IndexFunc_int_int.l2 p0 p1 p2 (Go.IntKind.wrap Go.IntKind.i64 (p3 + (1 : Int)))))
  (some ((-(1 : Int)), ())) := (loopAt_step Go.Proofs.C06.ctx 67 2 _).trans (by kernel_rfl)
theorem automaton_differ_1.f_eq (p0 : Int) (p1 : Int) (p2 : Int) (p3 : Int) (p4 : Int) (p5 : Int) (p6 : (List (List Int))) (p7 : (List Bool)) (p8 : Int) (p9 : Int) (p10 : (List (List Int))) (p11 : (List Bool)) : automaton_differ_1.f p0 p1 p2 p3 p4 p5 p6 p7 p8 p9 p10 p11 =
  bindD (automaton_ends.f p4 p5 p6 p7 p0) fun t483 =>
  bindD (automaton_ends.f p8 p9 p10 p11 p1) fun t484 =>
  some ((!(t483.1 == t484.1)), ()) := (Einf_call Go.Proofs.C06.ctx 70 _).trans (by kernel_rfl)
theorem cmp_isNaN_int.f_eq (p0 : Int) : cmp_isNaN_int.f p0 =
  some ((p0 != p0), ()) := (Einf_call Go.Proofs.C06.ctx 79 _).trans (by kernel_rfl)
theorem cmp_Or_int.l3_eq (p0 : Int) (p1 : (List Int)) (p2 : Int) (p3 : Int) : cmp_Or_int.l3 p0 p1 p2 p3 =
  ifB (decide (p3 < p2))
   (bindD ((ixAt p1 p3)) fun t492 =>
   ifB (t492 != p0)
    (some (t492, ()))
   (cmp_Or_int.l3 p0 p1 p2 (Go.IntKind.wrap Go.IntKind.i64 (p3 + (1 : Int)))))
  (some (p0, ())) := (loopAt_step Go.Proofs.C06.ctx 72 3 _).trans (by kernel_rfl)
theorem api_Pair_61.l3_eq (p0 : (List (Int × Int))) (p1 : Int) (p2 : Int) (p3 : Int) (p4 : Int) (p5 : Int) : api_Pair_61.l3 p0 p1 p2 p3 p4 p5 =
  ifB (decide (p2 < p3))
   (bindD ((ixAt p0 (Go.IntKind.wrap Go.IntKind.i64 (Go.Proofs.R.shrInt Go.IntKind.u64 (Go.IntKind.wrap Go.IntKind.u64 (Go.IntKind.wrap Go.IntKind.i64 (p2 + p3))) (1 : Int))))) fun t493 =>
   bindD (automaton_order.f t493.1 t493.2 p4 p5) fun t494 =>
   ifB (decide (t494.1 < (0 : Int)))
    (api_Pair_61.l3 p0 p1 (Go.IntKind.wrap Go.IntKind.i64 ((Go.IntKind.wrap Go.IntKind.i64 (Go.Proofs.R.shrInt Go.IntKind.u64 (Go.IntKind.wrap Go.IntKind.u64 (Go.IntKind.wrap Go.IntKind.i64 (p2 + p3))) (1 : Int))) + (1 : Int))) p3 p4 p5)
   (api_Pair_61.l3 p0 p1 p2 (Go.IntKind.wrap Go.IntKind.i64 (Go.Proofs.R.shrInt Go.IntKind.u64 (Go.IntKind.wrap Go.IntKind.u64 (Go.IntKind.wrap Go.IntKind.i64 (p2 + p3))) (1 : Int))) p4 p5))
  (ifB (decide (p2 < p1))
    (bindD ((ixAt p0 p2)) fun t495 =>
    bindD (automaton_order.f t495.1 t495.2 p4 p5) fun t496 =>
    some (p2, ((t496.1 == (0 : Int)), ())))
   (some (p2, (false, ())))) := (loopAt_step Go.Proofs.C06.ctx 61 3 _).trans (by kernel_rfl)
theorem automaton_Valid_1.f_eq (p0 : Int) (p1 : Int) : automaton_Valid_1.f p0 p1 =
  ifB (decide (p0 < (-(1 : Int))))
   (some (true, ()))
  (some ((decide (p0 ≥ p1)), ())) := (Einf_call Go.Proofs.C06.ctx 49 _).trans (by kernel_rfl)
end Go.Proofs.C06
