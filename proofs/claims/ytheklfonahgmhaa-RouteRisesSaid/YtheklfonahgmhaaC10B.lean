/- C10B: what the row's functions are, as the evaluator tells them. No condition. -/
import Derived.Test.YtheklfonahgmhaaC10
set_option linter.unusedVariables false
set_option linter.unusedSimpArgs false
set_option maxRecDepth 100000
set_option linter.unusedVariables false
namespace Go.Proofs.C10
open Go Go.Proofs.R
noncomputable def ancepslaw10_RouteRises.f (p0 : Int) (p1 : (List Int)) (p2 : (List Int)) : Option (Bool × Unit) := (Einf ctx).call 8 [(.one (.v (.int .u8) p0)), (.one (.v (.sl (.int .u16)) p1)), (.agg [(.v (.arr 2 (.int .u8)) p2)])]
noncomputable def ancepslaw10_awake.f : Option (Bool × Unit) := (Einf ctx).call 10 []
noncomputable def ancepslaw10_copied.f (p0 : Int) (p1 : (List (Int × (Int × Int)))) : Option (Int × ((List (Int × (Int × Int))) × Unit)) := (Einf ctx).call 13 [(.agg [(.v (.int .i64) p0), (.v (.sl (.pair (.int .i64) (.pair (.int .i64) (.int .i64)))) p1)])]
noncomputable def route_Best.f (p0 : Int) (p1 : (List (Int × (Int × Int)))) : Option ((List Int) × ((List Int) × (Int × Unit))) := (Einf ctx).call 12 [(.agg [(.v (.int .i64) p0), (.v (.sl (.pair (.int .i64) (.pair (.int .i64) (.int .i64)))) p1)])]
noncomputable def slices_Equal_int_int.f (p0 : (List Int)) (p1 : (List Int)) : Option (Bool × Unit) := (Einf ctx).call 15 [(.one (.v (.sl (.int .i64)) p0)), (.one (.v (.sl (.int .i64)) p1))]
noncomputable def route_Check.f (p0 : Int) (p1 : (List (Int × (Int × Int)))) (p2 : (List Int)) (p3 : (List Int)) : Option (Bool × Unit) := (Einf ctx).call 17 [(.agg [(.v (.int .i64) p0), (.v (.sl (.pair (.int .i64) (.pair (.int .i64) (.int .i64)))) p1)]), (.one (.v (.sl (.int .i64)) p2)), (.one (.v (.sl (.int .i64)) p3))]
noncomputable def slices_Clone_int_int.f (p0 : (List Int)) : Option ((List Int) × Unit) := (Einf ctx).call 18 [(.one (.v (.sl (.int .i64)) p0))]
noncomputable def dag_Cost.f (p0 : Int) (p1 : (List (Int × (Int × Int)))) (p2 : (List Int)) : Option (Int × (Int × Unit)) := (Einf ctx).call 19 [(.agg [(.v (.int .i64) p0), (.v (.sl (.pair (.int .i64) (.pair (.int .i64) (.int .i64)))) p1)]), (.one (.v (.sl (.int .i64)) p2))]
noncomputable def route_List.f (p0 : Int) (p1 : (List (Int × (Int × Int)))) (p2 : Int) : Option ((List (List Int)) × (Int × Unit)) := (Einf ctx).call 20 [(.agg [(.v (.int .i64) p0), (.v (.sl (.pair (.int .i64) (.pair (.int .i64) (.int .i64)))) p1)]), (.one (.v (.int .i64) p2))]
noncomputable def ancepsref09_Lists.f (p0 : (List (List Int))) (p1 : (List (List Int))) : Option (Bool × Unit) := (Einf ctx).call 22 [(.one (.v (.sl (.sl (.int .i64))) p0)), (.one (.v (.sl (.sl (.int .i64))) p1))]
noncomputable def route_Next.f (p0 : Int) (p1 : (List (Int × (Int × Int)))) (p2 : (List Int)) : Option ((List Int) × (Int × Unit)) := (Einf ctx).call 23 [(.agg [(.v (.int .i64) p0), (.v (.sl (.pair (.int .i64) (.pair (.int .i64) (.int .i64)))) p1)]), (.one (.v (.sl (.int .i64)) p2))]
noncomputable def route_Rank.f (p0 : Int) (p1 : (List (Int × (Int × Int)))) (p2 : (List Int)) : Option (Int × (Int × Unit)) := (Einf ctx).call 25 [(.agg [(.v (.int .i64) p0), (.v (.sl (.pair (.int .i64) (.pair (.int .i64) (.int .i64)))) p1)]), (.one (.v (.sl (.int .i64)) p2))]
noncomputable def ancepsref09_Made.f (p0 : Int) (p1 : (List Int)) : Option (Int × ((List (Int × (Int × Int))) × Unit)) := (Einf ctx).call 27 [(.one (.v (.int .u8) p0)), (.one (.v (.sl (.int .u16)) p1))]
noncomputable def ancepslaw10_example.f : Option (Int × ((List (Int × (Int × Int))) × Unit)) := (Einf ctx).call 31 []
noncomputable def route_Ways.f (p0 : Int) (p1 : (List (Int × (Int × Int)))) (p2 : Int) : Option (Int × (Int × Unit)) := (Einf ctx).call 32 [(.agg [(.v (.int .i64) p0), (.v (.sl (.pair (.int .i64) (.pair (.int .i64) (.int .i64)))) p1)]), (.one (.v (.int .i64) p2))]
noncomputable def api_Arc.f (p0 : (List (Int × (Int × Int)))) : Option ((List (Int × (Int × Int))) × Unit) := (Einf ctx).call 38 [(.one (.v (.sl (.pair (.int .i64) (.pair (.int .i64) (.int .i64)))) p0))]
noncomputable def dag_Valid.f (p0 : Int) (p1 : (List (Int × (Int × Int)))) : Option (Int × Unit) := (Einf ctx).call 33 [(.agg [(.v (.int .i64) p0), (.v (.sl (.pair (.int .i64) (.pair (.int .i64) (.int .i64)))) p1)])]
noncomputable def route_costs.f (p0 : Int) (p1 : (List (Int × (Int × Int)))) : Option ((List Int) × Unit) := (Einf ctx).call 34 [(.agg [(.v (.int .i64) p0), (.v (.sl (.pair (.int .i64) (.pair (.int .i64) (.int .i64)))) p1)])]
noncomputable def route_outgoing.f (p0 : Int) (p1 : (List (Int × (Int × Int)))) : Option ((List (List Int)) × Unit) := (Einf ctx).call 35 [(.agg [(.v (.int .i64) p0), (.v (.sl (.pair (.int .i64) (.pair (.int .i64) (.int .i64)))) p1)])]
noncomputable def route_Best.l10 (p0 : Int) (p1 : (List (Int × (Int × Int)))) (p2 : (List (List Int))) (p3 : (List Int)) (p4 : Int) (p5 : (List Int)) : Option ((List Int) × ((List Int) × (Int × Unit))) := loopAt ctx (Einf ctx) 12 10 (.mk [(1, (.one (.ref 7 0))), (6, (.one (.ref 15 0))), (7, (.one (.row 23))), (8, (.one (.row 31))), (9, (.one (.ref 39 0)))] [(7, (.box 24 [(.v (.int .i64) p0), (.v (.sl (.pair (.int .i64) (.pair (.int .i64) (.int .i64)))) p1)])), (15, (.box 27 [(.row 47)])), (23, (.row 27 (.sl (.int .i64)) p2 false)), (31, (.row 3 (.int .i64) p3 false)), (39, (.box 3 [(.v (.int .i64) p4)])), (47, (.row 3 (.int .i64) p5 false))])
noncomputable def slices_Equal_int_int.l4 (p0 : (List Int)) (p1 : (List Int)) (p2 : Int) (p3 : Int) : Option (Bool × Unit) := loopAt ctx (Einf ctx) 15 4 (.mk [(0, (.one (.v (.sl (.int .i64)) p0))), (1, (.one (.v (.sl (.int .i64)) p1))), (12, (.one (.v (.int .i64) p2))), (13, (.one (.v (.int .i64) p3)))] [])
noncomputable def ancepsref09_Sum.f (p0 : Int) (p1 : (List (Int × (Int × Int)))) (p2 : (List Int)) : Option (Int × Unit) := (Einf ctx).call 42 [(.agg [(.v (.int .i64) p0), (.v (.sl (.pair (.int .i64) (.pair (.int .i64) (.int .i64)))) p1)]), (.one (.v (.sl (.int .i64)) p2))]
noncomputable def dag_Check.f (p0 : Int) (p1 : (List (Int × (Int × Int)))) (p2 : (List Int)) : Option (Bool × Unit) := (Einf ctx).call 43 [(.agg [(.v (.int .i64) p0), (.v (.sl (.pair (.int .i64) (.pair (.int .i64) (.int .i64)))) p1)]), (.one (.v (.sl (.int .i64)) p2))]
noncomputable def slices_ContainsFunc_int_int.f (p0 : (List Int)) : Option (Bool × Unit) := (Einf ctx).call 44 [(.one (.v (.sl (.int .i64)) p0)), (.one (.clo 45 []))]
noncomputable def api_Arc_46.f (p0 : (List (Int × (Int × Int)))) (p1 : (List Int)) : Option (Bool × Unit) := (Einf ctx).call 46 [(.one (.v (.sl (.pair (.int .i64) (.pair (.int .i64) (.int .i64)))) p0)), (.one (.clo 47 [(.pref [(.v (.sl (.int .i64)) p1)] 0)]))]
noncomputable def dag_Cost.l8 (p0 : Int) (p1 : (List Int)) (p2 : Int) (p3 : Int) (p4 : Int) (p5 : (List (Int × (Int × Int)))) : Option (Int × (Int × Unit)) := loopAt ctx (Einf ctx) 19 8 (.mk [(2, (.one (.ref 7 0))), (7, (.one (.v (.int .i64) p0))), (19, (.one (.v (.sl (.int .i64)) p1))), (20, (.one (.v (.int .i64) p2))), (21, (.one (.v (.int .i64) p3)))] [(7, (.box 24 [(.v (.int .i64) p4), (.v (.sl (.pair (.int .i64) (.pair (.int .i64) (.int .i64)))) p5)]))])
noncomputable def route_all.f (p0 : Int) (p1 : (List (Int × (Int × Int)))) : Option ((List ((List Int) × Int)) × (Int × Unit)) := (Einf ctx).call 48 [(.agg [(.v (.int .i64) p0), (.v (.sl (.pair (.int .i64) (.pair (.int .i64) (.int .i64)))) p1)])]
noncomputable def route_List.l11 (p0 : (List ((List Int) × Int))) (p1 : Int) (p2 : Int) (p3 : (List (List Int))) : Option ((List (List Int)) × (Int × Unit)) := loopAt ctx (Einf ctx) 20 11 (.mk [(9, (.one (.row 7))), (36, (.one (.v (.sl (.pair (.sl (.int .i64)) (.int .i64))) p0))), (37, (.one (.v (.int .i64) p1))), (38, (.one (.v (.int .i64) p2)))] [(7, (.row 27 (.sl (.int .i64)) p3 false))])
noncomputable def ancepsref09_Lists.l4 (p0 : (List (List Int))) (p1 : (List (List Int))) (p2 : Int) : Option (Bool × Unit) := loopAt ctx (Einf ctx) 22 4 (.mk [(0, (.one (.v (.sl (.sl (.int .i64))) p0))), (1, (.one (.v (.sl (.sl (.int .i64))) p1))), (5, (.one (.v (.int .i64) p2)))] [])
noncomputable def route_place.f (p0 : Int) (p1 : (List (Int × (Int × Int)))) (p2 : (List Int)) : Option ((List ((List Int) × Int)) × (Int × (Int × Unit))) := (Einf ctx).call 51 [(.agg [(.v (.int .i64) p0), (.v (.sl (.pair (.int .i64) (.pair (.int .i64) (.int .i64)))) p1)]), (.one (.v (.sl (.int .i64)) p2))]
noncomputable def ancepsref09_Made.l3 (p0 : (List Int)) (p1 : Int) (p2 : Int) (p3 : Int) (p4 : (List (Int × (Int × Int)))) (p5 : (List (Int × (Int × Int)))) : Option (Int × ((List (Int × (Int × Int))) × Unit)) := loopAt ctx (Einf ctx) 27 3 (.mk [(1, (.one (.v (.sl (.int .u16)) p0))), (4, (.one (.ref 7 0))), (5, (.one (.ref 15 0))), (6, (.one (.v (.int .i64) p1)))] [(7, (.box 24 [(.v (.int .i64) p2), (.row 23)])), (15, (.box 24 [(.v (.int .i64) p3), (.row 31)])), (23, (.row 52 (.pair (.int .i64) (.pair (.int .i64) (.int .i64))) p4 false)), (31, (.row 52 (.pair (.int .i64) (.pair (.int .i64) (.int .i64))) p5 false))])
noncomputable def dag_Valid.l7 (p0 : (List (Int × (Int × Int)))) (p1 : Int) (p2 : Int) (p3 : Int) (p4 : (List (Int × (Int × Int)))) : Option (Int × Unit) := loopAt ctx (Einf ctx) 33 7 (.mk [(3, (.one (.clo 54 [(.ref 7 0)]))), (22, (.one (.v (.sl (.pair (.int .i64) (.pair (.int .i64) (.int .i64)))) p0))), (23, (.one (.v (.int .i64) p1))), (24, (.one (.v (.int .i64) p2)))] [(7, (.box 24 [(.v (.int .i64) p3), (.v (.sl (.pair (.int .i64) (.pair (.int .i64) (.int .i64)))) p4)]))])
noncomputable def route_costs.l3 (p0 : Int) (p1 : Int) (p2 : Int) (p3 : (List (Int × (Int × Int)))) (p4 : (List Int)) : Option ((List Int) × Unit) := loopAt ctx (Einf ctx) 34 3 (.mk [(1, (.one (.ref 7 0))), (3, (.one (.row 15))), (13, (.one (.v (.int .i64) p0))), (14, (.one (.v (.int .i64) p1)))] [(7, (.box 24 [(.v (.int .i64) p2), (.v (.sl (.pair (.int .i64) (.pair (.int .i64) (.int .i64)))) p3)])), (15, (.row 3 (.int .i64) p4 false))])
noncomputable def route_outgoing.l3 (p0 : (List (Int × (Int × Int)))) (p1 : Int) (p2 : Int) (p3 : (List (List Int))) : Option ((List (List Int)) × Unit) := loopAt ctx (Einf ctx) 35 3 (.mk [(3, (.one (.row 7))), (10, (.one (.v (.sl (.pair (.int .i64) (.pair (.int .i64) (.int .i64)))) p0))), (11, (.one (.v (.int .i64) p1))), (12, (.one (.v (.int .i64) p2)))] [(7, (.rows 27 3 (.int .i64) p3 .full))])
noncomputable def slices_IndexFunc_int_int.f (p0 : (List Int)) (p1 : Int) (p2 : (List (Int × (Int × Int)))) (p3 : (List Int)) (p4 : Int) : Option (Int × Unit) := (Einf ctx).call 36 [(.one (.v (.sl (.int .i64)) p0)), (.one (.clo 37 [(.pref [(.v (.int .i64) p1), (.v (.sl (.pair (.int .i64) (.pair (.int .i64) (.int .i64)))) p2)] 0), (.pref [(.v (.sl (.int .i64)) p3)] 0), (.pref [(.v (.int .i64) p4)] 0)]))]
noncomputable def ancepsref09_Sum.l3 (p0 : (List Int)) (p1 : Int) (p2 : Int) (p3 : Int) (p4 : (List (Int × (Int × Int)))) : Option (Int × Unit) := loopAt ctx (Einf ctx) 42 3 (.mk [(1, (.one (.v (.sl (.int .i64)) p0))), (2, (.one (.ref 7 0))), (5, (.one (.v (.int .i64) p1))), (6, (.one (.v (.int .i64) p2)))] [(7, (.box 24 [(.v (.int .i64) p3), (.v (.sl (.pair (.int .i64) (.pair (.int .i64) (.int .i64)))) p4)]))])
noncomputable def dag_Check.l5 (p0 : Int) (p1 : (List Int)) (p2 : Int) (p3 : Int) (p4 : Int) (p5 : (List (Int × (Int × Int)))) : Option (Bool × Unit) := loopAt ctx (Einf ctx) 43 5 (.mk [(2, (.one (.ref 7 0))), (5, (.one (.v (.int .i64) p0))), (11, (.one (.v (.sl (.int .i64)) p1))), (12, (.one (.v (.int .i64) p2))), (13, (.one (.v (.int .i64) p3)))] [(7, (.box 24 [(.v (.int .i64) p4), (.v (.sl (.pair (.int .i64) (.pair (.int .i64) (.int .i64)))) p5)]))])
noncomputable def slices_IndexFunc_int_int.f1 (p0 : (List Int)) : Option (Int × Unit) := (Einf ctx).call 36 [(.one (.v (.sl (.int .i64)) p0)), (.one (.clo 45 []))]
noncomputable def api_Arc_55.f (p0 : (List (Int × (Int × Int)))) (p1 : (List Int)) : Option (Int × Unit) := (Einf ctx).call 55 [(.one (.v (.sl (.pair (.int .i64) (.pair (.int .i64) (.int .i64)))) p0)), (.one (.clo 47 [(.pref [(.v (.sl (.int .i64)) p1)] 0)]))]
noncomputable def dag_Paths.f (p0 : Int) (p1 : (List (Int × (Int × Int)))) : Option ((List (List Int)) × (Int × Unit)) := (Einf ctx).call 56 [(.agg [(.v (.int .i64) p0), (.v (.sl (.pair (.int .i64) (.pair (.int .i64) (.int .i64)))) p1)])]
noncomputable def route_all.l6 (p0 : Int) (p1 : Int) (p2 : Int) (p3 : (List (Int × (Int × Int)))) (p4 : (List ((List Int) × Int))) (p5 : (List (List Int))) : Option ((List ((List Int) × Int)) × (Int × Unit)) := loopAt ctx (Einf ctx) 48 6 (.mk [(1, (.one (.ref 7 0))), (6, (.one (.row 15))), (20, (.one (.row 23))), (21, (.one (.v (.int .i64) p0))), (22, (.one (.v (.int .i64) p1)))] [(7, (.box 24 [(.v (.int .i64) p2), (.v (.sl (.pair (.int .i64) (.pair (.int .i64) (.int .i64)))) p3)])), (15, (.row 70 (.pair (.sl (.int .i64)) (.int .i64)) p4 false)), (23, (.row 27 (.sl (.int .i64)) p5 false))])
noncomputable def ancepsref09_Ints.f (p0 : (List Int)) (p1 : (List Int)) : Option (Bool × Unit) := (Einf ctx).call 50 [(.one (.v (.sl (.int .i64)) p0)), (.one (.v (.sl (.int .i64)) p1))]
noncomputable def route_listed_61.f (p0 : (List ((List Int) × Int))) (p1 : (List Int)) : Option (Int × Unit) := (Einf ctx).call 61 [(.one (.v (.sl (.pair (.sl (.int .i64)) (.int .i64))) p0)), (.one (.clo 62 [(.pref [(.v (.sl (.int .i64)) p1)] 0)]))]
noncomputable def dag_Valid_1.f (p0 : Int) (p1 : Int) (p2 : (List (Int × (Int × Int)))) : Option (Bool × Unit) := (Einf ctx).call 54 [(.one (.v (.int .i64) p0)), (.one (.pref [(.v (.int .i64) p1), (.v (.sl (.pair (.int .i64) (.pair (.int .i64) (.int .i64)))) p2)] 0))]
noncomputable def route_backwards.f (p0 : Int) (p1 : (List (Int × (Int × Int)))) : Option ((List Int) × Unit) := (Einf ctx).call 53 [(.agg [(.v (.int .i64) p0), (.v (.sl (.pair (.int .i64) (.pair (.int .i64) (.int .i64)))) p1)])]
noncomputable def route_costs.l9 (p0 : Int) (p1 : Int) (p2 : Int) (p3 : (List (Int × (Int × Int)))) (p4 : (List Int)) (p5 : (List Int)) : Option ((List Int) × Unit) := loopAt ctx (Einf ctx) 34 9 (.mk [(1, (.one (.ref 7 0))), (3, (.one (.row 15))), (27, (.one (.row 23))), (28, (.one (.v (.int .i64) p0))), (29, (.one (.v (.int .i64) p1)))] [(7, (.box 24 [(.v (.int .i64) p2), (.v (.sl (.pair (.int .i64) (.pair (.int .i64) (.int .i64)))) p3)])), (15, (.row 3 (.int .i64) p4 false)), (23, (.row 3 (.int .i64) p5 false))])
noncomputable def slices_IndexFunc_int_int.l2 (p0 : (List Int)) (p1 : Int) (p2 : (List (Int × (Int × Int)))) (p3 : (List Int)) (p4 : Int) (p5 : Int) (p6 : Int) : Option (Int × Unit) := loopAt ctx (Einf ctx) 36 2 (.mk [(0, (.one (.v (.sl (.int .i64)) p0))), (1, (.one (.clo 37 [(.pref [(.v (.int .i64) p1), (.v (.sl (.pair (.int .i64) (.pair (.int .i64) (.int .i64)))) p2)] 0), (.pref [(.v (.sl (.int .i64)) p3)] 0), (.pref [(.v (.int .i64) p4)] 0)]))), (7, (.one (.v (.int .i64) p5))), (8, (.one (.v (.int .i64) p6)))] [])
noncomputable def slices_IndexFunc_int_int.l2_1 (p0 : (List Int)) (p1 : Int) (p2 : Int) : Option (Int × Unit) := loopAt ctx (Einf ctx) 36 2 (.mk [(0, (.one (.v (.sl (.int .i64)) p0))), (1, (.one (.clo 45 []))), (7, (.one (.v (.int .i64) p1))), (8, (.one (.v (.int .i64) p2)))] [])
noncomputable def api_Arc_55.l2 (p0 : (List (Int × (Int × Int)))) (p1 : (List Int)) (p2 : Int) (p3 : Int) : Option (Int × Unit) := loopAt ctx (Einf ctx) 55 2 (.mk [(0, (.one (.v (.sl (.pair (.int .i64) (.pair (.int .i64) (.int .i64)))) p0))), (1, (.one (.clo 47 [(.pref [(.v (.sl (.int .i64)) p1)] 0)]))), (7, (.one (.v (.int .i64) p2))), (8, (.one (.v (.int .i64) p3)))] [])
noncomputable def dag_ways.f (p0 : Int) (p1 : (List (Int × (Int × Int)))) : Option ((List Int) × Unit) := (Einf ctx).call 67 [(.agg [(.v (.int .i64) p0), (.v (.sl (.pair (.int .i64) (.pair (.int .i64) (.int .i64)))) p1)])]
noncomputable def dag_byFrom.f (p0 : Int) (p1 : (List (Int × (Int × Int)))) : Option ((List (List Int)) × Unit) := (Einf ctx).call 68 [(.agg [(.v (.int .i64) p0), (.v (.sl (.pair (.int .i64) (.pair (.int .i64) (.int .i64)))) p1)])]
noncomputable def dag_Paths_1.f (p0 : Int) (p1 : Int) (p2 : (List (Int × (Int × Int)))) (p3 : (List (List Int))) (p4 : (List Int)) (p5 : (List (List Int))) (p6 : (List Int)) : Option (Int × ((List (Int × (Int × Int))) × ((List (List Int)) × ((List Int) × ((List (List Int)) × ((List Int) × Unit)))))) := (Einf ctx).call 69 [(.one (.v (.int .i64) p0)), (.one (.ref 7 0)), (.one (.ref 15 0)), (.one (.ref 23 0)), (.one (.ref 31 0)), (.one (.ref 39 0)), (.one (.ref 47 0)), (.agg [(.v (.int .i64) p1), (.v (.sl (.pair (.int .i64) (.pair (.int .i64) (.int .i64)))) p2)]), (.agg [(.v (.sl (.sl (.int .i64))) p3)]), (.agg [(.v (.sl (.int .i64)) p4)]), (.agg [(.v (.sl (.sl (.int .i64))) p5)]), (.agg [(.v (.sl (.int .i64)) p6)]), (.agg [])]
noncomputable def route_all.l10 (p0 : (List Int)) (p1 : Int) (p2 : Int) (p3 : Int) (p4 : (List Int)) (p5 : Int) (p6 : Int) (p7 : Int) (p8 : (List (Int × (Int × Int)))) (p9 : (List ((List Int) × Int))) (p10 : (List (List Int))) : Option ((List ((List Int) × Int)) × (Int × Unit)) := loopAt ctx (Einf ctx) 48 10 (.mk [(1, (.one (.ref 7 0))), (6, (.one (.row 15))), (8, (.one (.v (.sl (.int .i64)) p0))), (9, (.one (.v (.int .i64) p1))), (20, (.one (.row 23))), (21, (.one (.v (.int .i64) p2))), (22, (.one (.v (.int .i64) p3))), (26, (.one (.v (.sl (.int .i64)) p4))), (27, (.one (.v (.int .i64) p5))), (28, (.one (.v (.int .i64) p6)))] [(7, (.box 24 [(.v (.int .i64) p7), (.v (.sl (.pair (.int .i64) (.pair (.int .i64) (.int .i64)))) p8)])), (15, (.row 70 (.pair (.sl (.int .i64)) (.int .i64)) p9 false)), (23, (.row 27 (.sl (.int .i64)) p10 false))])
noncomputable def route_order.f (p0 : (List Int)) (p1 : Int) (p2 : (List Int)) (p3 : Int) : Option (Int × Unit) := (Einf ctx).call 58 [(.agg [(.v (.sl (.int .i64)) p0), (.v (.int .i64) p1)]), (.agg [(.v (.sl (.int .i64)) p2), (.v (.int .i64) p3)])]
noncomputable def ancepsref09_Ints.l4 (p0 : (List Int)) (p1 : (List Int)) (p2 : Int) : Option (Bool × Unit) := loopAt ctx (Einf ctx) 50 4 (.mk [(0, (.one (.v (.sl (.int .i64)) p0))), (1, (.one (.v (.sl (.int .i64)) p1))), (5, (.one (.v (.int .i64) p2)))] [])
noncomputable def route_listed_61.l2 (p0 : (List ((List Int) × Int))) (p1 : (List Int)) (p2 : Int) (p3 : Int) : Option (Int × Unit) := loopAt ctx (Einf ctx) 61 2 (.mk [(0, (.one (.v (.sl (.pair (.sl (.int .i64)) (.int .i64))) p0))), (1, (.one (.clo 62 [(.pref [(.v (.sl (.int .i64)) p1)] 0)]))), (7, (.one (.v (.int .i64) p2))), (8, (.one (.v (.int .i64) p3)))] [])
noncomputable def route_backwards.l3 (p0 : Int) (p1 : Int) (p2 : Int) (p3 : (List (Int × (Int × Int)))) (p4 : (List Int)) : Option ((List Int) × Unit) := loopAt ctx (Einf ctx) 53 3 (.mk [(1, (.one (.ref 7 0))), (3, (.one (.row 15))), (10, (.one (.v (.int .i64) p0))), (11, (.one (.v (.int .i64) p1)))] [(7, (.box 24 [(.v (.int .i64) p2), (.v (.sl (.pair (.int .i64) (.pair (.int .i64) (.int .i64)))) p3)])), (15, (.row 3 (.int .i64) p4 false))])
noncomputable def route_Best_1.f (p0 : Int) (p1 : Int) (p2 : (List (Int × (Int × Int)))) (p3 : (List Int)) (p4 : Int) : Option (Bool × Unit) := (Einf ctx).call 37 [(.one (.v (.int .i64) p0)), (.one (.pref [(.v (.int .i64) p1), (.v (.sl (.pair (.int .i64) (.pair (.int .i64) (.int .i64)))) p2)] 0)), (.one (.pref [(.v (.sl (.int .i64)) p3)] 0)), (.one (.pref [(.v (.int .i64) p4)] 0))]
noncomputable def route_Check_1.f (p0 : Int) : Option (Bool × Unit) := (Einf ctx).call 45 [(.one (.v (.int .i64) p0))]
noncomputable def route_Check_2.f (p0 : Int) (p1 : Int) (p2 : Int) (p3 : (List Int)) : Option (Bool × Unit) := (Einf ctx).call 47 [(.agg [(.v (.int .i64) p0), (.v (.int .i64) p1), (.v (.int .i64) p2)]), (.one (.pref [(.v (.sl (.int .i64)) p3)] 0))]
noncomputable def dag_byFrom.l3 (p0 : (List (Int × (Int × Int)))) (p1 : Int) (p2 : Int) (p3 : (List (List Int))) : Option ((List (List Int)) × Unit) := loopAt ctx (Einf ctx) 68 3 (.mk [(3, (.one (.row 7))), (10, (.one (.v (.sl (.pair (.int .i64) (.pair (.int .i64) (.int .i64)))) p0))), (11, (.one (.v (.int .i64) p1))), (12, (.one (.v (.int .i64) p2)))] [(7, (.rows 27 3 (.int .i64) p3 .full))])
noncomputable def dag_Paths_1.l3 (p0 : (List Int)) (p1 : Int) (p2 : Int) (p3 : Int) (p4 : (List (Int × (Int × Int)))) (p5 : (List Int)) (p6 : (List (List Int))) (p7 : (List Int)) (p8 : (List (List Int))) : Option (Int × ((List (Int × (Int × Int))) × ((List (List Int)) × ((List Int) × ((List (List Int)) × ((List Int) × Unit)))))) := loopAt ctx (Einf ctx) 69 3 (.mk [(1, (.one (.ref 7 0))), (3, (.one (.ref 15 0))), (5, (.one (.ref 23 0))), (6, (.one (.ref 31 0))), (24, (.one (.v (.sl (.int .i64)) p0))), (25, (.one (.v (.int .i64) p1))), (26, (.one (.v (.int .i64) p2))), (2097152, (.one (.ref 7 0))), (2097153, (.one (.ref 39 0))), (2097154, (.one (.ref 15 0))), (2097155, (.one (.ref 47 0))), (2097156, (.one (.ref 23 0))), (2097157, (.one (.ref 31 0)))] [(7, (.box 24 [(.v (.int .i64) p3), (.v (.sl (.pair (.int .i64) (.pair (.int .i64) (.int .i64)))) p4)])), (15, (.box 27 [(.row 55)])), (23, (.box 75 [(.v (.sl (.int .i64)) p5)])), (31, (.box 88 [(.clo 69 [(.ref 7 0), (.ref 39 0), (.ref 15 0), (.ref 47 0), (.ref 23 0), (.ref 31 0)])])), (39, (.box 37 [(.row 63)])), (47, (.box 37 [(.v (.sl (.sl (.int .i64))) p6)])), (55, (.row 3 (.int .i64) p7 false)), (63, (.row 27 (.sl (.int .i64)) p8 false))])
noncomputable def cmp_Compare_int.f (p0 : Int) (p1 : Int) : Option (Int × Unit) := (Einf ctx).call 66 [(.one (.v (.int .i64) p0)), (.one (.v (.int .i64) p1))]
noncomputable def slices_Compare_int_int.f (p0 : (List Int)) (p1 : (List Int)) : Option (Int × Unit) := (Einf ctx).call 73 [(.one (.v (.sl (.int .i64)) p0)), (.one (.v (.sl (.int .i64)) p1))]
noncomputable def cmp_Or_int.f (p0 : (List Int)) : Option (Int × Unit) := (Einf ctx).call 72 [(.one (.v (.sl (.int .i64)) p0))]
noncomputable def route_place_1.f (p0 : (List Int)) (p1 : Int) (p2 : (List Int)) : Option (Bool × Unit) := (Einf ctx).call 62 [(.agg [(.v (.sl (.int .i64)) p0), (.v (.int .i64) p1)]), (.one (.pref [(.v (.sl (.int .i64)) p2)] 0))]
noncomputable def route_backwards_1.f (p0 : Int) (p1 : Int) (p2 : Int) (p3 : (List (Int × (Int × Int)))) : Option (Int × Unit) := (Einf ctx).call 65 [(.one (.v (.int .i64) p0)), (.one (.v (.int .i64) p1)), (.one (.pref [(.v (.int .i64) p2), (.v (.sl (.pair (.int .i64) (.pair (.int .i64) (.int .i64)))) p3)] 0))]
noncomputable def cmp_isNaN_int.f (p0 : Int) : Option (Bool × Unit) := (Einf ctx).call 76 [(.one (.v (.int .i64) p0))]
noncomputable def slices_Compare_int_int.l2 (p0 : (List Int)) (p1 : (List Int)) (p2 : (List Int)) (p3 : Int) (p4 : Int) : Option (Int × Unit) := loopAt ctx (Einf ctx) 73 2 (.mk [(0, (.one (.v (.sl (.int .i64)) p0))), (1, (.one (.v (.sl (.int .i64)) p1))), (9, (.one (.v (.sl (.int .i64)) p2))), (10, (.one (.v (.int .i64) p3))), (11, (.one (.v (.int .i64) p4)))] [])
noncomputable def cmp_Or_int.l3 (p0 : Int) (p1 : (List Int)) (p2 : Int) (p3 : Int) : Option (Int × Unit) := loopAt ctx (Einf ctx) 72 3 (.mk [(3, (.one (.v (.int .i64) p0))), (6, (.one (.v (.sl (.int .i64)) p1))), (7, (.one (.v (.int .i64) p2))), (8, (.one (.v (.int .i64) p3)))] [])
theorem ancepslaw10_RouteRises.f_eq (p0 : Int) (p1 : (List Int)) (p2 : (List Int)) : ancepslaw10_RouteRises.f p0 p1 p2 =
 bindD ((ixAt p2 (0 : Int))) fun t71 =>
 bindD ((ixAt p2 (0 : Int))) fun t72 =>
 bindD ((ixAt p2 (1 : Int))) fun t73 =>
 bindD ((ixAt p2 (1 : Int))) fun t74 =>
 bindD (ancepsref09_Made.f p0 p1) fun t75 =>
 bindD (ancepslaw10_awake.f) fun t76 =>
 ifB (!t76.1)
  (bindD (ancepslaw10_awake.f) fun t77 =>
  some (t77.1, ()))
 (ifB ((((List.length t75.2.1) : Nat) : Int) == (0 : Int))
  (bindD (ancepslaw10_awake.f) fun t78 =>
  some (t78.1, ()))
  (bindD (route_Best.f t75.1 t75.2.1) fun t79 =>
  bindD (ancepslaw10_copied.f t75.1 t75.2.1) fun t80 =>
  ifB ((((List.length t80.2.1) : Nat) : Int) == (0 : Int))
   (none)
  (bindD ((ixAt t80.2.1 (Int.tmod (IntKind.wrap .i64 t72) (((List.length t80.2.1) : Nat) : Int)))) fun t81 =>
   bindD ((ixAt t80.2.1 (Int.tmod (IntKind.wrap .i64 t72) (((List.length t80.2.1) : Nat) : Int)))) fun t82 =>
   bindD ((ixAt t80.2.1 (Int.tmod (IntKind.wrap .i64 t72) (((List.length t80.2.1) : Nat) : Int)))) fun t83 =>
   bindD ((ixAt t80.2.1 (Int.tmod (IntKind.wrap .i64 t72) (((List.length t80.2.1) : Nat) : Int)))) fun t84 =>
   bindD (route_Best.f t80.1 (setRow t80.2.1 (Int.tmod (IntKind.wrap .i64 t72) (((List.length t80.2.1) : Nat) : Int)) (t84.1, (t84.2.1, (IntKind.wrap .i64 (t82.2.2 + (IntKind.wrap .i64 t74))))))) fun t85 =>
   ifB (t79.2.2.1 != t85.2.2.1)
   (some ((t79.2.2.1 == t85.2.2.1), ()))
   (ifB (t79.2.2.1 != (0 : Int))
    (some ((t79.2.2.1 == t85.2.2.1), ()))
   (ifB ((((List.length t79.2.1) : Nat) : Int) == (0 : Int))
    (some (false, ()))
    (ifB ((((List.length t85.2.1) : Nat) : Int) == (0 : Int))
     (some (false, ()))
    (bindD ((ixAt t85.2.1 (0 : Int))) fun t86 =>
     bindD ((ixAt t85.2.1 (0 : Int))) fun t87 =>
     bindD ((ixAt t79.2.1 (0 : Int))) fun t88 =>
     bindD ((ixAt t79.2.1 (0 : Int))) fun t89 =>
     ifB (decide (t87 < t89))
     (some (false, ()))
     (bindD ((ixAt t85.2.1 (0 : Int))) fun t90 =>
     bindD ((ixAt t85.2.1 (0 : Int))) fun t91 =>
     bindD ((ixAt t79.2.1 (0 : Int))) fun t92 =>
     bindD ((ixAt t79.2.1 (0 : Int))) fun t93 =>
     ifB (decide (t91 > (IntKind.wrap .i64 (t93 + (IntKind.wrap .i64 t74)))))
      (some (false, ()))
     (bindD (dag_Cost.f t80.1 (setRow t80.2.1 (Int.tmod (IntKind.wrap .i64 t72) (((List.length t80.2.1) : Nat) : Int)) (t84.1, (t84.2.1, (IntKind.wrap .i64 (t82.2.2 + (IntKind.wrap .i64 t74)))))) t79.1) fun t94 =>
      bindD (dag_Cost.f t80.1 (setRow t80.2.1 (Int.tmod (IntKind.wrap .i64 t72) (((List.length t80.2.1) : Nat) : Int)) (t84.1, (t84.2.1, (IntKind.wrap .i64 (t82.2.2 + (IntKind.wrap .i64 t74)))))) t85.1) fun t95 =>
      ifB (t94.2.1 == (0 : Int))
      (ifB (t95.2.1 == (0 : Int))
       (ifB (decide (t95.1 ≤ t94.1))
       (bindD ((ixAt t79.2.1 (0 : Int))) fun t96 =>
       bindD ((ixAt t79.2.1 (0 : Int))) fun t97 =>
       ifB (t94.1 != t97)
        (some (true, ()))
       (bindD (route_Check.f t80.1 (setRow t80.2.1 (Int.tmod (IntKind.wrap .i64 t72) (((List.length t80.2.1) : Nat) : Int)) (t84.1, (t84.2.1, (IntKind.wrap .i64 (t82.2.2 + (IntKind.wrap .i64 t74)))))) t79.1 t79.2.1) fun t98 =>
        some (t98.1, ())))
       (some (false, ())))
      (some (false, ())))
      (some (false, ()))))))))))) := (Einf_call ctx 8 _).trans (by kernel_rfl)
theorem ancepslaw10_awake.f_eq : ancepslaw10_awake.f =
 bindD (ancepslaw10_example.f) fun t99 =>
 bindD (route_Best.f t99.1 t99.2.1) fun t100 =>
 bindD (route_List.f t99.1 t99.2.1 (5 : Int)) fun t101 =>
 bindD (route_Rank.f t99.1 t99.2.1 ((3 : Int) :: ((1 : Int) :: ([] : (List Int))))) fun t102 =>
 bindD (route_Next.f t99.1 t99.2.1 ((2 : Int) :: ([] : (List Int)))) fun t103 =>
 bindD (route_Ways.f t99.1 t99.2.1 (2 : Int)) fun t104 =>
 ifB (t100.2.2.1 == (0 : Int))
  (bindD (slices_Equal_int_int.f t100.1 ((0 : Int) :: ((1 : Int) :: ([] : (List Int))))) fun t105 =>
  ifB t105.1
  (bindD (slices_Equal_int_int.f t100.2.1 ((3 : Int) :: ((1 : Int) :: ((0 : Int) :: ([] : (List Int)))))) fun t106 =>
  ifB t106.1
   (ifB (t101.2.1 == (0 : Int))
   (bindD (ancepsref09_Lists.f t101.1 (((0 : Int) :: ((1 : Int) :: ([] : (List Int)))) :: (((2 : Int) :: ([] : (List Int))) :: (((3 : Int) :: ((1 : Int) :: ([] : (List Int)))) :: ([] : (List (List Int))))))) fun t107 =>
   ifB t107.1
    (ifB (t102.2.1 == (0 : Int))
    (ifB (t102.1 == (2 : Int))
     (ifB (t103.2.1 == (0 : Int))
     (bindD (slices_Equal_int_int.f t103.1 ((3 : Int) :: ((1 : Int) :: ([] : (List Int))))) fun t108 =>
     ifB t108.1
      (ifB (t104.2.1 == (0 : Int))
      (ifB (t104.1 == (0 : Int))
       (bindD (route_Check.f t99.1 t99.2.1 ((0 : Int) :: ((1 : Int) :: ([] : (List Int)))) ((3 : Int) :: ((2 : Int) :: ((0 : Int) :: ([] : (List Int)))))) fun t109 =>
       some ((!t109.1), ()))
      (some (false, ())))
      (some (false, ())))
     (some (false, ())))
     (some (false, ())))
    (some (false, ())))
    (some (false, ())))
   (some (false, ())))
   (some (false, ())))
  (some (false, ())))
  (some (false, ())))
 (some (false, ())) := (Einf_call ctx 10 _).trans (by kernel_rfl)
theorem ancepslaw10_copied.f_eq (p0 : Int) (p1 : (List (Int × (Int × Int)))) : ancepslaw10_copied.f p0 p1 =
 bindD (api_Arc.f p1) fun t110 =>
 some (p0, (t110.1, ())) := (Einf_call ctx 13 _).trans (by kernel_rfl)
theorem route_Best.f_eq (p0 : Int) (p1 : (List (Int × (Int × Int)))) : route_Best.f p0 p1 =
 bindD (dag_Valid.f p0 p1) fun t111 =>
 ifB (t111.1 != (0 : Int))
  (some (([] : (List Int)), (([] : (List Int)), (t111.1, ()))))
 (bindD (route_costs.f p0 p1) fun t112 =>
  bindD ((ixAt t112.1 (0 : Int))) fun t113 =>
  bindD ((ixAt t112.1 (0 : Int))) fun t114 =>
  ifB (decide (t114 < (0 : Int)))
  (some (([] : (List Int)), (([] : (List Int)), ((10 : Int), ()))))
  (bindD (route_outgoing.f p0 p1) fun t115 =>
  route_Best.l10 p0 p1 t115.1 ([] : (List Int)) (0 : Int) t112.1)) := (Einf_call ctx 12 _).trans (by kernel_rfl)
theorem slices_Equal_int_int.f_eq (p0 : (List Int)) (p1 : (List Int)) : slices_Equal_int_int.f p0 p1 =
 ifB ((((List.length p0) : Nat) : Int) != (((List.length p1) : Nat) : Int))
  (some (false, ()))
 (slices_Equal_int_int.l4 p0 p1 (((List.length p0) : Nat) : Int) (0 : Int)) := (Einf_call ctx 15 _).trans (by kernel_rfl)
theorem route_Check.f_eq (p0 : Int) (p1 : (List (Int × (Int × Int)))) (p2 : (List Int)) (p3 : (List Int)) : route_Check.f p0 p1 p2 p3 =
 bindD (dag_Check.f p0 p1 p2) fun t124 =>
 ifB (!t124.1)
  (some (false, ()))
 (ifB ((((List.length p3) : Nat) : Int) != p0)
  (some (false, ()))
  (bindD (slices_ContainsFunc_int_int.f p3) fun t125 =>
  ifB t125.1
   (some (false, ()))
  (bindD (dag_Cost.f p0 p1 p2) fun t126 =>
   ifB (t126.2.1 != (0 : Int))
   (some (false, ()))
   (bindD ((ixAt p3 (0 : Int))) fun t127 =>
   ifB (t127 != t126.1)
    (some (false, ()))
   (bindD ((ixAt p3 (IntKind.wrap .i64 (p0 - (1 : Int))))) fun t128 =>
    ifB (t128 != (0 : Int))
    (some (false, ()))
    (bindD (api_Arc_46.f p1 p3) fun t129 =>
    some ((!t129.1), ()))))))) := (Einf_call ctx 17 _).trans (by kernel_rfl)
theorem slices_Clone_int_int.f_eq (p0 : (List Int)) : slices_Clone_int_int.f p0 =
 bindD ((R.grow (List.length p0))) fun t130 =>
 some (p0, ()) := (Einf_call ctx 18 _).trans (by kernel_rfl)
theorem dag_Cost.f_eq (p0 : Int) (p1 : (List (Int × (Int × Int)))) (p2 : (List Int)) : dag_Cost.f p0 p1 p2 =
 bindD (dag_Valid.f p0 p1) fun t131 =>
 ifB (t131.1 != (0 : Int))
  (some ((0 : Int), (t131.1, ())))
 (bindD (dag_Check.f p0 p1 p2) fun t132 =>
  ifB (!t132.1)
  (some ((0 : Int), ((1 : Int), ())))
  (dag_Cost.l8 (0 : Int) p2 (((List.length p2) : Nat) : Int) (0 : Int) p0 p1)) := (Einf_call ctx 19 _).trans (by kernel_rfl)
theorem route_List.f_eq (p0 : Int) (p1 : (List (Int × (Int × Int)))) (p2 : Int) : route_List.f p0 p1 p2 =
 bindD (dag_Valid.f p0 p1) fun t133 =>
 ifB (t133.1 != (0 : Int))
  (some (([] : (List (List Int))), (t133.1, ())))
 (ifB (decide (p2 < (0 : Int)))
  (some (([] : (List (List Int))), ((6 : Int), ())))
  (ifB (decide (p2 > (2000 : Int)))
   (some (([] : (List (List Int))), ((6 : Int), ())))
  (bindD (route_all.f p0 p1) fun t134 =>
   ifB (t134.2.1 != (0 : Int))
   (some (([] : (List (List Int))), (t134.2.1, ())))
   (bindD ((subL t134.1 (0 : Int) (if ((((List.length t134.1) : Nat) : Int) < p2) then (((List.length t134.1) : Nat) : Int) else p2))) fun t135 =>
   route_List.l11 t135 (((List.length t135) : Nat) : Int) (0 : Int) ([] : (List (List Int))))))) := (Einf_call ctx 20 _).trans (by kernel_rfl)
theorem ancepsref09_Lists.f_eq (p0 : (List (List Int))) (p1 : (List (List Int))) : ancepsref09_Lists.f p0 p1 =
 ifB ((((List.length p0) : Nat) : Int) != (((List.length p1) : Nat) : Int))
  (some (false, ()))
 (ancepsref09_Lists.l4 p0 p1 (0 : Int)) := (Einf_call ctx 22 _).trans (by kernel_rfl)
theorem route_Next.f_eq (p0 : Int) (p1 : (List (Int × (Int × Int)))) (p2 : (List Int)) : route_Next.f p0 p1 p2 =
 bindD (route_place.f p0 p1 p2) fun t139 =>
 ifB (t139.2.2.1 != (0 : Int))
  (some (([] : (List Int)), (t139.2.2.1, ())))
 (ifB ((IntKind.wrap .i64 (t139.2.1 + (1 : Int))) == (((List.length t139.1) : Nat) : Int))
  (some (([] : (List Int)), ((10 : Int), ())))
  (bindD ((ixAt t139.1 (IntKind.wrap .i64 (t139.2.1 + (1 : Int))))) fun t140 =>
  bindD ((ixAt t139.1 (IntKind.wrap .i64 (t139.2.1 + (1 : Int))))) fun t141 =>
  some (t141.1, ((0 : Int), ())))) := (Einf_call ctx 23 _).trans (by kernel_rfl)
theorem route_Rank.f_eq (p0 : Int) (p1 : (List (Int × (Int × Int)))) (p2 : (List Int)) : route_Rank.f p0 p1 p2 =
 bindD (route_place.f p0 p1 p2) fun t146 =>
 some (t146.2.1, (t146.2.2.1, ())) := (Einf_call ctx 25 _).trans (by kernel_rfl)
theorem ancepsref09_Made.f_eq (p0 : Int) (p1 : (List Int)) : ancepsref09_Made.f p0 p1 =
 ancepsref09_Made.l3 p1 (0 : Int) (0 : Int) (IntKind.wrap .i64 ((1 : Int) + (Int.tmod (IntKind.wrap .i64 p0) (12 : Int)))) ([] : (List (Int × (Int × Int)))) ([] : (List (Int × (Int × Int)))) := (Einf_call ctx 27 _).trans (by kernel_rfl)
theorem ancepslaw10_example.f_eq : ancepslaw10_example.f =
 some ((3 : Int), ((((0 : Int), ((1 : Int), (2 : Int))) :: (((1 : Int), ((2 : Int), (1 : Int))) :: (((0 : Int), ((2 : Int), (3 : Int))) :: (((0 : Int), ((1 : Int), (2 : Int))) :: ([] : (List (Int × (Int × Int)))))))), ())) := (Einf_call ctx 31 _).trans (by kernel_rfl)
theorem api_Arc.f_eq (p0 : (List (Int × (Int × Int)))) : api_Arc.f p0 =
 bindD ((R.grow (List.length p0))) fun t163 =>
 some (p0, ()) := (Einf_call ctx 38 _).trans (by kernel_rfl)
theorem dag_Valid.f_eq (p0 : Int) (p1 : (List (Int × (Int × Int)))) : dag_Valid.f p0 p1 =
 ifB (decide (p0 < (1 : Int)))
  (some ((7 : Int), ()))
 (ifB (decide (p0 > (2000 : Int)))
  (some ((3 : Int), ()))
  (ifB (decide ((((List.length p1) : Nat) : Int) > (6000 : Int)))
   (some ((3 : Int), ()))
  (dag_Valid.l7 p1 (((List.length p1) : Nat) : Int) (0 : Int) p0 p1))) := (Einf_call ctx 33 _).trans (by kernel_rfl)
theorem route_costs.f_eq (p0 : Int) (p1 : (List (Int × (Int × Int)))) : route_costs.f p0 p1 =
 bindD ((Go.Proofs.R.mkLen p0 p0)) fun t164 =>
 route_costs.l3 (((List.length (List.replicate t164 (0 : Int))) : Nat) : Int) (0 : Int) p0 p1 (List.replicate t164 (0 : Int)) := (Einf_call ctx 34 _).trans (by kernel_rfl)
theorem route_outgoing.f_eq (p0 : Int) (p1 : (List (Int × (Int × Int)))) : route_outgoing.f p0 p1 =
 bindD ((Go.Proofs.R.mkLen p0 p0)) fun t165 =>
 route_outgoing.l3 p1 (((List.length p1) : Nat) : Int) (0 : Int) (List.replicate t165 ([] : (List Int))) := (Einf_call ctx 35 _).trans (by kernel_rfl)
theorem route_Best.l10_eq (p0 : Int) (p1 : (List (Int × (Int × Int)))) (p2 : (List (List Int))) (p3 : (List Int)) (p4 : Int) (p5 : (List Int)) : route_Best.l10 p0 p1 p2 p3 p4 p5 =
 ifB (p4 != (IntKind.wrap .i64 (p0 - (1 : Int))))
  (bindD ((ixAt p2 p4)) fun t166 =>
  bindD ((ixAt p2 p4)) fun t167 =>
  bindD (slices_IndexFunc_int_int.f t167 p0 p1 p5 p4) fun t168 =>
  bindD ((ixAt p2 p4)) fun t169 =>
  bindD ((ixAt p2 p4)) fun t170 =>
  bindD ((ixAt t170 t168.1)) fun t171 =>
  bindD ((R.grow ((List.length p3) + (List.length (t171 :: ([] : (List Int))))))) fun t172 =>
  bindD ((ixAt p2 p4)) fun t173 =>
  bindD ((ixAt p2 p4)) fun t174 =>
  bindD ((ixAt t174 t168.1)) fun t175 =>
  bindD ((ixAt p1 t175)) fun t176 =>
  route_Best.l10 p0 p1 p2 (p3 ++ (t171 :: ([] : (List Int)))) t176.2.1 p5)
 (some (p3, (p5, ((0 : Int), ())))) := (loopAt_step ctx 12 10 _).trans (by kernel_rfl)
theorem slices_Equal_int_int.l4_eq (p0 : (List Int)) (p1 : (List Int)) (p2 : Int) (p3 : Int) : slices_Equal_int_int.l4 p0 p1 p2 p3 =
 ifB (decide (p3 < p2))
  (bindD ((ixAt p0 p3)) fun t178 =>
  bindD ((ixAt p1 p3)) fun t179 =>
  ifB (t178 != t179)
  (some (false, ()))
  (slices_Equal_int_int.l4 p0 p1 p2 (IntKind.wrap .i64 (p3 + (1 : Int)))))
 (some (true, ())) := (loopAt_step ctx 15 4 _).trans (by kernel_rfl)
theorem ancepsref09_Sum.f_eq (p0 : Int) (p1 : (List (Int × (Int × Int)))) (p2 : (List Int)) : ancepsref09_Sum.f p0 p1 p2 =
 ancepsref09_Sum.l3 p2 (0 : Int) (0 : Int) p0 p1 := (Einf_call ctx 42 _).trans (by kernel_rfl)
theorem dag_Check.f_eq (p0 : Int) (p1 : (List (Int × (Int × Int)))) (p2 : (List Int)) : dag_Check.f p0 p1 p2 =
 bindD (dag_Valid.f p0 p1) fun t183 =>
 ifB (t183.1 != (0 : Int))
  (some (false, ()))
 (dag_Check.l5 (0 : Int) p2 (((List.length p2) : Nat) : Int) (0 : Int) p0 p1) := (Einf_call ctx 43 _).trans (by kernel_rfl)
theorem slices_ContainsFunc_int_int.f_eq (p0 : (List Int)) : slices_ContainsFunc_int_int.f p0 =
 bindD (slices_IndexFunc_int_int.f1 p0) fun t184 =>
 some ((decide (t184.1 ≥ (0 : Int))), ()) := (Einf_call ctx 44 _).trans (by kernel_rfl)
theorem api_Arc_46.f_eq (p0 : (List (Int × (Int × Int)))) (p1 : (List Int)) : api_Arc_46.f p0 p1 =
 bindD (api_Arc_55.f p0 p1) fun t185 =>
 some ((decide (t185.1 ≥ (0 : Int))), ()) := (Einf_call ctx 46 _).trans (by kernel_rfl)
theorem dag_Cost.l8_eq (p0 : Int) (p1 : (List Int)) (p2 : Int) (p3 : Int) (p4 : Int) (p5 : (List (Int × (Int × Int)))) : dag_Cost.l8 p0 p1 p2 p3 p4 p5 =
 ifB (decide (p3 < p2))
  (bindD ((ixAt p1 p3)) fun t186 =>
  bindD ((ixAt p5 t186)) fun t187 =>
  dag_Cost.l8 (IntKind.wrap .i64 (p0 + t187.2.2)) p1 p2 (IntKind.wrap .i64 (p3 + (1 : Int))) p4 p5)
 (some (p0, ((0 : Int), ()))) := (loopAt_step ctx 19 8 _).trans (by kernel_rfl)
theorem route_all.f_eq (p0 : Int) (p1 : (List (Int × (Int × Int)))) : route_all.f p0 p1 =
 bindD (dag_Paths.f p0 p1) fun t188 =>
 ifB (t188.2.1 != (0 : Int))
  (some (([] : (List ((List Int) × Int))), (t188.2.1, ())))
 (route_all.l6 (((List.length t188.1) : Nat) : Int) (0 : Int) p0 p1 ([] : (List ((List Int) × Int))) t188.1) := (Einf_call ctx 48 _).trans (by kernel_rfl)
theorem route_List.l11_eq (p0 : (List ((List Int) × Int))) (p1 : Int) (p2 : Int) (p3 : (List (List Int))) : route_List.l11 p0 p1 p2 p3 =
 ifB (decide (p2 < p1))
  (bindD ((ixAt p0 p2)) fun t189 =>
  bindD ((R.grow ((List.length p3) + (List.length (t189.1 :: ([] : (List (List Int)))))))) fun t190 =>
  route_List.l11 p0 p1 (IntKind.wrap .i64 (p2 + (1 : Int))) (p3 ++ (t189.1 :: ([] : (List (List Int))))))
 (some (p3, ((0 : Int), ()))) := (loopAt_step ctx 20 11 _).trans (by kernel_rfl)
theorem ancepsref09_Lists.l4_eq (p0 : (List (List Int))) (p1 : (List (List Int))) (p2 : Int) : ancepsref09_Lists.l4 p0 p1 p2 =
 ifB (decide (p2 < (((List.length p0) : Nat) : Int)))
  (bindD ((ixAt p0 p2)) fun t192 =>
  bindD ((ixAt p1 p2)) fun t193 =>
  bindD (ancepsref09_Ints.f t192 t193) fun t194 =>
  ifB (!t194.1)
  (some (false, ()))
  (ancepsref09_Lists.l4 p0 p1 (IntKind.wrap .i64 (p2 + (1 : Int)))))
 (some (true, ())) := (loopAt_step ctx 22 4 _).trans (by kernel_rfl)
theorem route_place.f_eq (p0 : Int) (p1 : (List (Int × (Int × Int)))) (p2 : (List Int)) : route_place.f p0 p1 p2 =
 bindD (dag_Valid.f p0 p1) fun t195 =>
 ifB (t195.1 != (0 : Int))
  (some (([] : (List ((List Int) × Int))), ((0 : Int), (t195.1, ()))))
 (bindD (dag_Check.f p0 p1 p2) fun t196 =>
  ifB (!t196.1)
  (some (([] : (List ((List Int) × Int))), ((0 : Int), ((1 : Int), ()))))
  (bindD (route_all.f p0 p1) fun t197 =>
  ifB (t197.2.1 != (0 : Int))
   (some (([] : (List ((List Int) × Int))), ((0 : Int), (t197.2.1, ()))))
  (bindD (route_listed_61.f t197.1 p2) fun t198 =>
   some (t197.1, (t198.1, ((0 : Int), ())))))) := (Einf_call ctx 51 _).trans (by kernel_rfl)
theorem ancepsref09_Made.l3_eq (p0 : (List Int)) (p1 : Int) (p2 : Int) (p3 : Int) (p4 : (List (Int × (Int × Int)))) (p5 : (List (Int × (Int × Int)))) : ancepsref09_Made.l3 p0 p1 p2 p3 p4 p5 =
 ifB (decide (p1 < (((List.length p0) : Nat) : Int)))
  (ifB (decide (p1 < (40 : Int)))
  (ifB (decide (p3 > (1 : Int)))
   (bindD ((ixAt p0 p1)) fun t210 =>
   ifB ((IntKind.wrap .i64 (p3 - (1 : Int))) == (0 : Int))
   (none)
   (ifB ((IntKind.wrap .i64 ((IntKind.wrap .i64 (p3 - (1 : Int))) - (Int.tmod (IntKind.wrap .i64 t210) (IntKind.wrap .i64 (p3 - (1 : Int)))))) == (0 : Int))
    (none)
   (bindD ((R.grow ((List.length p5) + (List.length (((Int.tmod (IntKind.wrap .i64 t210) (IntKind.wrap .i64 (p3 - (1 : Int)))), ((IntKind.wrap .i64 ((IntKind.wrap .i64 ((Int.tmod (IntKind.wrap .i64 t210) (IntKind.wrap .i64 (p3 - (1 : Int)))) + (1 : Int))) + (Int.tmod (Int.tmod (IntKind.wrap .i64 (Int.tdiv (IntKind.wrap .i64 t210) (12 : Int))) (12 : Int)) (IntKind.wrap .i64 ((IntKind.wrap .i64 (p3 - (1 : Int))) - (Int.tmod (IntKind.wrap .i64 t210) (IntKind.wrap .i64 (p3 - (1 : Int))))))))), (Int.tmod (IntKind.wrap .i64 (Int.tdiv (IntKind.wrap .i64 t210) (144 : Int))) (12 : Int)))) :: ([] : (List (Int × (Int × Int))))))))) fun t211 =>
    ancepsref09_Made.l3 p0 (IntKind.wrap .i64 (p1 + (1 : Int))) p2 p3 p4 (p5 ++ (((Int.tmod (IntKind.wrap .i64 t210) (IntKind.wrap .i64 (p3 - (1 : Int)))), ((IntKind.wrap .i64 ((IntKind.wrap .i64 ((Int.tmod (IntKind.wrap .i64 t210) (IntKind.wrap .i64 (p3 - (1 : Int)))) + (1 : Int))) + (Int.tmod (Int.tmod (IntKind.wrap .i64 (Int.tdiv (IntKind.wrap .i64 t210) (12 : Int))) (12 : Int)) (IntKind.wrap .i64 ((IntKind.wrap .i64 (p3 - (1 : Int))) - (Int.tmod (IntKind.wrap .i64 t210) (IntKind.wrap .i64 (p3 - (1 : Int))))))))), (Int.tmod (IntKind.wrap .i64 (Int.tdiv (IntKind.wrap .i64 t210) (144 : Int))) (12 : Int)))) :: ([] : (List (Int × (Int × Int)))))))))
  (some (p3, (p5, ()))))
  (some (p3, (p5, ()))))
 (some (p3, (p5, ()))) := (loopAt_step ctx 27 3 _).trans (by kernel_rfl)
theorem dag_Valid.l7_eq (p0 : (List (Int × (Int × Int)))) (p1 : Int) (p2 : Int) (p3 : Int) (p4 : (List (Int × (Int × Int)))) : dag_Valid.l7 p0 p1 p2 p3 p4 =
 ifB (decide (p2 < p1))
  (bindD ((ixAt p0 p2)) fun t220 =>
  bindD (dag_Valid_1.f t220.1 p3 p4) fun t221 =>
  ifB (!t221.1)
  (some ((6 : Int), ()))
  (bindD (dag_Valid_1.f t220.2.1 p3 p4) fun t222 =>
  ifB (!t222.1)
   (some ((6 : Int), ()))
  (ifB (decide (t220.2.2 < (0 : Int)))
   (some ((6 : Int), ()))
   (ifB (decide (t220.2.2 > (1000000 : Int)))
    (some ((6 : Int), ()))
   (ifB (decide (t220.2.1 ≤ t220.1))
    (some ((18 : Int), ()))
    (dag_Valid.l7 p0 p1 (IntKind.wrap .i64 (p2 + (1 : Int))) p3 p4))))))
 (some ((0 : Int), ())) := (loopAt_step ctx 33 7 _).trans (by kernel_rfl)
theorem route_costs.l3_eq (p0 : Int) (p1 : Int) (p2 : Int) (p3 : (List (Int × (Int × Int)))) (p4 : (List Int)) : route_costs.l3 p0 p1 p2 p3 p4 =
 ifB (decide (p1 < p0))
  (bindD ((ixAt p4 p1)) fun t223 =>
  bindD ((ixAt p4 p1)) fun t224 =>
  route_costs.l3 p0 (IntKind.wrap .i64 (p1 + (1 : Int))) p2 p3 (setRow p4 p1 (-(1 : Int))))
 (bindD ((ixAt p4 (IntKind.wrap .i64 (p2 - (1 : Int))))) fun t225 =>
  bindD ((ixAt p4 (IntKind.wrap .i64 (p2 - (1 : Int))))) fun t226 =>
  bindD (route_backwards.f p2 p3) fun t227 =>
  route_costs.l9 (((List.length t227.1) : Nat) : Int) (0 : Int) p2 p3 (setRow p4 (IntKind.wrap .i64 (p2 - (1 : Int))) (0 : Int)) t227.1) := (loopAt_step ctx 34 3 _).trans (by kernel_rfl)
theorem route_outgoing.l3_eq (p0 : (List (Int × (Int × Int)))) (p1 : Int) (p2 : Int) (p3 : (List (List Int))) : route_outgoing.l3 p0 p1 p2 p3 =
 ifB (decide (p2 < p1))
  (bindD ((ixAt p0 p2)) fun t228 =>
  bindD ((ixAt p3 t228.1)) fun t229 =>
  bindD ((ixAt p3 t228.1)) fun t230 =>
  bindD ((ixAt p3 t228.1)) fun t231 =>
  bindD ((R.grow ((List.length t231) + (List.length (p2 :: ([] : (List Int))))))) fun t232 =>
  bindD ((ixAt p3 t228.1)) fun t233 =>
  ifB (decide (t228.1 = t228.1))
  (route_outgoing.l3 p0 p1 (IntKind.wrap .i64 (p2 + (1 : Int))) (setRow p3 t228.1 (t231 ++ (p2 :: ([] : (List Int))))))
  (none))
 (some (p3, ())) := (loopAt_step ctx 35 3 _).trans (by kernel_rfl)
theorem slices_IndexFunc_int_int.f_eq (p0 : (List Int)) (p1 : Int) (p2 : (List (Int × (Int × Int)))) (p3 : (List Int)) (p4 : Int) : slices_IndexFunc_int_int.f p0 p1 p2 p3 p4 =
 slices_IndexFunc_int_int.l2 p0 p1 p2 p3 p4 (((List.length p0) : Nat) : Int) (0 : Int) := (Einf_call ctx 36 _).trans (by kernel_rfl)
theorem ancepsref09_Sum.l3_eq (p0 : (List Int)) (p1 : Int) (p2 : Int) (p3 : Int) (p4 : (List (Int × (Int × Int)))) : ancepsref09_Sum.l3 p0 p1 p2 p3 p4 =
 ifB (decide (p2 < (((List.length p0) : Nat) : Int)))
  (bindD ((ixAt p0 p2)) fun t253 =>
  bindD ((ixAt p4 t253)) fun t254 =>
  ancepsref09_Sum.l3 p0 (IntKind.wrap .i64 (p1 + t254.2.2)) (IntKind.wrap .i64 (p2 + (1 : Int))) p3 p4)
 (some (p1, ())) := (loopAt_step ctx 42 3 _).trans (by kernel_rfl)
theorem dag_Check.l5_eq (p0 : Int) (p1 : (List Int)) (p2 : Int) (p3 : Int) (p4 : Int) (p5 : (List (Int × (Int × Int)))) : dag_Check.l5 p0 p1 p2 p3 p4 p5 =
 ifB (decide (p3 < p2))
  (bindD ((ixAt p1 p3)) fun t261 =>
  ifB (decide (t261 < (0 : Int)))
  (some (false, ()))
  (ifB (decide (t261 ≥ (((List.length p5) : Nat) : Int)))
   (some (false, ()))
  (bindD ((ixAt p5 t261)) fun t262 =>
   ifB (t262.1 != p0)
   (some (false, ()))
   (bindD ((ixAt p5 t261)) fun t263 =>
   dag_Check.l5 t263.2.1 p1 p2 (IntKind.wrap .i64 (p3 + (1 : Int))) p4 p5))))
 (some ((p0 == (IntKind.wrap .i64 (p4 - (1 : Int)))), ())) := (loopAt_step ctx 43 5 _).trans (by kernel_rfl)
theorem slices_IndexFunc_int_int.f1_eq (p0 : (List Int)) : slices_IndexFunc_int_int.f1 p0 =
 slices_IndexFunc_int_int.l2_1 p0 (((List.length p0) : Nat) : Int) (0 : Int) := (Einf_call ctx 36 _).trans (by kernel_rfl)
theorem api_Arc_55.f_eq (p0 : (List (Int × (Int × Int)))) (p1 : (List Int)) : api_Arc_55.f p0 p1 =
 api_Arc_55.l2 p0 p1 (((List.length p0) : Nat) : Int) (0 : Int) := (Einf_call ctx 55 _).trans (by kernel_rfl)
theorem dag_Paths.f_eq (p0 : Int) (p1 : (List (Int × (Int × Int)))) : dag_Paths.f p0 p1 =
 bindD (dag_Valid.f p0 p1) fun t264 =>
 ifB (t264.1 != (0 : Int))
  (some (([] : (List (List Int))), (t264.1, ())))
 (bindD (dag_ways.f p0 p1) fun t265 =>
  bindD ((ixAt t265.1 (0 : Int))) fun t266 =>
  bindD ((ixAt t265.1 (0 : Int))) fun t267 =>
  ifB (decide (t267 > (2000 : Int)))
  (some (([] : (List (List Int))), ((3 : Int), ())))
  (bindD (dag_byFrom.f p0 p1) fun t268 =>
  bindD ((ixAt t265.1 (0 : Int))) fun t269 =>
  bindD ((ixAt t265.1 (0 : Int))) fun t270 =>
  ifB (decide (t270 > (0 : Int)))
   (bindD (dag_Paths_1.f (0 : Int) p0 p1 ([] : (List (List Int))) ([] : (List Int)) t268.1 t265.1) fun t271 =>
   some (t271.2.2.1, ((0 : Int), ())))
  (some (([] : (List (List Int))), ((0 : Int), ()))))) := (Einf_call ctx 56 _).trans (by kernel_rfl)
theorem route_all.l6_eq (p0 : Int) (p1 : Int) (p2 : Int) (p3 : (List (Int × (Int × Int)))) (p4 : (List ((List Int) × Int))) (p5 : (List (List Int))) : route_all.l6 p0 p1 p2 p3 p4 p5 =
 ifB (decide (p1 < p0))
  (bindD ((ixAt p5 p1)) fun t272 =>
  bindD ((ixAt p5 p1)) fun t273 =>
  route_all.l10 t273 (0 : Int) p0 p1 t273 (((List.length t273) : Nat) : Int) (0 : Int) p2 p3 p4 p5)
 (bindD ((R.grow (List.length p4))) fun t274 =>
  bindD (sortB false (fun t275 t276 => bindD (route_order.f t275.1 t275.2 t276.1 t276.2) fun t277 =>
  some t277.1) p4) fun t278 =>
  some (t278, ((0 : Int), ()))) := (loopAt_step ctx 48 6 _).trans (by kernel_rfl)
theorem ancepsref09_Ints.f_eq (p0 : (List Int)) (p1 : (List Int)) : ancepsref09_Ints.f p0 p1 =
 ifB ((((List.length p0) : Nat) : Int) != (((List.length p1) : Nat) : Int))
  (some (false, ()))
 (ancepsref09_Ints.l4 p0 p1 (0 : Int)) := (Einf_call ctx 50 _).trans (by kernel_rfl)
theorem route_listed_61.f_eq (p0 : (List ((List Int) × Int))) (p1 : (List Int)) : route_listed_61.f p0 p1 =
 route_listed_61.l2 p0 p1 (((List.length p0) : Nat) : Int) (0 : Int) := (Einf_call ctx 61 _).trans (by kernel_rfl)
theorem dag_Valid_1.f_eq (p0 : Int) (p1 : Int) (p2 : (List (Int × (Int × Int)))) : dag_Valid_1.f p0 p1 p2 =
 ifB (decide (p0 ≥ (0 : Int)))
  (some ((decide (p0 < p1)), ()))
 (some (false, ())) := (Einf_call ctx 54 _).trans (by kernel_rfl)
theorem route_backwards.f_eq (p0 : Int) (p1 : (List (Int × (Int × Int)))) : route_backwards.f p0 p1 =
 bindD ((Go.Proofs.R.mkLen (((List.length p1) : Nat) : Int) (((List.length p1) : Nat) : Int))) fun t286 =>
 route_backwards.l3 (((List.length (List.replicate t286 (0 : Int))) : Nat) : Int) (0 : Int) p0 p1 (List.replicate t286 (0 : Int)) := (Einf_call ctx 53 _).trans (by kernel_rfl)
theorem route_costs.l9_eq (p0 : Int) (p1 : Int) (p2 : Int) (p3 : (List (Int × (Int × Int)))) (p4 : (List Int)) (p5 : (List Int)) : route_costs.l9 p0 p1 p2 p3 p4 p5 =
 ifB (decide (p1 < p0))
  (bindD ((ixAt p5 p1)) fun t287 =>
  bindD ((ixAt p5 p1)) fun t288 =>
  bindD ((ixAt p3 t288)) fun t289 =>
  bindD ((ixAt p4 t289.2.1)) fun t290 =>
  bindD ((ixAt p4 t289.2.1)) fun t291 =>
  ifB (decide (t291 ≥ (0 : Int)))
  (bindD ((ixAt p4 t289.1)) fun t292 =>
  bindD ((ixAt p4 t289.1)) fun t293 =>
  ifB (decide (t293 < (0 : Int)))
   (bindD ((ixAt p4 t289.1)) fun t294 =>
   bindD ((ixAt p4 t289.1)) fun t295 =>
   route_costs.l9 p0 (IntKind.wrap .i64 (p1 + (1 : Int))) p2 p3 (setRow p4 t289.1 (IntKind.wrap .i64 (t289.2.2 + t291))) p5)
  (bindD ((ixAt p4 t289.1)) fun t296 =>
   bindD ((ixAt p4 t289.1)) fun t297 =>
   ifB (decide ((IntKind.wrap .i64 (t289.2.2 + t291)) < t297))
   (bindD ((ixAt p4 t289.1)) fun t298 =>
   bindD ((ixAt p4 t289.1)) fun t299 =>
   route_costs.l9 p0 (IntKind.wrap .i64 (p1 + (1 : Int))) p2 p3 (setRow p4 t289.1 (IntKind.wrap .i64 (t289.2.2 + t291))) p5)
   (route_costs.l9 p0 (IntKind.wrap .i64 (p1 + (1 : Int))) p2 p3 p4 p5)))
  (route_costs.l9 p0 (IntKind.wrap .i64 (p1 + (1 : Int))) p2 p3 p4 p5))
 (some (p4, ())) := (loopAt_step ctx 34 9 _).trans (by kernel_rfl)
theorem slices_IndexFunc_int_int.l2_eq (p0 : (List Int)) (p1 : Int) (p2 : (List (Int × (Int × Int)))) (p3 : (List Int)) (p4 : Int) (p5 : Int) (p6 : Int) : slices_IndexFunc_int_int.l2 p0 p1 p2 p3 p4 p5 p6 =
 ifB (decide (p6 < p5))
  (bindD ((ixAt p0 p6)) fun t300 =>
  bindD (route_Best_1.f t300 p1 p2 p3 p4) fun t301 =>
  ifB t301.1
  (some (p6, ()))
  (slices_IndexFunc_int_int.l2 p0 p1 p2 p3 p4 p5 (IntKind.wrap .i64 (p6 + (1 : Int)))))
 (some ((-(1 : Int)), ())) := (loopAt_step ctx 36 2 _).trans (by kernel_rfl)
theorem slices_IndexFunc_int_int.l2_1_eq (p0 : (List Int)) (p1 : Int) (p2 : Int) : slices_IndexFunc_int_int.l2_1 p0 p1 p2 =
 ifB (decide (p2 < p1))
  (bindD ((ixAt p0 p2)) fun t319 =>
  bindD (route_Check_1.f t319) fun t320 =>
  ifB t320.1
  (some (p2, ()))
  (slices_IndexFunc_int_int.l2_1 p0 p1 (IntKind.wrap .i64 (p2 + (1 : Int)))))
 (some ((-(1 : Int)), ())) := (loopAt_step ctx 36 2 _).trans (by kernel_rfl)
theorem api_Arc_55.l2_eq (p0 : (List (Int × (Int × Int)))) (p1 : (List Int)) (p2 : Int) (p3 : Int) : api_Arc_55.l2 p0 p1 p2 p3 =
 ifB (decide (p3 < p2))
  (bindD ((ixAt p0 p3)) fun t321 =>
  bindD (route_Check_2.f t321.1 t321.2.1 t321.2.2 p1) fun t322 =>
  ifB t322.1
  (some (p3, ()))
  (api_Arc_55.l2 p0 p1 p2 (IntKind.wrap .i64 (p3 + (1 : Int)))))
 (some ((-(1 : Int)), ())) := (loopAt_step ctx 55 2 _).trans (by kernel_rfl)
theorem dag_byFrom.f_eq (p0 : Int) (p1 : (List (Int × (Int × Int)))) : dag_byFrom.f p0 p1 =
 bindD ((Go.Proofs.R.mkLen p0 p0)) fun t323 =>
 dag_byFrom.l3 p1 (((List.length p1) : Nat) : Int) (0 : Int) (List.replicate t323 ([] : (List Int))) := (Einf_call ctx 68 _).trans (by kernel_rfl)
theorem dag_Paths_1.f_eq (p0 : Int) (p1 : Int) (p2 : (List (Int × (Int × Int)))) (p3 : (List (List Int))) (p4 : (List Int)) (p5 : (List (List Int))) (p6 : (List Int)) : dag_Paths_1.f p0 p1 p2 p3 p4 p5 p6 =
 ifB (p0 == (IntKind.wrap .i64 (p1 - (1 : Int))))
  (bindD (slices_Clone_int_int.f p4) fun t324 =>
  bindD ((R.grow ((List.length p3) + (List.length (t324.1 :: ([] : (List (List Int)))))))) fun t325 =>
  some (p1, (p2, ((p3 ++ (t324.1 :: ([] : (List (List Int))))), (p4, (p5, (p6, ())))))))
 (bindD ((ixAt p5 p0)) fun t326 =>
  dag_Paths_1.l3 t326 (((List.length t326) : Nat) : Int) (0 : Int) p1 p2 p6 p5 p4 p3) := (Einf_call ctx 69 _).trans (by kernel_rfl)
theorem route_all.l10_eq (p0 : (List Int)) (p1 : Int) (p2 : Int) (p3 : Int) (p4 : (List Int)) (p5 : Int) (p6 : Int) (p7 : Int) (p8 : (List (Int × (Int × Int)))) (p9 : (List ((List Int) × Int))) (p10 : (List (List Int))) : route_all.l10 p0 p1 p2 p3 p4 p5 p6 p7 p8 p9 p10 =
 ifB (decide (p6 < p5))
  (bindD ((ixAt p4 p6)) fun t327 =>
  bindD ((ixAt p8 t327)) fun t328 =>
  route_all.l10 p0 (IntKind.wrap .i64 (p1 + t328.2.2)) p2 p3 p4 p5 (IntKind.wrap .i64 (p6 + (1 : Int))) p7 p8 p9 p10)
 (bindD ((R.grow ((List.length p9) + (List.length ((p0, p1) :: ([] : (List ((List Int) × Int)))))))) fun t329 =>
  route_all.l6 p2 (IntKind.wrap .i64 (p3 + (1 : Int))) p7 p8 (p9 ++ ((p0, p1) :: ([] : (List ((List Int) × Int))))) p10) := (loopAt_step ctx 48 10 _).trans (by kernel_rfl)
theorem route_order.f_eq (p0 : (List Int)) (p1 : Int) (p2 : (List Int)) (p3 : Int) : route_order.f p0 p1 p2 p3 =
 bindD (cmp_Compare_int.f p1 p3) fun t330 =>
 bindD (slices_Compare_int_int.f p0 p2) fun t331 =>
 bindD (cmp_Or_int.f (t330.1 :: (t331.1 :: ([] : (List Int))))) fun t332 =>
 some (t332.1, ()) := (Einf_call ctx 58 _).trans (by kernel_rfl)
theorem ancepsref09_Ints.l4_eq (p0 : (List Int)) (p1 : (List Int)) (p2 : Int) : ancepsref09_Ints.l4 p0 p1 p2 =
 ifB (decide (p2 < (((List.length p0) : Nat) : Int)))
  (bindD ((ixAt p0 p2)) fun t339 =>
  bindD ((ixAt p1 p2)) fun t340 =>
  ifB (t339 != t340)
  (some (false, ()))
  (ancepsref09_Ints.l4 p0 p1 (IntKind.wrap .i64 (p2 + (1 : Int)))))
 (some (true, ())) := (loopAt_step ctx 50 4 _).trans (by kernel_rfl)
theorem route_listed_61.l2_eq (p0 : (List ((List Int) × Int))) (p1 : (List Int)) (p2 : Int) (p3 : Int) : route_listed_61.l2 p0 p1 p2 p3 =
 ifB (decide (p3 < p2))
  (bindD ((ixAt p0 p3)) fun t341 =>
  bindD (route_place_1.f t341.1 t341.2 p1) fun t342 =>
  ifB t342.1
  (some (p3, ()))
  (route_listed_61.l2 p0 p1 p2 (IntKind.wrap .i64 (p3 + (1 : Int)))))
 (some ((-(1 : Int)), ())) := (loopAt_step ctx 61 2 _).trans (by kernel_rfl)
theorem route_backwards.l3_eq (p0 : Int) (p1 : Int) (p2 : Int) (p3 : (List (Int × (Int × Int)))) (p4 : (List Int)) : route_backwards.l3 p0 p1 p2 p3 p4 =
 ifB (decide (p1 < p0))
  (bindD ((ixAt p4 p1)) fun t352 =>
  bindD ((ixAt p4 p1)) fun t353 =>
  route_backwards.l3 p0 (IntKind.wrap .i64 (p1 + (1 : Int))) p2 p3 (setRow p4 p1 p1))
 (bindD ((R.grow (List.length p4))) fun t354 =>
  bindD (sortB true (fun t355 t356 => bindD (route_backwards_1.f t355 t356 p2 p3) fun t357 =>
  some t357.1) p4) fun t358 =>
  some (t358, ())) := (loopAt_step ctx 53 3 _).trans (by kernel_rfl)
theorem route_Best_1.f_eq (p0 : Int) (p1 : Int) (p2 : (List (Int × (Int × Int)))) (p3 : (List Int)) (p4 : Int) : route_Best_1.f p0 p1 p2 p3 p4 =
 bindD ((ixAt p2 p0)) fun t359 =>
 bindD ((ixAt p3 t359.2.1)) fun t360 =>
 ifB (decide (t360 ≥ (0 : Int)))
  (bindD ((ixAt p3 t359.2.1)) fun t361 =>
  bindD ((ixAt p3 p4)) fun t362 =>
  some (((IntKind.wrap .i64 (t359.2.2 + t361)) == t362), ()))
 (some (false, ())) := (Einf_call ctx 37 _).trans (by kernel_rfl)
theorem route_Check_1.f_eq (p0 : Int) : route_Check_1.f p0 =
 ifB (decide (p0 < (-(1 : Int))))
  (some (true, ()))
 (some ((decide (p0 > (1099511627776 : Int))), ())) := (Einf_call ctx 45 _).trans (by kernel_rfl)
theorem route_Check_2.f_eq (p0 : Int) (p1 : Int) (p2 : Int) (p3 : (List Int)) : route_Check_2.f p0 p1 p2 p3 =
 bindD ((ixAt p3 p0)) fun t363 =>
 bindD ((ixAt p3 p1)) fun t364 =>
 ifB (decide (t363 < (0 : Int)))
  (ifB (t364 != (-(1 : Int)))
  (some (true, ()))
  (ifB (decide (t363 ≥ (0 : Int)))
   (ifB (decide (t364 ≥ (0 : Int)))
   (some ((decide ((IntKind.wrap .i64 (t363 - p2)) > t364)), ()))
   (some (false, ())))
  (some (false, ()))))
 (ifB (decide (t363 ≥ (0 : Int)))
  (ifB (decide (t364 ≥ (0 : Int)))
   (some ((decide ((IntKind.wrap .i64 (t363 - p2)) > t364)), ()))
  (some (false, ())))
  (some (false, ()))) := (Einf_call ctx 47 _).trans (by kernel_rfl)
theorem dag_byFrom.l3_eq (p0 : (List (Int × (Int × Int)))) (p1 : Int) (p2 : Int) (p3 : (List (List Int))) : dag_byFrom.l3 p0 p1 p2 p3 =
 ifB (decide (p2 < p1))
  (bindD ((ixAt p0 p2)) fun t365 =>
  bindD ((ixAt p3 t365.1)) fun t366 =>
  bindD ((ixAt p3 t365.1)) fun t367 =>
  bindD ((ixAt p3 t365.1)) fun t368 =>
  bindD ((R.grow ((List.length t368) + (List.length (p2 :: ([] : (List Int))))))) fun t369 =>
  bindD ((ixAt p3 t365.1)) fun t370 =>
  ifB (decide (t365.1 = t365.1))
  (dag_byFrom.l3 p0 p1 (IntKind.wrap .i64 (p2 + (1 : Int))) (setRow p3 t365.1 (t368 ++ (p2 :: ([] : (List Int))))))
  (none))
 (some (p3, ())) := (loopAt_step ctx 68 3 _).trans (by kernel_rfl)
theorem dag_Paths_1.l3_eq (p0 : (List Int)) (p1 : Int) (p2 : Int) (p3 : Int) (p4 : (List (Int × (Int × Int)))) (p5 : (List Int)) (p6 : (List (List Int))) (p7 : (List Int)) (p8 : (List (List Int))) : dag_Paths_1.l3 p0 p1 p2 p3 p4 p5 p6 p7 p8 =
 ifB (decide (p2 < p1))
  (bindD ((ixAt p0 p2)) fun t371 =>
  bindD ((ixAt p4 t371)) fun t372 =>
  bindD ((ixAt p5 t372.2.1)) fun t373 =>
  ifB (decide (t373 > (0 : Int)))
  (bindD ((R.grow ((List.length p7) + (List.length (t371 :: ([] : (List Int))))))) fun t374 =>
  bindD (dag_Paths_1.f t372.2.1 p3 p4 p8 (p7 ++ (t371 :: ([] : (List Int)))) p6 p5) fun t375 =>
  bindD ((subL t375.2.2.2.1 (0 : Int) (IntKind.wrap .i64 ((((List.length t375.2.2.2.1) : Nat) : Int) - (1 : Int))))) fun t376 =>
  dag_Paths_1.l3 p0 p1 (IntKind.wrap .i64 (p2 + (1 : Int))) t375.1 t375.2.1 t375.2.2.2.2.2.1 t375.2.2.2.2.1 t376 t375.2.2.1)
  (dag_Paths_1.l3 p0 p1 (IntKind.wrap .i64 (p2 + (1 : Int))) p3 p4 p5 p6 p7 p8))
 (some (p3, (p4, (p8, (p7, (p6, (p5, ()))))))) := (loopAt_step ctx 69 3 _).trans (by kernel_rfl)
theorem cmp_Compare_int.f_eq (p0 : Int) (p1 : Int) : cmp_Compare_int.f p0 p1 =
 bindD (cmp_isNaN_int.f p0) fun t377 =>
 bindD (cmp_isNaN_int.f p1) fun t378 =>
 ifB t377.1
  (ifB t378.1
  (some ((0 : Int), ()))
  (some ((-(1 : Int)), ())))
 (ifB t378.1
  (some ((1 : Int), ()))
  (ifB (decide (p0 < p1))
   (some ((-(1 : Int)), ()))
  (ifB (decide (p0 > p1))
   (some ((1 : Int), ()))
   (some ((0 : Int), ()))))) := (Einf_call ctx 66 _).trans (by kernel_rfl)
theorem slices_Compare_int_int.f_eq (p0 : (List Int)) (p1 : (List Int)) : slices_Compare_int_int.f p0 p1 =
 slices_Compare_int_int.l2 p0 p1 p0 (((List.length p0) : Nat) : Int) (0 : Int) := (Einf_call ctx 73 _).trans (by kernel_rfl)
theorem cmp_Or_int.f_eq (p0 : (List Int)) : cmp_Or_int.f p0 =
 cmp_Or_int.l3 (0 : Int) p0 (((List.length p0) : Nat) : Int) (0 : Int) := (Einf_call ctx 72 _).trans (by kernel_rfl)
theorem route_place_1.f_eq (p0 : (List Int)) (p1 : Int) (p2 : (List Int)) : route_place_1.f p0 p1 p2 =
 bindD (slices_Equal_int_int.f p0 p2) fun t394 =>
 some (t394.1, ()) := (Einf_call ctx 62 _).trans (by kernel_rfl)
theorem route_backwards_1.f_eq (p0 : Int) (p1 : Int) (p2 : Int) (p3 : (List (Int × (Int × Int)))) : route_backwards_1.f p0 p1 p2 p3 =
 bindD ((ixAt p3 p1)) fun t395 =>
 bindD ((ixAt p3 p0)) fun t396 =>
 bindD (cmp_Compare_int.f t395.1 t396.1) fun t397 =>
 some (t397.1, ()) := (Einf_call ctx 65 _).trans (by kernel_rfl)
theorem cmp_isNaN_int.f_eq (p0 : Int) : cmp_isNaN_int.f p0 =
 some ((p0 != p0), ()) := (Einf_call ctx 76 _).trans (by kernel_rfl)
theorem slices_Compare_int_int.l2_eq (p0 : (List Int)) (p1 : (List Int)) (p2 : (List Int)) (p3 : Int) (p4 : Int) : slices_Compare_int_int.l2 p0 p1 p2 p3 p4 =
 ifB (decide (p4 < p3))
  (bindD ((ixAt p2 p4)) fun t398 =>
  ifB (decide (p4 ≥ (((List.length p1) : Nat) : Int)))
  (some ((1 : Int), ()))
  (bindD ((ixAt p1 p4)) fun t399 =>
  bindD (cmp_Compare_int.f t398 t399) fun t400 =>
  ifB (t400.1 != (0 : Int))
   (some (t400.1, ()))
  (slices_Compare_int_int.l2 p0 p1 p2 p3 (IntKind.wrap .i64 (p4 + (1 : Int))))))
 (ifB (decide ((((List.length p0) : Nat) : Int) < (((List.length p1) : Nat) : Int)))
  (some ((-(1 : Int)), ()))
  (some ((0 : Int), ()))) := (loopAt_step ctx 73 2 _).trans (by kernel_rfl)
theorem cmp_Or_int.l3_eq (p0 : Int) (p1 : (List Int)) (p2 : Int) (p3 : Int) : cmp_Or_int.l3 p0 p1 p2 p3 =
 ifB (decide (p3 < p2))
  (bindD ((ixAt p1 p3)) fun t401 =>
  ifB (t401 != p0)
  (some (t401, ()))
  (cmp_Or_int.l3 p0 p1 p2 (IntKind.wrap .i64 (p3 + (1 : Int)))))
 (some (p0, ())) := (loopAt_step ctx 72 3 _).trans (by kernel_rfl)
end Go.Proofs.C10
