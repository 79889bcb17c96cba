/- K27B: what the row's functions are, as the evaluator tells them. No condition. -/
import Derived.Test.YtpkckffbdojegaaK27
set_option linter.unusedVariables false
set_option linter.unusedSimpArgs false
set_option maxRecDepth 100000
set_option linter.unusedVariables false
namespace Go.Proofs.K27
open Go Go.Proofs.R
noncomputable def ancepslaw27_CaesuraBridges.f (p0 : Int) (p1 : Int) (p2 : (List (List Int))) (p3 : (List Bool)) (p4 : Int) : Option (Bool × Unit) := (Go.Proofs.R.Einf Go.Proofs.K27.ctx).call 7 [(.agg [(.v (.int .i64) p0), (.v (.int .i64) p1), (.v (.sl (.sl (.int .i64))) p2), (.v (.sl .bool) p3)]), (.one (.v (.int .i64) p4))]
noncomputable def ancepslaw27_awake.f : Option (Bool × Unit) := (Go.Proofs.R.Einf Go.Proofs.K27.ctx).call 11 []
noncomputable def ancepsref06_Few.f (p0 : Int) (p1 : Int) (p2 : (List (List Int))) (p3 : (List Bool)) : Option (Bool × Unit) := (Go.Proofs.R.Einf Go.Proofs.K27.ctx).call 26 [(.agg [(.v (.int .i64) p0), (.v (.int .i64) p1), (.v (.sl (.sl (.int .i64))) p2), (.v (.sl .bool) p3)])]
noncomputable def caesura_Bridges.f (p0 : Int) (p1 : Int) (p2 : (List (List Int))) (p3 : (List Bool)) (p4 : Int) : Option ((List Int) × (Int × Unit)) := (Go.Proofs.R.Einf Go.Proofs.K27.ctx).call 27 [(.agg [(.v (.int .i64) p0), (.v (.int .i64) p1), (.v (.sl (.sl (.int .i64))) p2), (.v (.sl .bool) p3)]), (.one (.v (.int .i64) p4))]
noncomputable def ancepsref27_Bridges.f (p0 : Int) (p1 : Int) (p2 : (List (List Int))) (p3 : (List Bool)) (p4 : Int) : Option ((List Int) × (Int × Unit)) := (Go.Proofs.R.Einf Go.Proofs.K27.ctx).call 28 [(.agg [(.v (.int .i64) p0), (.v (.int .i64) p1), (.v (.sl (.sl (.int .i64))) p2), (.v (.sl .bool) p3)]), (.one (.v (.int .i64) p4))]
noncomputable def caesura_Always.f (p0 : Int) (p1 : Int) (p2 : (List (List Int))) (p3 : (List Bool)) (p4 : Int) : Option ((List Int) × (Int × Unit)) := (Go.Proofs.R.Einf Go.Proofs.K27.ctx).call 29 [(.agg [(.v (.int .i64) p0), (.v (.int .i64) p1), (.v (.sl (.sl (.int .i64))) p2), (.v (.sl .bool) p3)]), (.one (.v (.int .i64) p4))]
noncomputable def ancepsref27_Always.f (p0 : Int) (p1 : Int) (p2 : (List (List Int))) (p3 : (List Bool)) (p4 : Int) : Option ((List Int) × (Int × Unit)) := (Go.Proofs.R.Einf Go.Proofs.K27.ctx).call 30 [(.agg [(.v (.int .i64) p0), (.v (.int .i64) p1), (.v (.sl (.sl (.int .i64))) p2), (.v (.sl .bool) p3)]), (.one (.v (.int .i64) p4))]
noncomputable def slices_Equal_int_int.f (p0 : (List Int)) (p1 : (List Int)) : Option (Bool × Unit) := (Go.Proofs.R.Einf Go.Proofs.K27.ctx).call 17 [(.one (.v (.sl (.int .i64)) p0)), (.one (.v (.sl (.int .i64)) p1))]
noncomputable def slices_ContainsFunc_int_int.f (p0 : (List Int)) (p1 : (List Int)) : Option (Bool × Unit) := (Go.Proofs.R.Einf Go.Proofs.K27.ctx).call 31 [(.one (.v (.sl (.int .i64)) p0)), (.one (.clo 32 [(.pref [(.v (.sl (.int .i64)) p1)] 0)]))]
noncomputable def ancepsref06_Few.l5 (p0 : Int) (p1 : Int) (p2 : Int) (p3 : Int) (p4 : (List (List Int))) (p5 : (List Bool)) : Option (Bool × Unit) := Go.Proofs.R.loopAt Go.Proofs.K27.ctx (Go.Proofs.R.Einf Go.Proofs.K27.ctx) 26 5 (.mk [(1, (.one (.ref 7 0))), (3, (.one (.v (.int .i64) p0))), (4, (.one (.v (.int .i64) p1)))] [(7, (.box 71 [(.v (.int .i64) p2), (.v (.int .i64) p3), (.v (.sl (.sl (.int .i64))) p4), (.v (.sl .bool) p5)]))])
noncomputable def compile_Ends.f (p0 : Int) (p1 : Int) (p2 : (List (List Int))) (p3 : (List Bool)) (p4 : Int) : Option ((List Int) × (Int × Unit)) := (Go.Proofs.R.Einf Go.Proofs.K27.ctx).call 61 [(.agg [(.v (.int .i64) p0), (.v (.int .i64) p1), (.v (.sl (.sl (.int .i64))) p2), (.v (.sl .bool) p3)]), (.one (.v (.int .i64) p4))]
noncomputable def caesura_inner.f (p0 : Int) (p1 : (List Int)) : Option ((List Int) × Unit) := (Go.Proofs.R.Einf Go.Proofs.K27.ctx).call 62 [(.one (.v (.int .i64) p0)), (.one (.clo 63 [(.pref [(.v (.sl (.int .i64)) p1)] 0)]))]
noncomputable def ancepsref24_Ends.f (p0 : Int) (p1 : Int) (p2 : (List (List Int))) (p3 : (List Bool)) (p4 : Int) : Option ((List Int) × (Int × Unit)) := (Go.Proofs.R.Einf Go.Proofs.K27.ctx).call 64 [(.agg [(.v (.int .i64) p0), (.v (.int .i64) p1), (.v (.sl (.sl (.int .i64))) p2), (.v (.sl .bool) p3)]), (.one (.v (.int .i64) p4))]
noncomputable def ancepsref27_others.f (p0 : (List Int)) (p1 : Int) : Option ((List Int) × Unit) := (Go.Proofs.R.Einf Go.Proofs.K27.ctx).call 65 [(.one (.v (.sl (.int .i64)) p0)), (.one (.v (.int .i64) p1))]
noncomputable def caesura_inner.f1 (p0 : Int) (p1 : Int) (p2 : Int) (p3 : (List (List Int))) (p4 : (List Bool)) (p5 : Int) : Option ((List Int) × Unit) := (Go.Proofs.R.Einf Go.Proofs.K27.ctx).call 62 [(.one (.v (.int .i64) p0)), (.one (.clo 66 [(.pref [(.v (.int .i64) p1), (.v (.int .i64) p2), (.v (.sl (.sl (.int .i64))) p3), (.v (.sl .bool) p4)] 0), (.pref [(.v (.int .i64) p5)] 0)]))]
noncomputable def ancepsref06_Valid.f (p0 : Int) (p1 : Int) (p2 : (List (List Int))) (p3 : (List Bool)) : Option (Int × Unit) := (Go.Proofs.R.Einf Go.Proofs.K27.ctx).call 68 [(.agg [(.v (.int .i64) p0), (.v (.int .i64) p1), (.v (.sl (.sl (.int .i64))) p2), (.v (.sl .bool) p3)])]
noncomputable def ancepsref27_Always.l5 (p0 : Int) (p1 : Int) (p2 : Int) (p3 : Int) (p4 : (List (List Int))) (p5 : (List Bool)) (p6 : Int) (p7 : Int) (p8 : (List Bool)) (p9 : (List (List Int))) : Option ((List Int) × (Int × Unit)) := Go.Proofs.R.loopAt Go.Proofs.K27.ctx (Go.Proofs.R.Einf Go.Proofs.K27.ctx) 30 5 (.mk [(1, (.one (.v (.int .i64) p0))), (2, (.one (.ref 7 0))), (6, (.one (.ref 15 0))), (7, (.one (.v (.int .i64) p1)))] [(7, (.box 71 [(.v (.int .i64) p2), (.v (.int .i64) p3), (.v (.sl (.sl (.int .i64))) p4), (.v (.sl .bool) p5)])), (15, (.box 71 [(.v (.int .i64) p6), (.v (.int .i64) p7), (.row 23), (.v (.sl .bool) p8)])), (23, (.row 38 (.sl (.int .i64)) p9 false))])
noncomputable def slices_Equal_int_int.l4 (p0 : (List Int)) (p1 : (List Int)) (p2 : Int) (p3 : Int) : Option (Bool × Unit) := Go.Proofs.R.loopAt Go.Proofs.K27.ctx (Go.Proofs.R.Einf Go.Proofs.K27.ctx) 17 4 (.mk [(0, (.one (.v (.sl (.int .i64)) p0))), (1, (.one (.v (.sl (.int .i64)) p1))), (12, (.one (.v (.int .i64) p2))), (13, (.one (.v (.int .i64) p3)))] [])
noncomputable def slices_IndexFunc_int_int.f (p0 : (List Int)) (p1 : (List Int)) : Option (Int × Unit) := (Go.Proofs.R.Einf Go.Proofs.K27.ctx).call 69 [(.one (.v (.sl (.int .i64)) p0)), (.one (.clo 32 [(.pref [(.v (.sl (.int .i64)) p1)] 0)]))]
noncomputable def compile_given.f (p0 : Int) (p1 : Int) (p2 : (List (List Int))) (p3 : (List Bool)) : Option (Bool × Unit) := (Go.Proofs.R.Einf Go.Proofs.K27.ctx).call 93 [(.agg [(.v (.int .i64) p0), (.v (.int .i64) p1), (.v (.sl (.sl (.int .i64))) p2), (.v (.sl .bool) p3)])]
noncomputable def compile_Ends.l7 (p0 : Int) (p1 : Int) (p2 : Int) (p3 : Int) (p4 : Int) (p5 : (List (List Int))) (p6 : (List Bool)) (p7 : (List (List Bool))) : Option ((List Int) × (Int × Unit)) := Go.Proofs.R.loopAt Go.Proofs.K27.ctx (Go.Proofs.R.Einf Go.Proofs.K27.ctx) 61 7 (.mk [(1, (.one (.v (.int .i64) p0))), (2, (.one (.ref 7 0))), (6, (.one (.ref 15 0))), (31, (.one (.v (.int .i64) p1))), (32, (.one (.v (.int .i64) p2)))] [(7, (.box 71 [(.v (.int .i64) p3), (.v (.int .i64) p4), (.v (.sl (.sl (.int .i64))) p5), (.v (.sl .bool) p6)])), (15, (.box 138 [(.row 23)])), (23, (.row 69 (.sl .bool) p7 false))])
noncomputable def caesura_inner.l3 (p0 : Int) (p1 : (List Int)) (p2 : Int) (p3 : (List Int)) : Option ((List Int) × Unit) := Go.Proofs.R.loopAt Go.Proofs.K27.ctx (Go.Proofs.R.Einf Go.Proofs.K27.ctx) 62 3 (.mk [(0, (.one (.v (.int .i64) p0))), (1, (.one (.clo 63 [(.pref [(.v (.sl (.int .i64)) p1)] 0)]))), (5, (.one (.row 7))), (6, (.one (.v (.int .i64) p2)))] [(7, (.row 3 (.int .i64) p3 false))])
noncomputable def ancepsref24_Ends.l7 (p0 : Int) (p1 : Int) (p2 : Int) (p3 : Int) (p4 : (List (List Int))) (p5 : (List Bool)) (p6 : (List (List Bool))) : Option ((List Int) × (Int × Unit)) := Go.Proofs.R.loopAt Go.Proofs.K27.ctx (Go.Proofs.R.Einf Go.Proofs.K27.ctx) 64 7 (.mk [(1, (.one (.v (.int .i64) p0))), (2, (.one (.ref 7 0))), (6, (.one (.row 15))), (7, (.one (.v (.int .i64) p1)))] [(7, (.box 71 [(.v (.int .i64) p2), (.v (.int .i64) p3), (.v (.sl (.sl (.int .i64))) p4), (.v (.sl .bool) p5)])), (15, (.rows 69 4 .bool p6 .own))])
noncomputable def ancepsref27_others.l3 (p0 : (List Int)) (p1 : Int) (p2 : Int) (p3 : (List Int)) : Option ((List Int) × Unit) := Go.Proofs.R.loopAt Go.Proofs.K27.ctx (Go.Proofs.R.Einf Go.Proofs.K27.ctx) 65 3 (.mk [(0, (.one (.v (.sl (.int .i64)) p0))), (1, (.one (.v (.int .i64) p1))), (5, (.one (.row 7))), (6, (.one (.v (.int .i64) p2)))] [(7, (.row 3 (.int .i64) p3 false))])
noncomputable def caesura_inner.l3_1 (p0 : Int) (p1 : Int) (p2 : Int) (p3 : (List (List Int))) (p4 : (List Bool)) (p5 : Int) (p6 : Int) (p7 : (List Int)) : Option ((List Int) × Unit) := Go.Proofs.R.loopAt Go.Proofs.K27.ctx (Go.Proofs.R.Einf Go.Proofs.K27.ctx) 62 3 (.mk [(0, (.one (.v (.int .i64) p0))), (1, (.one (.clo 66 [(.pref [(.v (.int .i64) p1), (.v (.int .i64) p2), (.v (.sl (.sl (.int .i64))) p3), (.v (.sl .bool) p4)] 0), (.pref [(.v (.int .i64) p5)] 0)]))), (5, (.one (.row 7))), (6, (.one (.v (.int .i64) p6)))] [(7, (.row 3 (.int .i64) p7 false))])
noncomputable def ancepsref06_Valid.l7 (p0 : Int) (p1 : Int) (p2 : Int) (p3 : Int) (p4 : (List (List Int))) (p5 : (List Bool)) : Option (Int × Unit) := Go.Proofs.R.loopAt Go.Proofs.K27.ctx (Go.Proofs.R.Einf Go.Proofs.K27.ctx) 68 7 (.mk [(1, (.one (.ref 7 0))), (3, (.one (.v (.int .i64) p0))), (4, (.one (.v (.int .i64) p1)))] [(7, (.box 71 [(.v (.int .i64) p2), (.v (.int .i64) p3), (.v (.sl (.sl (.int .i64))) p4), (.v (.sl .bool) p5)]))])
noncomputable def slices_IndexFunc_int_int.l2 (p0 : (List Int)) (p1 : (List Int)) (p2 : Int) (p3 : Int) : Option (Int × Unit) := Go.Proofs.R.loopAt Go.Proofs.K27.ctx (Go.Proofs.R.Einf Go.Proofs.K27.ctx) 69 2 (.mk [(0, (.one (.v (.sl (.int .i64)) p0))), (1, (.one (.clo 32 [(.pref [(.v (.sl (.int .i64)) p1)] 0)]))), (7, (.one (.v (.int .i64) p2))), (8, (.one (.v (.int .i64) p3)))] [])
noncomputable def automaton_Valid.f (p0 : Int) (p1 : Int) (p2 : (List (List Int))) (p3 : (List Bool)) : Option (Int × Unit) := (Go.Proofs.R.Einf Go.Proofs.K27.ctx).call 116 [(.agg [(.v (.int .i64) p0), (.v (.int .i64) p1), (.v (.sl (.sl (.int .i64))) p2), (.v (.sl .bool) p3)])]
noncomputable def compile_Ends.l11 (p0 : Int) (p1 : Int) (p2 : Int) (p3 : Int) (p4 : Int) (p5 : Int) (p6 : Int) (p7 : (List (List Int))) (p8 : (List Bool)) (p9 : Int) (p10 : (List Bool)) (p11 : (List (List Bool))) : Option ((List Int) × (Int × Unit)) := Go.Proofs.R.loopAt Go.Proofs.K27.ctx (Go.Proofs.R.Einf Go.Proofs.K27.ctx) 61 11 (.mk [(1, (.one (.v (.int .i64) p0))), (2, (.one (.ref 7 0))), (6, (.one (.ref 15 0))), (7, (.one (.ref 23 0))), (8, (.one (.row 31))), (31, (.one (.v (.int .i64) p1))), (32, (.one (.v (.int .i64) p2))), (40, (.one (.v (.int .i64) p3))), (41, (.one (.v (.int .i64) p4)))] [(7, (.box 71 [(.v (.int .i64) p5), (.v (.int .i64) p6), (.v (.sl (.sl (.int .i64))) p7), (.v (.sl .bool) p8)])), (15, (.box 138 [(.row 39)])), (23, (.box 3 [(.v (.int .i64) p9)])), (31, (.row 4 .bool p10 false)), (39, (.row 69 (.sl .bool) p11 false))])
noncomputable def compile_Ends.l23 (p0 : Int) (p1 : Int) (p2 : Int) (p3 : Int) (p4 : (List (List Int))) (p5 : (List Bool)) (p6 : (List Int)) (p7 : (List Bool)) (p8 : (List (List Bool))) : Option ((List Int) × (Int × Unit)) := Go.Proofs.R.loopAt Go.Proofs.K27.ctx (Go.Proofs.R.Einf Go.Proofs.K27.ctx) 61 23 (.mk [(1, (.one (.v (.int .i64) p0))), (2, (.one (.ref 7 0))), (6, (.one (.ref 15 0))), (10, (.one (.row 23))), (11, (.one (.row 31))), (12, (.one (.v (.int .i64) p1)))] [(7, (.box 71 [(.v (.int .i64) p2), (.v (.int .i64) p3), (.v (.sl (.sl (.int .i64))) p4), (.v (.sl .bool) p5)])), (15, (.box 138 [(.row 39)])), (23, (.row 3 (.int .i64) p6 false)), (31, (.row 4 .bool p7 false)), (39, (.row 69 (.sl .bool) p8 false))])
noncomputable def caesura_Bridges_1.f (p0 : Int) (p1 : (List Int)) : Option (Bool × Unit) := (Go.Proofs.R.Einf Go.Proofs.K27.ctx).call 63 [(.one (.v (.int .i64) p0)), (.one (.pref [(.v (.sl (.int .i64)) p1)] 0))]
noncomputable def ancepsref24_Ends.l11 (p0 : Int) (p1 : Int) (p2 : Int) (p3 : Int) (p4 : Int) (p5 : (List (List Int))) (p6 : (List Bool)) (p7 : (List (List Bool))) : Option ((List Int) × (Int × Unit)) := Go.Proofs.R.loopAt Go.Proofs.K27.ctx (Go.Proofs.R.Einf Go.Proofs.K27.ctx) 64 11 (.mk [(1, (.one (.v (.int .i64) p0))), (2, (.one (.ref 7 0))), (6, (.one (.row 15))), (7, (.one (.v (.int .i64) p1))), (8, (.one (.v (.int .i64) p2)))] [(7, (.box 71 [(.v (.int .i64) p3), (.v (.int .i64) p4), (.v (.sl (.sl (.int .i64))) p5), (.v (.sl .bool) p6)])), (15, (.rows 69 4 .bool p7 .own))])
noncomputable def ancepsref24_Ends.l26 (p0 : Int) (p1 : Int) (p2 : Int) (p3 : Int) (p4 : (List (List Int))) (p5 : (List Bool)) (p6 : (List (List Bool))) (p7 : (List Int)) (p8 : (List Bool)) : Option ((List Int) × (Int × Unit)) := Go.Proofs.R.loopAt Go.Proofs.K27.ctx (Go.Proofs.R.Einf Go.Proofs.K27.ctx) 64 26 (.mk [(1, (.one (.v (.int .i64) p0))), (2, (.one (.ref 7 0))), (6, (.one (.row 15))), (11, (.one (.row 23))), (12, (.one (.row 31))), (13, (.one (.v (.int .i64) p1)))] [(7, (.box 71 [(.v (.int .i64) p2), (.v (.int .i64) p3), (.v (.sl (.sl (.int .i64))) p4), (.v (.sl .bool) p5)])), (15, (.rows 69 4 .bool p6 .own)), (23, (.row 3 (.int .i64) p7 false)), (31, (.row 4 .bool p8 false))])
noncomputable def ancepsref27_others.l7 (p0 : (List Int)) (p1 : Int) (p2 : Int) (p3 : Bool) (p4 : Int) (p5 : (List Int)) : Option ((List Int) × Unit) := Go.Proofs.R.loopAt Go.Proofs.K27.ctx (Go.Proofs.R.Einf Go.Proofs.K27.ctx) 65 7 (.mk [(0, (.one (.v (.sl (.int .i64)) p0))), (1, (.one (.v (.int .i64) p1))), (5, (.one (.row 7))), (6, (.one (.v (.int .i64) p2))), (7, (.one (.v .bool p3))), (8, (.one (.v (.int .i64) p4)))] [(7, (.row 3 (.int .i64) p5 false))])
noncomputable def caesura_Always_1.f (p0 : Int) (p1 : Int) (p2 : Int) (p3 : (List (List Int))) (p4 : (List Bool)) (p5 : Int) : Option (Bool × Unit) := (Go.Proofs.R.Einf Go.Proofs.K27.ctx).call 66 [(.one (.v (.int .i64) p0)), (.one (.pref [(.v (.int .i64) p1), (.v (.int .i64) p2), (.v (.sl (.sl (.int .i64))) p3), (.v (.sl .bool) p4)] 0)), (.one (.pref [(.v (.int .i64) p5)] 0))]
noncomputable def ancepsref06_Valid.l12 (p0 : Int) (p1 : Int) (p2 : Int) (p3 : Int) (p4 : Int) (p5 : (List (List Int))) (p6 : (List Bool)) : Option (Int × Unit) := Go.Proofs.R.loopAt Go.Proofs.K27.ctx (Go.Proofs.R.Einf Go.Proofs.K27.ctx) 68 12 (.mk [(1, (.one (.ref 7 0))), (3, (.one (.v (.int .i64) p0))), (4, (.one (.v (.int .i64) p1))), (5, (.one (.v (.int .i64) p2)))] [(7, (.box 71 [(.v (.int .i64) p3), (.v (.int .i64) p4), (.v (.sl (.sl (.int .i64))) p5), (.v (.sl .bool) p6)]))])
noncomputable def ancepslaw27_CaesuraBridges_1.f (p0 : Int) (p1 : (List Int)) : Option (Bool × Unit) := (Go.Proofs.R.Einf Go.Proofs.K27.ctx).call 32 [(.one (.v (.int .i64) p0)), (.one (.pref [(.v (.sl (.int .i64)) p1)] 0))]
noncomputable def automaton_Valid.l7 (p0 : (List (List Int))) (p1 : Int) (p2 : Int) (p3 : Int) (p4 : Int) (p5 : (List (List Int))) (p6 : (List Bool)) (p7 : Int) : Option (Int × Unit) := Go.Proofs.R.loopAt Go.Proofs.K27.ctx (Go.Proofs.R.Einf Go.Proofs.K27.ctx) 116 7 (.mk [(1, (.one (.ref 7 0))), (3, (.one (.ref 15 0))), (47, (.one (.v (.sl (.sl (.int .i64))) p0))), (48, (.one (.v (.int .i64) p1))), (49, (.one (.v (.int .i64) p2)))] [(7, (.box 71 [(.v (.int .i64) p3), (.v (.int .i64) p4), (.v (.sl (.sl (.int .i64))) p5), (.v (.sl .bool) p6)])), (15, (.box 3 [(.v (.int .i64) p7)]))])
noncomputable def slices_ContainsFunc_int_int.f2 (p0 : (List Int)) (p1 : (List (List Bool))) (p2 : Int) : Option (Bool × Unit) := (Go.Proofs.R.Einf Go.Proofs.K27.ctx).call 31 [(.one (.v (.sl (.int .i64)) p0)), (.one (.clo 94 [(.pref [(.v (.sl (.sl .bool)) p1)] 0), (.pref [(.v (.int .i64) p2)] 0)]))]
noncomputable def compile_Ends.l27 (p0 : Int) (p1 : Int) (p2 : Bool) (p3 : Int) (p4 : Int) (p5 : Int) (p6 : Int) (p7 : (List (List Int))) (p8 : (List Bool)) (p9 : (List Int)) (p10 : (List Bool)) (p11 : (List Bool)) (p12 : (List (List Bool))) : Option ((List Int) × (Int × Unit)) := Go.Proofs.R.loopAt Go.Proofs.K27.ctx (Go.Proofs.R.Einf Go.Proofs.K27.ctx) 61 27 (.mk [(1, (.one (.v (.int .i64) p0))), (2, (.one (.ref 7 0))), (6, (.one (.ref 15 0))), (10, (.one (.row 23))), (12, (.one (.v (.int .i64) p1))), (13, (.one (.row 31))), (14, (.one (.v .bool p2))), (91, (.one (.row 39))), (92, (.one (.v (.int .i64) p3))), (93, (.one (.v (.int .i64) p4)))] [(7, (.box 71 [(.v (.int .i64) p5), (.v (.int .i64) p6), (.v (.sl (.sl (.int .i64))) p7), (.v (.sl .bool) p8)])), (15, (.box 138 [(.row 47)])), (23, (.row 3 (.int .i64) p9 false)), (31, (.row 4 .bool p10 false)), (39, (.row 4 .bool p11 false)), (47, (.row 69 (.sl .bool) p12 false))])
noncomputable def slices_Contains_int_int.f (p0 : (List Int)) (p1 : Int) : Option (Bool × Unit) := (Go.Proofs.R.Einf Go.Proofs.K27.ctx).call 33 [(.one (.v (.sl (.int .i64)) p0)), (.one (.v (.int .i64) p1))]
noncomputable def ancepsref24_Ends.l15 (p0 : Int) (p1 : Int) (p2 : Int) (p3 : Int) (p4 : Int) (p5 : Int) (p6 : (List (List Int))) (p7 : (List Bool)) (p8 : (List (List Bool))) : Option ((List Int) × (Int × Unit)) := Go.Proofs.R.loopAt Go.Proofs.K27.ctx (Go.Proofs.R.Einf Go.Proofs.K27.ctx) 64 15 (.mk [(1, (.one (.v (.int .i64) p0))), (2, (.one (.ref 7 0))), (6, (.one (.row 15))), (7, (.one (.v (.int .i64) p1))), (8, (.one (.v (.int .i64) p2))), (9, (.one (.v (.int .i64) p3)))] [(7, (.box 71 [(.v (.int .i64) p4), (.v (.int .i64) p5), (.v (.sl (.sl (.int .i64))) p6), (.v (.sl .bool) p7)])), (15, (.rows 69 4 .bool p8 .own))])
noncomputable def ancepsref24_Ends.l30 (p0 : Int) (p1 : Int) (p2 : Bool) (p3 : Int) (p4 : Int) (p5 : Int) (p6 : (List (List Int))) (p7 : (List Bool)) (p8 : (List (List Bool))) (p9 : (List Int)) (p10 : (List Bool)) (p11 : (List Bool)) : Option ((List Int) × (Int × Unit)) := Go.Proofs.R.loopAt Go.Proofs.K27.ctx (Go.Proofs.R.Einf Go.Proofs.K27.ctx) 64 30 (.mk [(1, (.one (.v (.int .i64) p0))), (2, (.one (.ref 7 0))), (6, (.one (.row 15))), (11, (.one (.row 23))), (12, (.one (.row 31))), (13, (.one (.v (.int .i64) p1))), (14, (.one (.row 39))), (15, (.one (.v .bool p2))), (16, (.one (.v (.int .i64) p3)))] [(7, (.box 71 [(.v (.int .i64) p4), (.v (.int .i64) p5), (.v (.sl (.sl (.int .i64))) p6), (.v (.sl .bool) p7)])), (15, (.rows 69 4 .bool p8 .own)), (23, (.row 3 (.int .i64) p9 false)), (31, (.row 4 .bool p10 false)), (39, (.row 4 .bool p11 false))])
noncomputable def caesura_without.f (p0 : Int) (p1 : Int) (p2 : (List (List Int))) (p3 : (List Bool)) (p4 : Int) (p5 : Int) : Option (Bool × Unit) := (Go.Proofs.R.Einf Go.Proofs.K27.ctx).call 67 [(.agg [(.v (.int .i64) p0), (.v (.int .i64) p1), (.v (.sl (.sl (.int .i64))) p2), (.v (.sl .bool) p3)]), (.one (.v (.int .i64) p4)), (.one (.v (.int .i64) p5))]
noncomputable def slices_ContainsFunc_int_int.f3 (p0 : (List Int)) (p1 : Int) : Option (Bool × Unit) := (Go.Proofs.R.Einf Go.Proofs.K27.ctx).call 31 [(.one (.v (.sl (.int .i64)) p0)), (.one (.clo 146 [(.pref [(.v (.int .i64) p1)] 0)]))]
noncomputable def slices_IndexFunc_int_int.f2 (p0 : (List Int)) (p1 : (List (List Bool))) (p2 : Int) : Option (Int × Unit) := (Go.Proofs.R.Einf Go.Proofs.K27.ctx).call 69 [(.one (.v (.sl (.int .i64)) p0)), (.one (.clo 94 [(.pref [(.v (.sl (.sl .bool)) p1)] 0), (.pref [(.v (.int .i64) p2)] 0)]))]
noncomputable def compile_Ends.l31 (p0 : Int) (p1 : Int) (p2 : Bool) (p3 : Int) (p4 : Int) (p5 : (List Int)) (p6 : Int) (p7 : Int) (p8 : Int) (p9 : Int) (p10 : (List (List Int))) (p11 : (List Bool)) (p12 : (List Int)) (p13 : (List Bool)) (p14 : (List Bool)) (p15 : (List (List Bool))) : Option ((List Int) × (Int × Unit)) := Go.Proofs.R.loopAt Go.Proofs.K27.ctx (Go.Proofs.R.Einf Go.Proofs.K27.ctx) 61 31 (.mk [(1, (.one (.v (.int .i64) p0))), (2, (.one (.ref 7 0))), (6, (.one (.ref 15 0))), (10, (.one (.row 23))), (12, (.one (.v (.int .i64) p1))), (13, (.one (.row 31))), (14, (.one (.v .bool p2))), (91, (.one (.row 39))), (92, (.one (.v (.int .i64) p3))), (93, (.one (.v (.int .i64) p4))), (104, (.one (.v (.sl (.int .i64)) p5))), (105, (.one (.v (.int .i64) p6))), (106, (.one (.v (.int .i64) p7)))] [(7, (.box 71 [(.v (.int .i64) p8), (.v (.int .i64) p9), (.v (.sl (.sl (.int .i64))) p10), (.v (.sl .bool) p11)])), (15, (.box 138 [(.row 47)])), (23, (.row 3 (.int .i64) p12 false)), (31, (.row 4 .bool p13 false)), (39, (.row 4 .bool p14 false)), (47, (.row 69 (.sl .bool) p15 false))])
noncomputable def slices_Index_int_int.f (p0 : (List Int)) (p1 : Int) : Option (Int × Unit) := (Go.Proofs.R.Einf Go.Proofs.K27.ctx).call 70 [(.one (.v (.sl (.int .i64)) p0)), (.one (.v (.int .i64) p1))]
noncomputable def ancepsref24_Ends.l33 (p0 : Int) (p1 : Int) (p2 : Bool) (p3 : Int) (p4 : Int) (p5 : Int) (p6 : Int) (p7 : (List (List Int))) (p8 : (List Bool)) (p9 : (List (List Bool))) (p10 : (List Int)) (p11 : (List Bool)) (p12 : (List Bool)) : Option ((List Int) × (Int × Unit)) := Go.Proofs.R.loopAt Go.Proofs.K27.ctx (Go.Proofs.R.Einf Go.Proofs.K27.ctx) 64 33 (.mk [(1, (.one (.v (.int .i64) p0))), (2, (.one (.ref 7 0))), (6, (.one (.row 15))), (11, (.one (.row 23))), (12, (.one (.row 31))), (13, (.one (.v (.int .i64) p1))), (14, (.one (.row 39))), (15, (.one (.v .bool p2))), (16, (.one (.v (.int .i64) p3))), (17, (.one (.v (.int .i64) p4)))] [(7, (.box 71 [(.v (.int .i64) p5), (.v (.int .i64) p6), (.v (.sl (.sl (.int .i64))) p7), (.v (.sl .bool) p8)])), (15, (.rows 69 4 .bool p9 .own)), (23, (.row 3 (.int .i64) p10 false)), (31, (.row 4 .bool p11 false)), (39, (.row 4 .bool p12 false))])
noncomputable def caesura_without.l3 (p0 : Int) (p1 : Int) (p2 : Int) (p3 : Int) (p4 : Int) (p5 : (List (List Int))) (p6 : (List Bool)) (p7 : (List (Int × Bool))) : Option (Bool × Unit) := Go.Proofs.R.loopAt Go.Proofs.K27.ctx (Go.Proofs.R.Einf Go.Proofs.K27.ctx) 67 3 (.mk [(2, (.one (.v (.int .i64) p0))), (3, (.one (.ref 7 0))), (7, (.one (.mp 15))), (18, (.one (.v (.int .i64) p1))), (19, (.one (.v (.int .i64) p2)))] [(7, (.box 71 [(.v (.int .i64) p3), (.v (.int .i64) p4), (.v (.sl (.sl (.int .i64))) p5), (.v (.sl .bool) p6)])), (15, (.mp 3 4 (.int .i64) .bool p7))])
noncomputable def slices_IndexFunc_int_int.f3 (p0 : (List Int)) (p1 : Int) : Option (Int × Unit) := (Go.Proofs.R.Einf Go.Proofs.K27.ctx).call 69 [(.one (.v (.sl (.int .i64)) p0)), (.one (.clo 146 [(.pref [(.v (.int .i64) p1)] 0)]))]
noncomputable def slices_IndexFunc_int_int.l2_2 (p0 : (List Int)) (p1 : (List (List Bool))) (p2 : Int) (p3 : Int) (p4 : Int) : Option (Int × Unit) := Go.Proofs.R.loopAt Go.Proofs.K27.ctx (Go.Proofs.R.Einf Go.Proofs.K27.ctx) 69 2 (.mk [(0, (.one (.v (.sl (.int .i64)) p0))), (1, (.one (.clo 94 [(.pref [(.v (.sl (.sl .bool)) p1)] 0), (.pref [(.v (.int .i64) p2)] 0)]))), (7, (.one (.v (.int .i64) p3))), (8, (.one (.v (.int .i64) p4)))] [])
noncomputable def slices_Index_int_int.l2 (p0 : (List Int)) (p1 : Int) (p2 : Int) (p3 : Int) : Option (Int × Unit) := Go.Proofs.R.loopAt Go.Proofs.K27.ctx (Go.Proofs.R.Einf Go.Proofs.K27.ctx) 70 2 (.mk [(0, (.one (.v (.sl (.int .i64)) p0))), (1, (.one (.v (.int .i64) p1))), (7, (.one (.v (.int .i64) p2))), (8, (.one (.v (.int .i64) p3)))] [])
noncomputable def caesura_without.l7 (p0 : Int) (p1 : Int) (p2 : Int) (p3 : Int) (p4 : Int) (p5 : Int) (p6 : (List (List Int))) (p7 : (List Bool)) (p8 : (List (Int × Bool))) (p9 : Nat) (p10 : (List Nat)) (p11 : (List (Int × Bool))) : Option (Bool × Unit) := Go.Proofs.R.loopAt Go.Proofs.K27.ctx (Go.Proofs.R.Einf Go.Proofs.K27.ctx) 67 7 (.mk [(2, (.one (.v (.int .i64) p0))), (3, (.one (.ref 7 0))), (8, (.one (.v (.int .i64) p1))), (9, (.one (.mp 15))), (18, (.one (.v (.int .i64) p2))), (19, (.one (.v (.int .i64) p3))), (24, (.one (.ref 23 0)))] [(7, (.box 71 [(.v (.int .i64) p4), (.v (.int .i64) p5), (.v (.sl (.sl (.int .i64))) p6), (.v (.sl .bool) p7)])), (15, (.mp 3 4 (.int .i64) .bool p8)), (23, (.miter (.mp 31) p9 p10)), (31, (.mp 3 4 (.int .i64) .bool p11))])
noncomputable def caesura_without.l18 (p0 : Int) (p1 : Int) (p2 : (List (List Int))) (p3 : (List Bool)) (p4 : Nat) (p5 : (List Nat)) (p6 : (List (Int × Bool))) : Option (Bool × Unit) := Go.Proofs.R.loopAt Go.Proofs.K27.ctx (Go.Proofs.R.Einf Go.Proofs.K27.ctx) 67 18 (.mk [(3, (.one (.ref 7 0))), (58, (.one (.ref 15 0)))] [(7, (.box 71 [(.v (.int .i64) p0), (.v (.int .i64) p1), (.v (.sl (.sl (.int .i64))) p2), (.v (.sl .bool) p3)])), (15, (.miter (.mp 23) p4 p5)), (23, (.mp 3 4 (.int .i64) .bool p6))])
noncomputable def slices_IndexFunc_int_int.l2_3 (p0 : (List Int)) (p1 : Int) (p2 : Int) (p3 : Int) : Option (Int × Unit) := Go.Proofs.R.loopAt Go.Proofs.K27.ctx (Go.Proofs.R.Einf Go.Proofs.K27.ctx) 69 2 (.mk [(0, (.one (.v (.sl (.int .i64)) p0))), (1, (.one (.clo 146 [(.pref [(.v (.int .i64) p1)] 0)]))), (7, (.one (.v (.int .i64) p2))), (8, (.one (.v (.int .i64) p3)))] [])
noncomputable def compile_Ends_1.f (p0 : Int) (p1 : (List (List Bool))) (p2 : Int) : Option (Bool × Unit) := (Go.Proofs.R.Einf Go.Proofs.K27.ctx).call 94 [(.one (.v (.int .i64) p0)), (.one (.pref [(.v (.sl (.sl .bool)) p1)] 0)), (.one (.pref [(.v (.int .i64) p2)] 0))]
noncomputable def caesura_without.l10 (p0 : Int) (p1 : Int) (p2 : Int) (p3 : Int) (p4 : (List Int)) (p5 : Int) (p6 : Int) (p7 : Int) (p8 : Int) (p9 : (List (List Int))) (p10 : (List Bool)) (p11 : (List (Int × Bool))) (p12 : Nat) (p13 : (List Nat)) (p14 : (List (Int × Bool))) : Option (Bool × Unit) := Go.Proofs.R.loopAt Go.Proofs.K27.ctx (Go.Proofs.R.Einf Go.Proofs.K27.ctx) 67 10 (.mk [(2, (.one (.v (.int .i64) p0))), (3, (.one (.ref 7 0))), (8, (.one (.v (.int .i64) p1))), (9, (.one (.mp 15))), (18, (.one (.v (.int .i64) p2))), (19, (.one (.v (.int .i64) p3))), (24, (.one (.ref 23 0))), (33, (.one (.v (.sl (.int .i64)) p4))), (34, (.one (.v (.int .i64) p5))), (35, (.one (.v (.int .i64) p6)))] [(7, (.box 71 [(.v (.int .i64) p7), (.v (.int .i64) p8), (.v (.sl (.sl (.int .i64))) p9), (.v (.sl .bool) p10)])), (15, (.mp 3 4 (.int .i64) .bool p11)), (23, (.miter (.mp 31) p12 p13)), (31, (.mp 3 4 (.int .i64) .bool p14))])
noncomputable def automaton_Valid_1.f (p0 : Int) (p1 : Int) : Option (Bool × Unit) := (Go.Proofs.R.Einf Go.Proofs.K27.ctx).call 146 [(.one (.v (.int .i64) p0)), (.one (.pref [(.v (.int .i64) p1)] 0))]

theorem ancepslaw27_CaesuraBridges.f_eq (p0 : Int) (p1 : Int) (p2 : (List (List Int))) (p3 : (List Bool)) (p4 : Int) : ancepslaw27_CaesuraBridges.f p0 p1 p2 p3 p4 =
  bindD (ancepslaw27_awake.f) fun t0 =>
  ifB (!t0.1)
   (bindD (ancepslaw27_awake.f) fun t1 =>
   some (t1.1, ()))
  (bindD (ancepsref06_Few.f p0 p1 p2 p3) fun t2 =>
   ifB (!t2.1)
    (bindD (ancepslaw27_awake.f) fun t3 =>
    some (t3.1, ()))
   (bindD (caesura_Bridges.f p0 p1 p2 p3 p4) fun t4 =>
    bindD (ancepsref27_Bridges.f p0 p1 p2 p3 p4) fun t5 =>
    bindD (caesura_Always.f p0 p1 p2 p3 p4) fun t6 =>
    bindD (ancepsref27_Always.f p0 p1 p2 p3 p4) fun t7 =>
    ifB (t4.2.1 != t5.2.1)
     (some (false, ()))
    (bindD (slices_Equal_int_int.f t4.1 t5.1) fun t8 =>
     ifB (!t8.1)
      (some (false, ()))
     (ifB (t6.2.1 != t7.2.1)
       (some (false, ()))
      (bindD (slices_Equal_int_int.f t6.1 t7.1) fun t9 =>
       ifB (!t9.1)
        (some (false, ()))
       (bindD (slices_ContainsFunc_int_int.f t4.1 t6.1) fun t10 =>
        some ((!t10.1), ()))))))) := (Einf_call Go.Proofs.K27.ctx 7 _).trans (by kernel_rfl)
theorem ancepsref06_Few.f_eq (p0 : Int) (p1 : Int) (p2 : (List (List Int))) (p3 : (List Bool)) : ancepsref06_Few.f p0 p1 p2 p3 =
  ifB (decide ((((List.length p2) : Nat) : Int) > (410 : Int)))
   (some (false, ()))
  (ifB (decide ((((List.length p3) : Nat) : Int) > (420 : Int)))
    (some (false, ()))
   (ancepsref06_Few.l5 (0 : Int) (0 : Int) p0 p1 p2 p3)) := (Einf_call Go.Proofs.K27.ctx 26 _).trans (by kernel_rfl)
theorem caesura_Bridges.f_eq (p0 : Int) (p1 : Int) (p2 : (List (List Int))) (p3 : (List Bool)) (p4 : Int) : caesura_Bridges.f p0 p1 p2 p3 p4 =
  bindD (compile_Ends.f p0 p1 p2 p3 p4) fun t21 =>
  ifB (t21.2.1 != (0 : Int))
   (some (([] : (List Int)), (t21.2.1, ())))
  (bindD (caesura_inner.f p4 t21.1) fun t22 =>
   some (t22.1, ((0 : Int), ()))) := (Einf_call Go.Proofs.K27.ctx 27 _).trans (by kernel_rfl)
theorem ancepsref27_Bridges.f_eq (p0 : Int) (p1 : Int) (p2 : (List (List Int))) (p3 : (List Bool)) (p4 : Int) : ancepsref27_Bridges.f p0 p1 p2 p3 p4 =
  bindD (ancepsref24_Ends.f p0 p1 p2 p3 p4) fun t23 =>
  ifB (t23.2.1 != (0 : Int))
   (some (([] : (List Int)), (t23.2.1, ())))
  (bindD (ancepsref27_others.f t23.1 p4) fun t24 =>
   some (t24.1, ((0 : Int), ()))) := (Einf_call Go.Proofs.K27.ctx 28 _).trans (by kernel_rfl)
theorem caesura_Always.f_eq (p0 : Int) (p1 : Int) (p2 : (List (List Int))) (p3 : (List Bool)) (p4 : Int) : caesura_Always.f p0 p1 p2 p3 p4 =
  bindD (compile_Ends.f p0 p1 p2 p3 p4) fun t25 =>
  ifB (t25.2.1 != (0 : Int))
   (some (([] : (List Int)), (t25.2.1, ())))
  (bindD (caesura_inner.f1 p4 p0 p1 p2 p3 p4) fun t26 =>
   some (t26.1, ((0 : Int), ()))) := (Einf_call Go.Proofs.K27.ctx 29 _).trans (by kernel_rfl)
theorem ancepsref27_Always.f_eq (p0 : Int) (p1 : Int) (p2 : (List (List Int))) (p3 : (List Bool)) (p4 : Int) : ancepsref27_Always.f p0 p1 p2 p3 p4 =
  bindD (ancepsref06_Valid.f p0 p1 p2 p3) fun t27 =>
  ifB (t27.1 != (0 : Int))
   (some (([] : (List Int)), ((1 : Int), ())))
  (ifB (p0 != (4 : Int))
    (some (([] : (List Int)), ((1 : Int), ())))
   (ancepsref27_Always.l5 p4 (0 : Int) p0 p1 p2 p3 (4 : Int) p1 p3 ([] : (List (List Int))))) := (Einf_call Go.Proofs.K27.ctx 30 _).trans (by kernel_rfl)
theorem slices_Equal_int_int.f_eq (p0 : (List Int)) (p1 : (List Int)) : slices_Equal_int_int.f p0 p1 =
  ifB ((((List.length p0) : Nat) : Int) != (((List.length p1) : Nat) : Int))
   (some (false, ()))
  (slices_Equal_int_int.l4 p0 p1 (((List.length p0) : Nat) : Int) (0 : Int)) := (Einf_call Go.Proofs.K27.ctx 17 _).trans (by kernel_rfl)
theorem slices_ContainsFunc_int_int.f_eq (p0 : (List Int)) (p1 : (List Int)) : slices_ContainsFunc_int_int.f p0 p1 =
  bindD (slices_IndexFunc_int_int.f p0 p1) fun t28 =>
  some ((decide (t28.1 ≥ (0 : Int))), ()) := (Einf_call Go.Proofs.K27.ctx 31 _).trans (by kernel_rfl)
theorem ancepsref06_Few.l5_eq (p0 : Int) (p1 : Int) (p2 : Int) (p3 : Int) (p4 : (List (List Int))) (p5 : (List Bool)) : ancepsref06_Few.l5 p0 p1 p2 p3 p4 p5 =
  ifB (decide (p1 < (((List.length p4) : Nat) : Int)))
   (bindD ((ixAt p4 p1)) fun t33 =>
   ancepsref06_Few.l5 (Go.IntKind.wrap Go.IntKind.i64 (p0 + (((List.length t33) : Nat) : Int))) (Go.IntKind.wrap Go.IntKind.i64 (p1 + (1 : Int))) p2 p3 p4 p5)
  (some ((decide (p0 ≤ (1700 : Int))), ())) := (loopAt_step Go.Proofs.K27.ctx 26 5 _).trans (by kernel_rfl)
theorem compile_Ends.f_eq (p0 : Int) (p1 : Int) (p2 : (List (List Int))) (p3 : (List Bool)) (p4 : Int) : compile_Ends.f p0 p1 p2 p3 p4 =
  bindD (compile_given.f p0 p1 p2 p3) fun t34 =>
  ifB (!t34.1)
   (some (([] : (List Int)), ((1 : Int), ())))
  (ifB (decide (p4 < (0 : Int)))
    (some (([] : (List Int)), ((6 : Int), ())))
   (ifB (decide (p4 > (60 : Int)))
     (some (([] : (List Int)), ((6 : Int), ())))
    (compile_Ends.l7 p4 p4 (0 : Int) p0 p1 p2 p3 (p3 :: ([] : (List (List Bool))))))) := (Einf_call Go.Proofs.K27.ctx 61 _).trans (by kernel_rfl)
theorem caesura_inner.f_eq (p0 : Int) (p1 : (List Int)) : caesura_inner.f p0 p1 =
  caesura_inner.l3 p0 p1 (1 : Int) ([] : (List Int)) := (Einf_call Go.Proofs.K27.ctx 62 _).trans (by kernel_rfl)
theorem ancepsref24_Ends.f_eq (p0 : Int) (p1 : Int) (p2 : (List (List Int))) (p3 : (List Bool)) (p4 : Int) : ancepsref24_Ends.f p0 p1 p2 p3 p4 =
  bindD (ancepsref06_Valid.f p0 p1 p2 p3) fun t35 =>
  ifB (t35.1 != (0 : Int))
   (some (([] : (List Int)), ((1 : Int), ())))
  (ifB (p0 != (4 : Int))
    (some (([] : (List Int)), ((1 : Int), ())))
   (ifB (decide (p4 < (0 : Int)))
     (some (([] : (List Int)), ((6 : Int), ())))
    (ifB (decide (p4 > (60 : Int)))
      (some (([] : (List Int)), ((6 : Int), ())))
     (bindD ((Go.Proofs.R.mkLen (Go.IntKind.wrap Go.IntKind.i64 (p4 + (1 : Int))) (Go.IntKind.wrap Go.IntKind.i64 (p4 + (1 : Int))))) fun t36 =>
      ancepsref24_Ends.l7 p4 (0 : Int) p0 p1 p2 p3 (List.replicate t36 ([] : (List Bool))))))) := (Einf_call Go.Proofs.K27.ctx 64 _).trans (by kernel_rfl)
theorem ancepsref27_others.f_eq (p0 : (List Int)) (p1 : Int) : ancepsref27_others.f p0 p1 =
  ancepsref27_others.l3 p0 p1 (1 : Int) ([] : (List Int)) := (Einf_call Go.Proofs.K27.ctx 65 _).trans (by kernel_rfl)
theorem caesura_inner.f1_eq (p0 : Int) (p1 : Int) (p2 : Int) (p3 : (List (List Int))) (p4 : (List Bool)) (p5 : Int) : caesura_inner.f1 p0 p1 p2 p3 p4 p5 =
  caesura_inner.l3_1 p0 p1 p2 p3 p4 p5 (1 : Int) ([] : (List Int)) := (Einf_call Go.Proofs.K27.ctx 62 _).trans (by kernel_rfl)
theorem ancepsref06_Valid.f_eq (p0 : Int) (p1 : Int) (p2 : (List (List Int))) (p3 : (List Bool)) : ancepsref06_Valid.f p0 p1 p2 p3 =
  ifB (decide (p0 < (1 : Int)))
   (some ((1 : Int), ()))
  (ifB (decide (p0 > (8 : Int)))
    (some ((1 : Int), ()))
   (ifB (decide ((((List.length p2) : Nat) : Int) > (400 : Int)))
     (some ((1 : Int), ()))
    (ifB ((((List.length p3) : Nat) : Int) != (((List.length p2) : Nat) : Int))
      (some ((1 : Int), ()))
     (ifB ((((List.length p2) : Nat) : Int) == (0 : Int))
       (ifB (p1 != (-(1 : Int)))
        (some ((1 : Int), ()))
       (ifB (decide ((((List.length p2) : Nat) : Int) > (0 : Int)))
         (ifB (decide (p1 < (0 : Int)))
          (some ((1 : Int), ()))
         (ifB (decide (p1 ≥ (((List.length p2) : Nat) : Int)))
           (some ((1 : Int), ()))
          (ancepsref06_Valid.l7 (((List.length p2) : Nat) : Int) (0 : Int) p0 p1 p2 p3)))
        (ancepsref06_Valid.l7 (((List.length p2) : Nat) : Int) (0 : Int) p0 p1 p2 p3)))
      (ifB (decide ((((List.length p2) : Nat) : Int) > (0 : Int)))
        (ifB (decide (p1 < (0 : Int)))
         (some ((1 : Int), ()))
        (ifB (decide (p1 ≥ (((List.length p2) : Nat) : Int)))
          (some ((1 : Int), ()))
         (ancepsref06_Valid.l7 (((List.length p2) : Nat) : Int) (0 : Int) p0 p1 p2 p3)))
       (ancepsref06_Valid.l7 (((List.length p2) : Nat) : Int) (0 : Int) p0 p1 p2 p3)))))) := (Einf_call Go.Proofs.K27.ctx 68 _).trans (by kernel_rfl)
theorem ancepsref27_Always.l5_eq (p0 : Int) (p1 : Int) (p2 : Int) (p3 : Int) (p4 : (List (List Int))) (p5 : (List Bool)) (p6 : Int) (p7 : Int) (p8 : (List Bool)) (p9 : (List (List Int))) : ancepsref27_Always.l5 p0 p1 p2 p3 p4 p5 p6 p7 p8 p9 =
  ifB (decide (p1 < (((List.length p4) : Nat) : Int)))
   (bindD ((ixAt p4 p1)) fun t37 =>
   bindD ((ixAt t37 (2 : Int))) fun t38 =>
   bindD ((ixAt t37 (3 : Int))) fun t39 =>
   bindD ((ixAt t37 (0 : Int))) fun t40 =>
   bindD ((ixAt t37 (1 : Int))) fun t41 =>
   bindD ((Go.Proofs.R.grow ((List.length p9) + (List.length ((t38 :: (t39 :: (t40 :: (t41 :: ([] : (List Int)))))) :: ([] : (List (List Int)))))))) fun t42 =>
   ancepsref27_Always.l5 p0 (Go.IntKind.wrap Go.IntKind.i64 (p1 + (1 : Int))) p2 p3 p4 p5 p6 p7 p8 (p9 ++ ((t38 :: (t39 :: (t40 :: (t41 :: ([] : (List Int)))))) :: ([] : (List (List Int))))))
  (bindD (ancepsref24_Ends.f p6 p7 p9 p8 p0) fun t43 =>
   ifB (t43.2.1 != (0 : Int))
    (some (([] : (List Int)), (t43.2.1, ())))
   (bindD (ancepsref27_others.f t43.1 p0) fun t44 =>
    some (t44.1, ((0 : Int), ())))) := (loopAt_step Go.Proofs.K27.ctx 30 5 _).trans (by kernel_rfl)
theorem slices_Equal_int_int.l4_eq (p0 : (List Int)) (p1 : (List Int)) (p2 : Int) (p3 : Int) : slices_Equal_int_int.l4 p0 p1 p2 p3 =
  ifB (decide (p3 < p2))
   (bindD ((ixAt p0 p3)) fun t45 =>
   bindD ((ixAt p1 p3)) fun t46 =>
   ifB (t45 != t46)
    (some (false, ()))
   (slices_Equal_int_int.l4 p0 p1 p2 (Go.IntKind.wrap Go.IntKind.i64 (p3 + (1 : Int)))))
  (some (true, ())) := (loopAt_step Go.Proofs.K27.ctx 17 4 _).trans (by kernel_rfl)
theorem slices_IndexFunc_int_int.f_eq (p0 : (List Int)) (p1 : (List Int)) : slices_IndexFunc_int_int.f p0 p1 =
  slices_IndexFunc_int_int.l2 p0 p1 (((List.length p0) : Nat) : Int) (0 : Int) := (Einf_call Go.Proofs.K27.ctx 69 _).trans (by kernel_rfl)
theorem compile_given.f_eq (p0 : Int) (p1 : Int) (p2 : (List (List Int))) (p3 : (List Bool)) : compile_given.f p0 p1 p2 p3 =
  bindD (automaton_Valid.f p0 p1 p2 p3) fun t57 =>
  ifB (t57.1 == (0 : Int))
   (some ((p0 == (4 : Int)), ()))
  (some (false, ())) := (Einf_call Go.Proofs.K27.ctx 93 _).trans (by kernel_rfl)
theorem compile_Ends.l7_eq (p0 : Int) (p1 : Int) (p2 : Int) (p3 : Int) (p4 : Int) (p5 : (List (List Int))) (p6 : (List Bool)) (p7 : (List (List Bool))) : compile_Ends.l7 p0 p1 p2 p3 p4 p5 p6 p7 =
  ifB (decide (p2 < p1))
   (bindD ((Go.Proofs.R.mkLen (((List.length p5) : Nat) : Int) (((List.length p5) : Nat) : Int))) fun t58 =>
   compile_Ends.l11 p0 p1 p2 (((List.length (List.replicate t58 false)) : Nat) : Int) (0 : Int) p3 p4 p5 p6 p2 (List.replicate t58 false) p7)
  (ifB (decide (p4 < (0 : Int)))
    (some (([] : (List Int)), ((10 : Int), ())))
   (bindD ((ixAt p7 p0)) fun t59 =>
    bindD ((ixAt p7 p0)) fun t60 =>
    bindD ((ixAt t60 p4)) fun t61 =>
    ifB (!t61)
     (some (([] : (List Int)), ((10 : Int), ())))
    (bindD ((Go.Proofs.R.mkLen (((List.length p5) : Nat) : Int) (((List.length p5) : Nat) : Int))) fun t62 =>
     bindD ((ixAt (List.replicate t62 false) p4)) fun t63 =>
     bindD ((ixAt (List.replicate t62 false) p4)) fun t64 =>
     compile_Ends.l23 p0 (1 : Int) p3 p4 p5 p6 ([] : (List Int)) (setRow (List.replicate t62 false) p4 true) p7))) := (loopAt_step Go.Proofs.K27.ctx 61 7 _).trans (by kernel_rfl)
theorem caesura_inner.l3_eq (p0 : Int) (p1 : (List Int)) (p2 : Int) (p3 : (List Int)) : caesura_inner.l3 p0 p1 p2 p3 =
  ifB (decide (p2 < p0))
   (bindD (caesura_Bridges_1.f p2 p1) fun t65 =>
   ifB t65.1
    (bindD ((Go.Proofs.R.grow ((List.length p3) + (List.length (p2 :: ([] : (List Int))))))) fun t66 =>
    caesura_inner.l3 p0 p1 (Go.IntKind.wrap Go.IntKind.i64 (p2 + (1 : Int))) (p3 ++ (p2 :: ([] : (List Int)))))
   (caesura_inner.l3 p0 p1 (Go.IntKind.wrap Go.IntKind.i64 (p2 + (1 : Int))) p3))
  (some (p3, ())) := (loopAt_step Go.Proofs.K27.ctx 62 3 _).trans (by kernel_rfl)
theorem ancepsref24_Ends.l7_eq (p0 : Int) (p1 : Int) (p2 : Int) (p3 : Int) (p4 : (List (List Int))) (p5 : (List Bool)) (p6 : (List (List Bool))) : ancepsref24_Ends.l7 p0 p1 p2 p3 p4 p5 p6 =
  ifB (decide (p1 ≤ p0))
   (bindD ((Go.Proofs.R.mkLen (((List.length p4) : Nat) : Int) (((List.length p4) : Nat) : Int))) fun t67 =>
   bindD ((ixAt p6 p1)) fun t68 =>
   bindD ((ixAt p6 p1)) fun t69 =>
   ancepsref24_Ends.l11 p0 p1 (0 : Int) p2 p3 p4 p5 (setRow p6 p1 (List.replicate t67 false)))
  (ifB (decide (p3 < (0 : Int)))
    (some (([] : (List Int)), ((10 : Int), ())))
   (bindD ((ixAt p6 p0)) fun t70 =>
    bindD ((ixAt p6 p0)) fun t71 =>
    bindD ((ixAt p6 p0)) fun t72 =>
    bindD ((ixAt t72 p3)) fun t73 =>
    bindD ((ixAt p6 p0)) fun t74 =>
    bindD ((ixAt t74 p3)) fun t75 =>
    ifB (!t75)
     (some (([] : (List Int)), ((10 : Int), ())))
    (bindD ((Go.Proofs.R.mkLen (((List.length p4) : Nat) : Int) (((List.length p4) : Nat) : Int))) fun t76 =>
     bindD ((ixAt (List.replicate t76 false) p3)) fun t77 =>
     bindD ((ixAt (List.replicate t76 false) p3)) fun t78 =>
     ancepsref24_Ends.l26 p0 (1 : Int) p2 p3 p4 p5 p6 ([] : (List Int)) (setRow (List.replicate t76 false) p3 true)))) := (loopAt_step Go.Proofs.K27.ctx 64 7 _).trans (by kernel_rfl)
theorem ancepsref27_others.l3_eq (p0 : (List Int)) (p1 : Int) (p2 : Int) (p3 : (List Int)) : ancepsref27_others.l3 p0 p1 p2 p3 =
  ifB (decide (p2 < p1))
   (ancepsref27_others.l7 p0 p1 p2 false (0 : Int) p3)
  (some (p3, ())) := (loopAt_step Go.Proofs.K27.ctx 65 3 _).trans (by kernel_rfl)
theorem caesura_inner.l3_1_eq (p0 : Int) (p1 : Int) (p2 : Int) (p3 : (List (List Int))) (p4 : (List Bool)) (p5 : Int) (p6 : Int) (p7 : (List Int)) : caesura_inner.l3_1 p0 p1 p2 p3 p4 p5 p6 p7 =
  ifB (decide (p6 < p0))
   (bindD (caesura_Always_1.f p6 p1 p2 p3 p4 p5) fun t79 =>
   ifB t79.1
    (bindD ((Go.Proofs.R.grow ((List.length p7) + (List.length (p6 :: ([] : (List Int))))))) fun t80 =>
    caesura_inner.l3_1 p0 p1 p2 p3 p4 p5 (Go.IntKind.wrap Go.IntKind.i64 (p6 + (1 : Int))) (p7 ++ (p6 :: ([] : (List Int)))))
   (caesura_inner.l3_1 p0 p1 p2 p3 p4 p5 (Go.IntKind.wrap Go.IntKind.i64 (p6 + (1 : Int))) p7))
  (some (p7, ())) := (loopAt_step Go.Proofs.K27.ctx 62 3 _).trans (by kernel_rfl)
theorem ancepsref06_Valid.l7_eq (p0 : Int) (p1 : Int) (p2 : Int) (p3 : Int) (p4 : (List (List Int))) (p5 : (List Bool)) : ancepsref06_Valid.l7 p0 p1 p2 p3 p4 p5 =
  ifB (decide (p1 < p0))
   (bindD ((ixAt p4 p1)) fun t81 =>
   ifB ((((List.length t81) : Nat) : Int) != p2)
    (some ((1 : Int), ()))
   (ancepsref06_Valid.l12 p0 p1 (0 : Int) p2 p3 p4 p5))
  (some ((0 : Int), ())) := (loopAt_step Go.Proofs.K27.ctx 68 7 _).trans (by kernel_rfl)
theorem slices_IndexFunc_int_int.l2_eq (p0 : (List Int)) (p1 : (List Int)) (p2 : Int) (p3 : Int) : slices_IndexFunc_int_int.l2 p0 p1 p2 p3 =
  ifB (decide (p3 < p2))
   (bindD ((ixAt p0 p3)) fun t82 =>
   bindD (ancepslaw27_CaesuraBridges_1.f t82 p1) fun t83 =>
   ifB t83.1
    (some (p3, ()))
   (slices_IndexFunc_int_int.l2 p0 p1 p2 (Go.IntKind.wrap Go.IntKind.i64 (p3 + (1 : Int)))))
  (some ((-(1 : Int)), ())) := (loopAt_step Go.Proofs.K27.ctx 69 2 _).trans (by kernel_rfl)
theorem automaton_Valid.f_eq (p0 : Int) (p1 : Int) (p2 : (List (List Int))) (p3 : (List Bool)) : automaton_Valid.f p0 p1 p2 p3 =
  ifB (decide (p0 < (1 : Int)))
   (some ((1 : Int), ()))
  (ifB (decide (p0 > (8 : Int)))
    (some ((1 : Int), ()))
   (ifB (decide ((((List.length p2) : Nat) : Int) > (400 : Int)))
     (some ((1 : Int), ()))
    (ifB ((((List.length p3) : Nat) : Int) != (((List.length p2) : Nat) : Int))
      (some ((1 : Int), ()))
     (ifB (decide (p1 < (0 : Int)))
       (ifB (decide ((((List.length p2) : Nat) : Int) > (0 : Int)))
        (some ((1 : Int), ()))
       (ifB (p1 != (-(1 : Int)))
         (some ((1 : Int), ()))
        (ifB (decide (p1 ≥ (((List.length p2) : Nat) : Int)))
          (some ((1 : Int), ()))
         (automaton_Valid.l7 p2 (((List.length p2) : Nat) : Int) (0 : Int) p0 p1 p2 p3 (((List.length p2) : Nat) : Int)))))
      (ifB (decide (p1 ≥ (((List.length p2) : Nat) : Int)))
        (some ((1 : Int), ()))
       (automaton_Valid.l7 p2 (((List.length p2) : Nat) : Int) (0 : Int) p0 p1 p2 p3 (((List.length p2) : Nat) : Int))))))) := (Einf_call Go.Proofs.K27.ctx 116 _).trans (by kernel_rfl)
theorem compile_Ends.l11_eq (p0 : Int) (p1 : Int) (p2 : Int) (p3 : Int) (p4 : Int) (p5 : Int) (p6 : Int) (p7 : (List (List Int))) (p8 : (List Bool)) (p9 : Int) (p10 : (List Bool)) (p11 : (List (List Bool))) : compile_Ends.l11 p0 p1 p2 p3 p4 p5 p6 p7 p8 p9 p10 p11 =
  ifB (decide (p4 < p3))
   (bindD ((ixAt p7 p4)) fun t95 =>
   bindD (slices_ContainsFunc_int_int.f2 t95 p11 p9) fun t96 =>
   bindD ((ixAt p10 p4)) fun t97 =>
   bindD ((ixAt p10 p4)) fun t98 =>
   compile_Ends.l11 p0 p1 p2 p3 (Go.IntKind.wrap Go.IntKind.i64 (p4 + (1 : Int))) p5 p6 p7 p8 p9 (setRow p10 p4 t96.1) p11)
  (bindD ((Go.Proofs.R.grow ((List.length p11) + (List.length (p10 :: ([] : (List (List Bool)))))))) fun t99 =>
   compile_Ends.l7 p0 p1 (Go.IntKind.wrap Go.IntKind.i64 (p2 + (1 : Int))) p5 p6 p7 p8 (p11 ++ (p10 :: ([] : (List (List Bool)))))) := (loopAt_step Go.Proofs.K27.ctx 61 11 _).trans (by kernel_rfl)
theorem compile_Ends.l23_eq (p0 : Int) (p1 : Int) (p2 : Int) (p3 : Int) (p4 : (List (List Int))) (p5 : (List Bool)) (p6 : (List Int)) (p7 : (List Bool)) (p8 : (List (List Bool))) : compile_Ends.l23 p0 p1 p2 p3 p4 p5 p6 p7 p8 =
  ifB (decide (p1 ≤ p0))
   (bindD ((Go.Proofs.R.mkLen (((List.length p4) : Nat) : Int) (((List.length p4) : Nat) : Int))) fun t100 =>
   compile_Ends.l27 p0 p1 false (((List.length p7) : Nat) : Int) (0 : Int) p2 p3 p4 p5 p6 (List.replicate t100 false) p7 p8)
  (some (p6, ((0 : Int), ()))) := (loopAt_step Go.Proofs.K27.ctx 61 23 _).trans (by kernel_rfl)
theorem caesura_Bridges_1.f_eq (p0 : Int) (p1 : (List Int)) : caesura_Bridges_1.f p0 p1 =
  bindD (slices_Contains_int_int.f p1 p0) fun t101 =>
  some ((!t101.1), ()) := (Einf_call Go.Proofs.K27.ctx 63 _).trans (by kernel_rfl)
theorem ancepsref24_Ends.l11_eq (p0 : Int) (p1 : Int) (p2 : Int) (p3 : Int) (p4 : Int) (p5 : (List (List Int))) (p6 : (List Bool)) (p7 : (List (List Bool))) : ancepsref24_Ends.l11 p0 p1 p2 p3 p4 p5 p6 p7 =
  ifB (decide (p2 < (((List.length p5) : Nat) : Int)))
   (bindD ((ixAt p7 p1)) fun t102 =>
   bindD ((ixAt p7 p1)) fun t103 =>
   ifB (p1 == (0 : Int))
    (bindD ((ixAt p6 p2)) fun t104 =>
    bindD ((ixAt p7 p1)) fun t105 =>
    bindD ((ixAt t105 p2)) fun t106 =>
    bindD ((ixAt p7 p1)) fun t107 =>
    bindD ((ixAt t107 p2)) fun t108 =>
    ancepsref24_Ends.l15 p0 p1 p2 (0 : Int) p3 p4 p5 p6 (setRow p7 p1 (setRow t107 p2 t104)))
   (bindD ((ixAt p7 p1)) fun t109 =>
    bindD ((ixAt t109 p2)) fun t110 =>
    bindD ((ixAt p7 p1)) fun t111 =>
    bindD ((ixAt t111 p2)) fun t112 =>
    ancepsref24_Ends.l15 p0 p1 p2 (0 : Int) p3 p4 p5 p6 (setRow p7 p1 (setRow t111 p2 false))))
  (ancepsref24_Ends.l7 p0 (Go.IntKind.wrap Go.IntKind.i64 (p1 + (1 : Int))) p3 p4 p5 p6 p7) := (loopAt_step Go.Proofs.K27.ctx 64 11 _).trans (by kernel_rfl)
theorem ancepsref24_Ends.l26_eq (p0 : Int) (p1 : Int) (p2 : Int) (p3 : Int) (p4 : (List (List Int))) (p5 : (List Bool)) (p6 : (List (List Bool))) (p7 : (List Int)) (p8 : (List Bool)) : ancepsref24_Ends.l26 p0 p1 p2 p3 p4 p5 p6 p7 p8 =
  ifB (decide (p1 ≤ p0))
   (bindD ((Go.Proofs.R.mkLen (((List.length p4) : Nat) : Int) (((List.length p4) : Nat) : Int))) fun t113 =>
   ancepsref24_Ends.l30 p0 p1 false (0 : Int) p2 p3 p4 p5 p6 p7 p8 (List.replicate t113 false))
  (some (p7, ((0 : Int), ()))) := (loopAt_step Go.Proofs.K27.ctx 64 26 _).trans (by kernel_rfl)
theorem ancepsref27_others.l7_eq (p0 : (List Int)) (p1 : Int) (p2 : Int) (p3 : Bool) (p4 : Int) (p5 : (List Int)) : ancepsref27_others.l7 p0 p1 p2 p3 p4 p5 =
  ifB (decide (p4 < (((List.length p0) : Nat) : Int)))
   (ifB p3
    (ancepsref27_others.l7 p0 p1 p2 true (Go.IntKind.wrap Go.IntKind.i64 (p4 + (1 : Int))) p5)
   (bindD ((ixAt p0 p4)) fun t114 =>
    ancepsref27_others.l7 p0 p1 p2 (t114 == p2) (Go.IntKind.wrap Go.IntKind.i64 (p4 + (1 : Int))) p5))
  (ifB (!p3)
    (bindD ((Go.Proofs.R.grow ((List.length p5) + (List.length (p2 :: ([] : (List Int))))))) fun t115 =>
    ancepsref27_others.l3 p0 p1 (Go.IntKind.wrap Go.IntKind.i64 (p2 + (1 : Int))) (p5 ++ (p2 :: ([] : (List Int)))))
   (ancepsref27_others.l3 p0 p1 (Go.IntKind.wrap Go.IntKind.i64 (p2 + (1 : Int))) p5)) := (loopAt_step Go.Proofs.K27.ctx 65 7 _).trans (by kernel_rfl)
theorem caesura_Always_1.f_eq (p0 : Int) (p1 : Int) (p2 : Int) (p3 : (List (List Int))) (p4 : (List Bool)) (p5 : Int) : caesura_Always_1.f p0 p1 p2 p3 p4 p5 =
  bindD (caesura_without.f p1 p2 p3 p4 p5 p0) fun t116 =>
  some ((!t116.1), ()) := (Einf_call Go.Proofs.K27.ctx 66 _).trans (by kernel_rfl)
theorem ancepsref06_Valid.l12_eq (p0 : Int) (p1 : Int) (p2 : Int) (p3 : Int) (p4 : Int) (p5 : (List (List Int))) (p6 : (List Bool)) : ancepsref06_Valid.l12 p0 p1 p2 p3 p4 p5 p6 =
  ifB (decide (p2 < p3))
   (bindD ((ixAt p5 p1)) fun t117 =>
   bindD ((ixAt t117 p2)) fun t118 =>
   ifB (decide (t118 < (-(1 : Int))))
    (some ((1 : Int), ()))
   (bindD ((ixAt p5 p1)) fun t119 =>
    bindD ((ixAt t119 p2)) fun t120 =>
    ifB (decide (t120 ≥ p0))
     (some ((1 : Int), ()))
    (ancepsref06_Valid.l12 p0 p1 (Go.IntKind.wrap Go.IntKind.i64 (p2 + (1 : Int))) p3 p4 p5 p6)))
  (ancepsref06_Valid.l7 p0 (Go.IntKind.wrap Go.IntKind.i64 (p1 + (1 : Int))) p3 p4 p5 p6) := (loopAt_step Go.Proofs.K27.ctx 68 12 _).trans (by kernel_rfl)
theorem ancepslaw27_CaesuraBridges_1.f_eq (p0 : Int) (p1 : (List Int)) : ancepslaw27_CaesuraBridges_1.f p0 p1 =
  bindD (slices_Contains_int_int.f p1 p0) fun t121 =>
  some (t121.1, ()) := (Einf_call Go.Proofs.K27.ctx 32 _).trans (by kernel_rfl)
theorem automaton_Valid.l7_eq (p0 : (List (List Int))) (p1 : Int) (p2 : Int) (p3 : Int) (p4 : Int) (p5 : (List (List Int))) (p6 : (List Bool)) (p7 : Int) : automaton_Valid.l7 p0 p1 p2 p3 p4 p5 p6 p7 =
  ifB (decide (p2 < p1))
   (bindD ((ixAt p0 p2)) fun t129 =>
   ifB ((((List.length t129) : Nat) : Int) != p3)
    (some ((1 : Int), ()))
   (bindD (slices_ContainsFunc_int_int.f3 t129 p7) fun t130 =>
    ifB t130.1
     (some ((1 : Int), ()))
    (automaton_Valid.l7 p0 p1 (Go.IntKind.wrap Go.IntKind.i64 (p2 + (1 : Int))) p3 p4 p5 p6 p7)))
  (some ((0 : Int), ())) := (loopAt_step Go.Proofs.K27.ctx 116 7 _).trans (by kernel_rfl)
theorem slices_ContainsFunc_int_int.f2_eq (p0 : (List Int)) (p1 : (List (List Bool))) (p2 : Int) : slices_ContainsFunc_int_int.f2 p0 p1 p2 =
  bindD (slices_IndexFunc_int_int.f2 p0 p1 p2) fun t131 =>
  some ((decide (t131.1 ≥ (0 : Int))), ()) := (Einf_call Go.Proofs.K27.ctx 31 _).trans (by kernel_rfl)
theorem compile_Ends.l27_eq (p0 : Int) (p1 : Int) (p2 : Bool) (p3 : Int) (p4 : Int) (p5 : Int) (p6 : Int) (p7 : (List (List Int))) (p8 : (List Bool)) (p9 : (List Int)) (p10 : (List Bool)) (p11 : (List Bool)) (p12 : (List (List Bool))) : compile_Ends.l27 p0 p1 p2 p3 p4 p5 p6 p7 p8 p9 p10 p11 p12 =
  ifB (decide (p4 < p3))
   (bindD ((ixAt p11 p4)) fun t132 =>
   bindD ((ixAt p11 p4)) fun t133 =>
   ifB (!t133)
    (compile_Ends.l27 p0 p1 p2 p3 (Go.IntKind.wrap Go.IntKind.i64 (p4 + (1 : Int))) p5 p6 p7 p8 p9 p10 p11 p12)
   (bindD ((ixAt p7 p4)) fun t134 =>
    compile_Ends.l31 p0 p1 p2 p3 p4 t134 (((List.length t134) : Nat) : Int) (0 : Int) p5 p6 p7 p8 p9 p10 p11 p12))
  (ifB p2
    (bindD ((Go.Proofs.R.grow ((List.length p9) + (List.length (p1 :: ([] : (List Int))))))) fun t135 =>
    compile_Ends.l23 p0 (Go.IntKind.wrap Go.IntKind.i64 (p1 + (1 : Int))) p5 p6 p7 p8 (p9 ++ (p1 :: ([] : (List Int)))) p10 p12)
   (compile_Ends.l23 p0 (Go.IntKind.wrap Go.IntKind.i64 (p1 + (1 : Int))) p5 p6 p7 p8 p9 p10 p12)) := (loopAt_step Go.Proofs.K27.ctx 61 27 _).trans (by kernel_rfl)
theorem slices_Contains_int_int.f_eq (p0 : (List Int)) (p1 : Int) : slices_Contains_int_int.f p0 p1 =
  bindD (slices_Index_int_int.f p0 p1) fun t136 =>
  some ((decide (t136.1 ≥ (0 : Int))), ()) := (Einf_call Go.Proofs.K27.ctx 33 _).trans (by kernel_rfl)
theorem ancepsref24_Ends.l15_eq (p0 : Int) (p1 : Int) (p2 : Int) (p3 : Int) (p4 : Int) (p5 : Int) (p6 : (List (List Int))) (p7 : (List Bool)) (p8 : (List (List Bool))) : ancepsref24_Ends.l15 p0 p1 p2 p3 p4 p5 p6 p7 p8 =
  ifB (decide (p3 < (4 : Int)))
   (ifB (decide (p1 > (0 : Int)))
    (bindD ((ixAt p6 p2)) fun t137 =>
    bindD ((ixAt t137 p3)) fun t138 =>
    ifB (decide (t138 ≥ (0 : Int)))
     (bindD ((ixAt p8 (Go.IntKind.wrap Go.IntKind.i64 (p1 - (1 : Int))))) fun t139 =>
     bindD ((ixAt p8 (Go.IntKind.wrap Go.IntKind.i64 (p1 - (1 : Int))))) fun t140 =>
     bindD ((ixAt p8 (Go.IntKind.wrap Go.IntKind.i64 (p1 - (1 : Int))))) fun t141 =>
     bindD ((ixAt t141 t138)) fun t142 =>
     bindD ((ixAt p8 (Go.IntKind.wrap Go.IntKind.i64 (p1 - (1 : Int))))) fun t143 =>
     bindD ((ixAt t143 t138)) fun t144 =>
     ifB t144
      (bindD ((ixAt p8 p1)) fun t145 =>
      bindD ((ixAt p8 p1)) fun t146 =>
      bindD ((ixAt p8 p1)) fun t147 =>
      bindD ((ixAt t147 p2)) fun t148 =>
      bindD ((ixAt p8 p1)) fun t149 =>
      bindD ((ixAt t149 p2)) fun t150 =>
      ancepsref24_Ends.l15 p0 p1 p2 (Go.IntKind.wrap Go.IntKind.i64 (p3 + (1 : Int))) p4 p5 p6 p7 (setRow p8 p1 (setRow t149 p2 true)))
     (ancepsref24_Ends.l15 p0 p1 p2 (Go.IntKind.wrap Go.IntKind.i64 (p3 + (1 : Int))) p4 p5 p6 p7 p8))
    (ancepsref24_Ends.l15 p0 p1 p2 (Go.IntKind.wrap Go.IntKind.i64 (p3 + (1 : Int))) p4 p5 p6 p7 p8))
   (ancepsref24_Ends.l11 p0 p1 (Go.IntKind.wrap Go.IntKind.i64 (p2 + (1 : Int))) p4 p5 p6 p7 p8))
  (ancepsref24_Ends.l11 p0 p1 (Go.IntKind.wrap Go.IntKind.i64 (p2 + (1 : Int))) p4 p5 p6 p7 p8) := (loopAt_step Go.Proofs.K27.ctx 64 15 _).trans (by kernel_rfl)
theorem ancepsref24_Ends.l30_eq (p0 : Int) (p1 : Int) (p2 : Bool) (p3 : Int) (p4 : Int) (p5 : Int) (p6 : (List (List Int))) (p7 : (List Bool)) (p8 : (List (List Bool))) (p9 : (List Int)) (p10 : (List Bool)) (p11 : (List Bool)) : ancepsref24_Ends.l30 p0 p1 p2 p3 p4 p5 p6 p7 p8 p9 p10 p11 =
  ifB (decide (p3 < (((List.length p6) : Nat) : Int)))
   (ancepsref24_Ends.l33 p0 p1 p2 p3 (0 : Int) p4 p5 p6 p7 p8 p9 p10 p11)
  (ifB p2
    (bindD ((Go.Proofs.R.grow ((List.length p9) + (List.length (p1 :: ([] : (List Int))))))) fun t151 =>
    ancepsref24_Ends.l26 p0 (Go.IntKind.wrap Go.IntKind.i64 (p1 + (1 : Int))) p4 p5 p6 p7 p8 (p9 ++ (p1 :: ([] : (List Int)))) p11)
   (ancepsref24_Ends.l26 p0 (Go.IntKind.wrap Go.IntKind.i64 (p1 + (1 : Int))) p4 p5 p6 p7 p8 p9 p11)) := (loopAt_step Go.Proofs.K27.ctx 64 30 _).trans (by kernel_rfl)
theorem caesura_without.f_eq (p0 : Int) (p1 : Int) (p2 : (List (List Int))) (p3 : (List Bool)) (p4 : Int) (p5 : Int) : caesura_without.f p0 p1 p2 p3 p4 p5 =
  caesura_without.l3 p5 p4 (0 : Int) p0 p1 p2 p3 (Go.Proofs.R.mput (Go.Proofs.R.Ty.int Go.IntKind.i64) p1 true ([] : (List (Int × Bool)))) := (Einf_call Go.Proofs.K27.ctx 67 _).trans (by kernel_rfl)
theorem slices_ContainsFunc_int_int.f3_eq (p0 : (List Int)) (p1 : Int) : slices_ContainsFunc_int_int.f3 p0 p1 =
  bindD (slices_IndexFunc_int_int.f3 p0 p1) fun t154 =>
  some ((decide (t154.1 ≥ (0 : Int))), ()) := (Einf_call Go.Proofs.K27.ctx 31 _).trans (by kernel_rfl)
theorem slices_IndexFunc_int_int.f2_eq (p0 : (List Int)) (p1 : (List (List Bool))) (p2 : Int) : slices_IndexFunc_int_int.f2 p0 p1 p2 =
  slices_IndexFunc_int_int.l2_2 p0 p1 p2 (((List.length p0) : Nat) : Int) (0 : Int) := (Einf_call Go.Proofs.K27.ctx 69 _).trans (by kernel_rfl)
theorem compile_Ends.l31_eq (p0 : Int) (p1 : Int) (p2 : Bool) (p3 : Int) (p4 : Int) (p5 : (List Int)) (p6 : Int) (p7 : Int) (p8 : Int) (p9 : Int) (p10 : (List (List Int))) (p11 : (List Bool)) (p12 : (List Int)) (p13 : (List Bool)) (p14 : (List Bool)) (p15 : (List (List Bool))) : compile_Ends.l31 p0 p1 p2 p3 p4 p5 p6 p7 p8 p9 p10 p11 p12 p13 p14 p15 =
  ifB (decide (p7 < p6))
   (bindD ((ixAt p5 p7)) fun t155 =>
   ifB (decide (t155 ≥ (0 : Int)))
    (bindD ((ixAt p15 (Go.IntKind.wrap Go.IntKind.i64 (p0 - p1)))) fun t156 =>
    bindD ((ixAt p15 (Go.IntKind.wrap Go.IntKind.i64 (p0 - p1)))) fun t157 =>
    bindD ((ixAt t157 t155)) fun t158 =>
    ifB t158
     (bindD ((ixAt p13 t155)) fun t159 =>
     bindD ((ixAt p13 t155)) fun t160 =>
     ifB p2
      (compile_Ends.l31 p0 p1 true p3 p4 p5 p6 (Go.IntKind.wrap Go.IntKind.i64 (p7 + (1 : Int))) p8 p9 p10 p11 p12 (setRow p13 t155 true) p14 p15)
     (compile_Ends.l31 p0 p1 (decide (p7 ≥ (2 : Int))) p3 p4 p5 p6 (Go.IntKind.wrap Go.IntKind.i64 (p7 + (1 : Int))) p8 p9 p10 p11 p12 (setRow p13 t155 true) p14 p15))
    (compile_Ends.l31 p0 p1 p2 p3 p4 p5 p6 (Go.IntKind.wrap Go.IntKind.i64 (p7 + (1 : Int))) p8 p9 p10 p11 p12 p13 p14 p15))
   (compile_Ends.l31 p0 p1 p2 p3 p4 p5 p6 (Go.IntKind.wrap Go.IntKind.i64 (p7 + (1 : Int))) p8 p9 p10 p11 p12 p13 p14 p15))
  (compile_Ends.l27 p0 p1 p2 p3 (Go.IntKind.wrap Go.IntKind.i64 (p4 + (1 : Int))) p8 p9 p10 p11 p12 p13 p14 p15) := (loopAt_step Go.Proofs.K27.ctx 61 31 _).trans (by kernel_rfl)
theorem slices_Index_int_int.f_eq (p0 : (List Int)) (p1 : Int) : slices_Index_int_int.f p0 p1 =
  slices_Index_int_int.l2 p0 p1 (((List.length p0) : Nat) : Int) (0 : Int) := (Einf_call Go.Proofs.K27.ctx 70 _).trans (by kernel_rfl)
theorem ancepsref24_Ends.l33_eq (p0 : Int) (p1 : Int) (p2 : Bool) (p3 : Int) (p4 : Int) (p5 : Int) (p6 : Int) (p7 : (List (List Int))) (p8 : (List Bool)) (p9 : (List (List Bool))) (p10 : (List Int)) (p11 : (List Bool)) (p12 : (List Bool)) : ancepsref24_Ends.l33 p0 p1 p2 p3 p4 p5 p6 p7 p8 p9 p10 p11 p12 =
  ifB (decide (p4 < (4 : Int)))
   (bindD ((ixAt p11 p3)) fun t161 =>
   bindD ((ixAt p11 p3)) fun t162 =>
   ifB t162
    (bindD ((ixAt p7 p3)) fun t163 =>
    bindD ((ixAt t163 p4)) fun t164 =>
    ifB (decide (t164 ≥ (0 : Int)))
     (bindD ((ixAt p9 (Go.IntKind.wrap Go.IntKind.i64 (p0 - p1)))) fun t165 =>
     bindD ((ixAt p9 (Go.IntKind.wrap Go.IntKind.i64 (p0 - p1)))) fun t166 =>
     bindD ((ixAt p9 (Go.IntKind.wrap Go.IntKind.i64 (p0 - p1)))) fun t167 =>
     bindD ((ixAt t167 t164)) fun t168 =>
     bindD ((ixAt p9 (Go.IntKind.wrap Go.IntKind.i64 (p0 - p1)))) fun t169 =>
     bindD ((ixAt t169 t164)) fun t170 =>
     ifB t170
      (bindD ((ixAt p12 t164)) fun t171 =>
      bindD ((ixAt p12 t164)) fun t172 =>
      ifB p2
       (ancepsref24_Ends.l33 p0 p1 true p3 (Go.IntKind.wrap Go.IntKind.i64 (p4 + (1 : Int))) p5 p6 p7 p8 p9 p10 p11 (setRow p12 t164 true))
      (ancepsref24_Ends.l33 p0 p1 (decide (p4 ≥ (2 : Int))) p3 (Go.IntKind.wrap Go.IntKind.i64 (p4 + (1 : Int))) p5 p6 p7 p8 p9 p10 p11 (setRow p12 t164 true)))
     (ancepsref24_Ends.l33 p0 p1 p2 p3 (Go.IntKind.wrap Go.IntKind.i64 (p4 + (1 : Int))) p5 p6 p7 p8 p9 p10 p11 p12))
    (ancepsref24_Ends.l33 p0 p1 p2 p3 (Go.IntKind.wrap Go.IntKind.i64 (p4 + (1 : Int))) p5 p6 p7 p8 p9 p10 p11 p12))
   (ancepsref24_Ends.l30 p0 p1 p2 (Go.IntKind.wrap Go.IntKind.i64 (p3 + (1 : Int))) p5 p6 p7 p8 p9 p10 p11 p12))
  (ancepsref24_Ends.l30 p0 p1 p2 (Go.IntKind.wrap Go.IntKind.i64 (p3 + (1 : Int))) p5 p6 p7 p8 p9 p10 p11 p12) := (loopAt_step Go.Proofs.K27.ctx 64 33 _).trans (by kernel_rfl)
theorem caesura_without.l3_eq (p0 : Int) (p1 : Int) (p2 : Int) (p3 : Int) (p4 : Int) (p5 : (List (List Int))) (p6 : (List Bool)) (p7 : (List (Int × Bool))) : caesura_without.l3 p0 p1 p2 p3 p4 p5 p6 p7 =
  ifB (decide (p2 < p1))
   (caesura_without.l7 p0 p2 p1 p2 p3 p4 p5 p6 ([] : (List (Int × Bool))) (List.length p7) ([] : (List Nat)) p7)
  (caesura_without.l18 p3 p4 p5 p6 (List.length p7) ([] : (List Nat)) p7) := (loopAt_step Go.Proofs.K27.ctx 67 3 _).trans (by kernel_rfl)
theorem slices_IndexFunc_int_int.f3_eq (p0 : (List Int)) (p1 : Int) : slices_IndexFunc_int_int.f3 p0 p1 =
  slices_IndexFunc_int_int.l2_3 p0 p1 (((List.length p0) : Nat) : Int) (0 : Int) := (Einf_call Go.Proofs.K27.ctx 69 _).trans (by kernel_rfl)
theorem slices_IndexFunc_int_int.l2_2_eq (p0 : (List Int)) (p1 : (List (List Bool))) (p2 : Int) (p3 : Int) (p4 : Int) : slices_IndexFunc_int_int.l2_2 p0 p1 p2 p3 p4 =
  ifB (decide (p4 < p3))
   (bindD ((ixAt p0 p4)) fun t173 =>
   bindD (compile_Ends_1.f t173 p1 p2) fun t174 =>
   ifB t174.1
    (some (p4, ()))
   (slices_IndexFunc_int_int.l2_2 p0 p1 p2 p3 (Go.IntKind.wrap Go.IntKind.i64 (p4 + (1 : Int)))))
  (some ((-(1 : Int)), ())) := (loopAt_step Go.Proofs.K27.ctx 69 2 _).trans (by kernel_rfl)
theorem slices_Index_int_int.l2_eq (p0 : (List Int)) (p1 : Int) (p2 : Int) (p3 : Int) : slices_Index_int_int.l2 p0 p1 p2 p3 =
  ifB (decide (p3 < p2))
   (bindD ((ixAt p0 p3)) fun t175 =>
   ifB (p1 == t175)
    (some (p3, ()))
   (slices_Index_int_int.l2 p0 p1 p2 (Go.IntKind.wrap Go.IntKind.i64 (p3 + (1 : Int)))))
  (some ((-(1 : Int)), ())) := (loopAt_step Go.Proofs.K27.ctx 70 2 _).trans (by kernel_rfl)
theorem caesura_without.l7_eq (p0 : Int) (p1 : Int) (p2 : Int) (p3 : Int) (p4 : Int) (p5 : Int) (p6 : (List (List Int))) (p7 : (List Bool)) (p8 : (List (Int × Bool))) (p9 : Nat) (p10 : (List Nat)) (p11 : (List (Int × Bool))) : caesura_without.l7 p0 p1 p2 p3 p4 p5 p6 p7 p8 p9 p10 p11 =
  eachB p11 p9 p10
   (caesura_without.l3 p0 p2 (Go.IntKind.wrap Go.IntKind.i64 (p3 + (1 : Int))) p4 p5 p6 p7 p8) fun t176 t177 =>
   bindD ((Go.Proofs.R.entryAt p11 p9 (Go.Proofs.R.seenAdd p10 t176))) fun t178 =>
   bindD ((ixAt p6 t178.1)) fun t179 =>
   caesura_without.l10 p0 p1 p2 p3 t179 (((List.length t179) : Nat) : Int) (0 : Int) p4 p5 p6 p7 p8 p9 (Go.Proofs.R.seenAdd p10 t176) p11 := (loopAt_step Go.Proofs.K27.ctx 67 7 _).trans (by kernel_rfl)
theorem caesura_without.l18_eq (p0 : Int) (p1 : Int) (p2 : (List (List Int))) (p3 : (List Bool)) (p4 : Nat) (p5 : (List Nat)) (p6 : (List (Int × Bool))) : caesura_without.l18 p0 p1 p2 p3 p4 p5 p6 =
  eachB p6 p4 p5
   (some (false, ())) fun t180 t181 =>
   bindD ((Go.Proofs.R.entryAt p6 p4 (Go.Proofs.R.seenAdd p5 t180))) fun t182 =>
   bindD ((ixAt p3 t182.1)) fun t183 =>
   ifB t183
    (some (true, ()))
   (caesura_without.l18 p0 p1 p2 p3 p4 (Go.Proofs.R.seenAdd p5 t180) p6) := (loopAt_step Go.Proofs.K27.ctx 67 18 _).trans (by kernel_rfl)
theorem slices_IndexFunc_int_int.l2_3_eq (p0 : (List Int)) (p1 : Int) (p2 : Int) (p3 : Int) : slices_IndexFunc_int_int.l2_3 p0 p1 p2 p3 =
  ifB (decide (p3 < p2))
   (bindD ((ixAt p0 p3)) fun t184 =>
   bindD (automaton_Valid_1.f t184 p1) fun t185 =>
   ifB t185.1
    (some (p3, ()))
   (slices_IndexFunc_int_int.l2_3 p0 p1 p2 (Go.IntKind.wrap Go.IntKind.i64 (p3 + (1 : Int)))))
  (some ((-(1 : Int)), ())) := (loopAt_step Go.Proofs.K27.ctx 69 2 _).trans (by kernel_rfl)
theorem compile_Ends_1.f_eq (p0 : Int) (p1 : (List (List Bool))) (p2 : Int) : compile_Ends_1.f p0 p1 p2 =
  ifB (decide (p0 ≥ (0 : Int)))
   (bindD ((ixAt p1 p2)) fun t186 =>
   bindD ((ixAt t186 p0)) fun t187 =>
   some (t187, ()))
  (some (false, ())) := (Einf_call Go.Proofs.K27.ctx 94 _).trans (by kernel_rfl)
theorem caesura_without.l10_eq (p0 : Int) (p1 : Int) (p2 : Int) (p3 : Int) (p4 : (List Int)) (p5 : Int) (p6 : Int) (p7 : Int) (p8 : Int) (p9 : (List (List Int))) (p10 : (List Bool)) (p11 : (List (Int × Bool))) (p12 : Nat) (p13 : (List Nat)) (p14 : (List (Int × Bool))) : caesura_without.l10 p0 p1 p2 p3 p4 p5 p6 p7 p8 p9 p10 p11 p12 p13 p14 =
  ifB (decide (p6 < p5))
   (bindD ((ixAt p4 p6)) fun t188 =>
   ifB (decide (t188 ≥ (0 : Int)))
    (ifB (p1 != (Go.IntKind.wrap Go.IntKind.i64 (p0 - (1 : Int))))
     (caesura_without.l10 p0 p1 p2 p3 p4 p5 (Go.IntKind.wrap Go.IntKind.i64 (p6 + (1 : Int))) p7 p8 p9 p10 (Go.Proofs.R.mput (Go.Proofs.R.Ty.int Go.IntKind.i64) t188 true p11) p12 p13 p14)
    (ifB (decide (p6 < (2 : Int)))
      (caesura_without.l10 p0 p1 p2 p3 p4 p5 (Go.IntKind.wrap Go.IntKind.i64 (p6 + (1 : Int))) p7 p8 p9 p10 (Go.Proofs.R.mput (Go.Proofs.R.Ty.int Go.IntKind.i64) t188 true p11) p12 p13 p14)
     (caesura_without.l10 p0 p1 p2 p3 p4 p5 (Go.IntKind.wrap Go.IntKind.i64 (p6 + (1 : Int))) p7 p8 p9 p10 p11 p12 p13 p14)))
   (caesura_without.l10 p0 p1 p2 p3 p4 p5 (Go.IntKind.wrap Go.IntKind.i64 (p6 + (1 : Int))) p7 p8 p9 p10 p11 p12 p13 p14))
  (caesura_without.l7 p0 p1 p2 p3 p7 p8 p9 p10 p11 p12 p13 p14) := (loopAt_step Go.Proofs.K27.ctx 67 10 _).trans (by kernel_rfl)
theorem automaton_Valid_1.f_eq (p0 : Int) (p1 : Int) : automaton_Valid_1.f p0 p1 =
  ifB (decide (p0 < (-(1 : Int))))
   (some (true, ()))
  (some ((decide (p0 ≥ p1)), ())) := (Einf_call Go.Proofs.K27.ctx 146 _).trans (by kernel_rfl)
end Go.Proofs.K27
