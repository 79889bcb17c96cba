/- C14B: what the row's functions are, as the evaluator tells them. No condition. -/
import Derived.Test.YtmnnfkhajhmjgaaC14
set_option linter.unusedVariables false
set_option linter.unusedSimpArgs false
set_option maxRecDepth 100000
set_option linter.unusedVariables false
namespace Go.Proofs.C14
open Go Go.Proofs.R
noncomputable def ancepslaw14_ClusterClass.f (p0 : (List (Int × (Int × ByteArray)))) (p1 : (List Int)) : Option (Bool × Unit) := (Go.Proofs.R.Einf Go.Proofs.C14.ctx).call 3 [(.agg [(.v (.sl (.pair (.int .i64) (.pair (.int .i64) .str))) p0), (.v (.sl (.int .i64)) p1)])]
noncomputable def ancepslaw14_ClusterBreath.f (p0 : (List Int)) (p1 : Int) : Option (Bool × Unit) := (Go.Proofs.R.Einf Go.Proofs.C14.ctx).call 4 [(.agg [(.v (.sl (.int .u8)) p0), (.v (.int .u32) p1)])]
noncomputable def ancepslaw14_ClusterCoda.f (p0 : (List Int)) (p1 : Int) : Option (Bool × Unit) := (Go.Proofs.R.Einf Go.Proofs.C14.ctx).call 5 [(.agg [(.v (.sl (.int .u8)) p0), (.v (.int .u32) p1)])]
noncomputable def ancepslaw14_ClusterCore.f (p0 : (List (Int × (Int × ByteArray)))) (p1 : (List Int)) : Option (Bool × Unit) := (Go.Proofs.R.Einf Go.Proofs.C14.ctx).call 6 [(.agg [(.v (.sl (.pair (.int .i64) (.pair (.int .i64) .str))) p0), (.v (.sl (.int .i64)) p1)])]
noncomputable def ancepslaw14_ClusterExplain.f (p0 : Int) : Option (Bool × Unit) := (Go.Proofs.R.Einf Go.Proofs.C14.ctx).call 7 [(.one (.v (.int .i64) p0))]
noncomputable def ancepslaw14_ClusterJoin.f (p0 : (List (Int × (Int × ByteArray)))) (p1 : (List Int)) (p2 : (List (Int × (Int × ByteArray)))) (p3 : (List Int)) : Option (Bool × Unit) := (Go.Proofs.R.Einf Go.Proofs.C14.ctx).call 8 [(.agg [(.v (.sl (.pair (.int .i64) (.pair (.int .i64) .str))) p0), (.v (.sl (.int .i64)) p1)]), (.agg [(.v (.sl (.pair (.int .i64) (.pair (.int .i64) .str))) p2), (.v (.sl (.int .i64)) p3)])]
noncomputable def ancepslaw14_ClusterSplit.f (p0 : (List (Int × (Int × ByteArray)))) (p1 : (List Int)) (p2 : Int) : Option (Bool × Unit) := (Go.Proofs.R.Einf Go.Proofs.C14.ctx).call 9 [(.agg [(.v (.sl (.pair (.int .i64) (.pair (.int .i64) .str))) p0), (.v (.sl (.int .i64)) p1)]), (.one (.v (.int .i64) p2))]
noncomputable def ancepslaw14_ClusterOrder.f (p0 : (List (Int × (Int × ByteArray)))) (p1 : (List Int)) (p2 : (List (Int × (Int × ByteArray)))) (p3 : (List Int)) (p4 : (List (Int × (Int × ByteArray)))) (p5 : (List Int)) : Option (Bool × Unit) := (Go.Proofs.R.Einf Go.Proofs.C14.ctx).call 10 [(.agg [(.v (.sl (.pair (.int .i64) (.pair (.int .i64) .str))) p0), (.v (.sl (.int .i64)) p1)]), (.agg [(.v (.sl (.pair (.int .i64) (.pair (.int .i64) .str))) p2), (.v (.sl (.int .i64)) p3)]), (.agg [(.v (.sl (.pair (.int .i64) (.pair (.int .i64) .str))) p4), (.v (.sl (.int .i64)) p5)])]
noncomputable def ancepslaw14_awake.f : Option (Bool × Unit) := (Go.Proofs.R.Einf Go.Proofs.C14.ctx).call 11 []
noncomputable def ancepsref14_Few.f (p0 : (List (Int × (Int × ByteArray)))) (p1 : (List Int)) : Option (Bool × Unit) := (Go.Proofs.R.Einf Go.Proofs.C14.ctx).call 12 [(.agg [(.v (.sl (.pair (.int .i64) (.pair (.int .i64) .str))) p0), (.v (.sl (.int .i64)) p1)])]
noncomputable def ancepslaw14_copied.f (p0 : (List (Int × (Int × ByteArray)))) (p1 : (List Int)) : Option ((List (Int × (Int × ByteArray))) × ((List Int) × Unit)) := (Go.Proofs.R.Einf Go.Proofs.C14.ctx).call 14 [(.agg [(.v (.sl (.pair (.int .i64) (.pair (.int .i64) .str))) p0), (.v (.sl (.int .i64)) p1)])]
noncomputable def cluster_Class.f (p0 : (List (Int × (Int × ByteArray)))) (p1 : (List Int)) : Option (Int × (Int × Unit)) := (Go.Proofs.R.Einf Go.Proofs.C14.ctx).call 13 [(.agg [(.v (.sl (.pair (.int .i64) (.pair (.int .i64) .str))) p0), (.v (.sl (.int .i64)) p1)])]
noncomputable def ancepsref14_Class.f (p0 : (List (Int × (Int × ByteArray)))) (p1 : (List Int)) : Option (Int × (Int × Unit)) := (Go.Proofs.R.Einf Go.Proofs.C14.ctx).call 15 [(.agg [(.v (.sl (.pair (.int .i64) (.pair (.int .i64) .str))) p0), (.v (.sl (.int .i64)) p1)])]
noncomputable def cluster_Coda.f (p0 : (List (Int × (Int × ByteArray)))) (p1 : (List Int)) : Option (Int × (Int × Unit)) := (Go.Proofs.R.Einf Go.Proofs.C14.ctx).call 16 [(.agg [(.v (.sl (.pair (.int .i64) (.pair (.int .i64) .str))) p0), (.v (.sl (.int .i64)) p1)])]
noncomputable def ancepsref14_Coda.f (p0 : (List (Int × (Int × ByteArray)))) (p1 : (List Int)) : Option (Int × (Int × Unit)) := (Go.Proofs.R.Einf Go.Proofs.C14.ctx).call 17 [(.agg [(.v (.sl (.pair (.int .i64) (.pair (.int .i64) .str))) p0), (.v (.sl (.int .i64)) p1)])]
noncomputable def cluster_Valid.f (p0 : (List (Int × (Int × ByteArray)))) (p1 : (List Int)) : Option (Int × Unit) := (Go.Proofs.R.Einf Go.Proofs.C14.ctx).call 18 [(.agg [(.v (.sl (.pair (.int .i64) (.pair (.int .i64) .str))) p0), (.v (.sl (.int .i64)) p1)])]
noncomputable def ancepsref14_Valid.f (p0 : (List (Int × (Int × ByteArray)))) (p1 : (List Int)) : Option (Int × Unit) := (Go.Proofs.R.Einf Go.Proofs.C14.ctx).call 19 [(.agg [(.v (.sl (.pair (.int .i64) (.pair (.int .i64) .str))) p0), (.v (.sl (.int .i64)) p1)])]
noncomputable def ancepsref14_Made.f (p0 : (List Int)) (p1 : Int) : Option ((List (Int × (Int × ByteArray))) × ((List Int) × Unit)) := (Go.Proofs.R.Einf Go.Proofs.C14.ctx).call 20 [(.agg [(.v (.sl (.int .u8)) p0), (.v (.int .u32) p1)])]
noncomputable def ancepslaw14_ClusterBreath.l6 (p0 : (List Int)) (p1 : Int) (p2 : Int) (p3 : (List (Int × (Int × ByteArray)))) (p4 : (List Int)) (p5 : (List (Int × (Int × ByteArray)))) (p6 : (List Int)) : Option (Bool × Unit) := Go.Proofs.R.loopAt Go.Proofs.C14.ctx (Go.Proofs.R.Einf Go.Proofs.C14.ctx) 4 6 (.mk [(3, (.one (.ref 7 0))), (4, (.one (.ref 15 0))), (26, (.one (.v (.sl (.int .i64)) p0))), (27, (.one (.v (.int .i64) p1))), (28, (.one (.v (.int .i64) p2)))] [(7, (.box 25 [(.v (.sl (.pair (.int .i64) (.pair (.int .i64) .str))) p3), (.v (.sl (.int .i64)) p4)])), (15, (.box 25 [(.row 23), (.row 31)])), (23, (.row 39 (.pair (.int .i64) (.pair (.int .i64) .str)) p5 false)), (31, (.row 3 (.int .i64) p6 false))])
noncomputable def sound_Beats.f (p0 : (List (Int × (Int × ByteArray)))) : Option (Int × Unit) := (Go.Proofs.R.Einf Go.Proofs.C14.ctx).call 21 [(.one (.v (.sl (.pair (.int .i64) (.pair (.int .i64) .str))) p0))]
noncomputable def cluster_Core.f (p0 : (List (Int × (Int × ByteArray)))) (p1 : (List Int)) : Option ((List (Int × (Int × ByteArray))) × (Int × Unit)) := (Go.Proofs.R.Einf Go.Proofs.C14.ctx).call 22 [(.agg [(.v (.sl (.pair (.int .i64) (.pair (.int .i64) .str))) p0), (.v (.sl (.int .i64)) p1)])]
noncomputable def ancepsref14_Core.f (p0 : (List (Int × (Int × ByteArray)))) (p1 : (List Int)) : Option ((List (Int × (Int × ByteArray))) × (Int × Unit)) := (Go.Proofs.R.Einf Go.Proofs.C14.ctx).call 23 [(.agg [(.v (.sl (.pair (.int .i64) (.pair (.int .i64) .str))) p0), (.v (.sl (.int .i64)) p1)])]
noncomputable def ancepsref11_Same.f (p0 : (List (Int × (Int × ByteArray)))) (p1 : (List (Int × (Int × ByteArray)))) : Option (Bool × Unit) := (Go.Proofs.R.Einf Go.Proofs.C14.ctx).call 24 [(.one (.v (.sl (.pair (.int .i64) (.pair (.int .i64) .str))) p0)), (.one (.v (.sl (.pair (.int .i64) (.pair (.int .i64) .str))) p1))]
noncomputable def cluster_Explain.f (p0 : Int) : Option (ByteArray × Unit) := (Go.Proofs.R.Einf Go.Proofs.C14.ctx).call 25 [(.one (.v (.int .i64) p0))]
noncomputable def ancepsref14_Explain.f (p0 : Int) : Option (ByteArray × Unit) := (Go.Proofs.R.Einf Go.Proofs.C14.ctx).call 26 [(.one (.v (.int .i64) p0))]
noncomputable def cluster_Join.f (p0 : (List (Int × (Int × ByteArray)))) (p1 : (List Int)) (p2 : (List (Int × (Int × ByteArray)))) (p3 : (List Int)) : Option ((List (Int × (Int × ByteArray))) × ((List Int) × (Int × Unit))) := (Go.Proofs.R.Einf Go.Proofs.C14.ctx).call 27 [(.agg [(.v (.sl (.pair (.int .i64) (.pair (.int .i64) .str))) p0), (.v (.sl (.int .i64)) p1)]), (.agg [(.v (.sl (.pair (.int .i64) (.pair (.int .i64) .str))) p2), (.v (.sl (.int .i64)) p3)])]
noncomputable def ancepsref14_Join.f (p0 : (List (Int × (Int × ByteArray)))) (p1 : (List Int)) (p2 : (List (Int × (Int × ByteArray)))) (p3 : (List Int)) : Option ((List (Int × (Int × ByteArray))) × ((List Int) × (Int × Unit))) := (Go.Proofs.R.Einf Go.Proofs.C14.ctx).call 28 [(.agg [(.v (.sl (.pair (.int .i64) (.pair (.int .i64) .str))) p0), (.v (.sl (.int .i64)) p1)]), (.agg [(.v (.sl (.pair (.int .i64) (.pair (.int .i64) .str))) p2), (.v (.sl (.int .i64)) p3)])]
noncomputable def ancepsref14_Same.f (p0 : (List (Int × (Int × ByteArray)))) (p1 : (List Int)) (p2 : (List (Int × (Int × ByteArray)))) (p3 : (List Int)) : Option (Bool × Unit) := (Go.Proofs.R.Einf Go.Proofs.C14.ctx).call 29 [(.agg [(.v (.sl (.pair (.int .i64) (.pair (.int .i64) .str))) p0), (.v (.sl (.int .i64)) p1)]), (.agg [(.v (.sl (.pair (.int .i64) (.pair (.int .i64) .str))) p2), (.v (.sl (.int .i64)) p3)])]
noncomputable def cluster_Split.f (p0 : (List (Int × (Int × ByteArray)))) (p1 : (List Int)) (p2 : Int) : Option ((List (Int × (Int × ByteArray))) × ((List Int) × ((List (Int × (Int × ByteArray))) × ((List Int) × (Int × Unit))))) := (Go.Proofs.R.Einf Go.Proofs.C14.ctx).call 30 [(.agg [(.v (.sl (.pair (.int .i64) (.pair (.int .i64) .str))) p0), (.v (.sl (.int .i64)) p1)]), (.one (.v (.int .i64) p2))]
noncomputable def ancepsref14_Split.f (p0 : (List (Int × (Int × ByteArray)))) (p1 : (List Int)) (p2 : Int) : Option ((List (Int × (Int × ByteArray))) × ((List Int) × ((List (Int × (Int × ByteArray))) × ((List Int) × (Int × Unit))))) := (Go.Proofs.R.Einf Go.Proofs.C14.ctx).call 31 [(.agg [(.v (.sl (.pair (.int .i64) (.pair (.int .i64) .str))) p0), (.v (.sl (.int .i64)) p1)]), (.one (.v (.int .i64) p2))]
noncomputable def cluster_Compare.f (p0 : (List (Int × (Int × ByteArray)))) (p1 : (List Int)) (p2 : (List (Int × (Int × ByteArray)))) (p3 : (List Int)) : Option (Int × Unit) := (Go.Proofs.R.Einf Go.Proofs.C14.ctx).call 32 [(.agg [(.v (.sl (.pair (.int .i64) (.pair (.int .i64) .str))) p0), (.v (.sl (.int .i64)) p1)]), (.agg [(.v (.sl (.pair (.int .i64) (.pair (.int .i64) .str))) p2), (.v (.sl (.int .i64)) p3)])]
noncomputable def ancepsref14_Compare.f (p0 : (List (Int × (Int × ByteArray)))) (p1 : (List Int)) (p2 : (List (Int × (Int × ByteArray)))) (p3 : (List Int)) : Option (Int × Unit) := (Go.Proofs.R.Einf Go.Proofs.C14.ctx).call 33 [(.agg [(.v (.sl (.pair (.int .i64) (.pair (.int .i64) .str))) p0), (.v (.sl (.int .i64)) p1)]), (.agg [(.v (.sl (.pair (.int .i64) (.pair (.int .i64) .str))) p2), (.v (.sl (.int .i64)) p3)])]
noncomputable def ancepsref11_Few.f (p0 : (List (Int × (Int × ByteArray)))) (p1 : Int) : Option (Bool × Unit) := (Go.Proofs.R.Einf Go.Proofs.C14.ctx).call 34 [(.one (.v (.sl (.pair (.int .i64) (.pair (.int .i64) .str))) p0)), (.one (.v (.int .i64) p1))]
noncomputable def api_Sound.f (p0 : (List (Int × (Int × ByteArray)))) : Option ((List (Int × (Int × ByteArray))) × Unit) := (Go.Proofs.R.Einf Go.Proofs.C14.ctx).call 36 [(.one (.v (.sl (.pair (.int .i64) (.pair (.int .i64) .str))) p0))]
noncomputable def slices_Clone_int_int.f (p0 : (List Int)) : Option ((List Int) × Unit) := (Go.Proofs.R.Einf Go.Proofs.C14.ctx).call 37 [(.one (.v (.sl (.int .i64)) p0))]
noncomputable def cluster_class.f (p0 : (List (Int × (Int × ByteArray)))) (p1 : (List Int)) : Option (Int × Unit) := (Go.Proofs.R.Einf Go.Proofs.C14.ctx).call 35 [(.agg [(.v (.sl (.pair (.int .i64) (.pair (.int .i64) .str))) p0), (.v (.sl (.int .i64)) p1)])]
noncomputable def ancepsref14_class.f (p0 : (List (Int × (Int × ByteArray)))) (p1 : (List Int)) : Option (Int × Unit) := (Go.Proofs.R.Einf Go.Proofs.C14.ctx).call 38 [(.agg [(.v (.sl (.pair (.int .i64) (.pair (.int .i64) .str))) p0), (.v (.sl (.int .i64)) p1)])]
noncomputable def cluster_core.f (p0 : (List (Int × (Int × ByteArray)))) (p1 : (List Int)) : Option ((List Int) × Unit) := (Go.Proofs.R.Einf Go.Proofs.C14.ctx).call 39 [(.agg [(.v (.sl (.pair (.int .i64) (.pair (.int .i64) .str))) p0), (.v (.sl (.int .i64)) p1)])]
noncomputable def ancepsref14_core.f (p0 : (List (Int × (Int × ByteArray)))) (p1 : (List Int)) : Option ((List Int) × Unit) := (Go.Proofs.R.Einf Go.Proofs.C14.ctx).call 40 [(.agg [(.v (.sl (.pair (.int .i64) (.pair (.int .i64) .str))) p0), (.v (.sl (.int .i64)) p1)])]
noncomputable def cluster_Valid.l4 (p0 : (List (Int × (Int × ByteArray)))) (p1 : Int) (p2 : Int) (p3 : (List (Int × (Int × ByteArray)))) (p4 : (List Int)) : Option (Int × Unit) := Go.Proofs.R.loopAt Go.Proofs.C14.ctx (Go.Proofs.R.Einf Go.Proofs.C14.ctx) 18 4 (.mk [(1, (.one (.ref 7 0))), (20, (.one (.v (.sl (.pair (.int .i64) (.pair (.int .i64) .str))) p0))), (21, (.one (.v (.int .i64) p1))), (22, (.one (.v (.int .i64) p2)))] [(7, (.box 25 [(.v (.sl (.pair (.int .i64) (.pair (.int .i64) .str))) p3), (.v (.sl (.int .i64)) p4)]))])
noncomputable def ancepsref14_Valid.l4 (p0 : Int) (p1 : (List (Int × (Int × ByteArray)))) (p2 : (List Int)) : Option (Int × Unit) := Go.Proofs.R.loopAt Go.Proofs.C14.ctx (Go.Proofs.R.Einf Go.Proofs.C14.ctx) 19 4 (.mk [(1, (.one (.ref 7 0))), (3, (.one (.v (.int .i64) p0)))] [(7, (.box 25 [(.v (.sl (.pair (.int .i64) (.pair (.int .i64) .str))) p1), (.v (.sl (.int .i64)) p2)]))])
noncomputable def ancepsref14_Made.l4 (p0 : Int) (p1 : (List Int)) (p2 : Int) (p3 : (List (Int × (Int × ByteArray)))) (p4 : (List (Int × (Int × ByteArray)))) (p5 : (List Int)) (p6 : (List (Int × (Int × ByteArray)))) (p7 : (List Int)) : Option ((List (Int × (Int × ByteArray))) × ((List Int) × Unit)) := Go.Proofs.R.loopAt Go.Proofs.C14.ctx (Go.Proofs.R.Einf Go.Proofs.C14.ctx) 20 4 (.mk [(1, (.one (.ref 7 0))), (2, (.one (.ref 15 0))), (3, (.one (.row 23))), (4, (.one (.ref 31 0))), (5, (.one (.v (.int .i64) p0)))] [(7, (.box 36 [(.v (.sl (.int .u8)) p1), (.v (.int .u32) p2)])), (15, (.box 25 [(.row 39), (.row 47)])), (23, (.row 39 (.pair (.int .i64) (.pair (.int .i64) .str)) p3 false)), (31, (.box 25 [(.row 55), (.row 63)])), (39, (.row 39 (.pair (.int .i64) (.pair (.int .i64) .str)) p4 false)), (47, (.row 3 (.int .i64) p5 false)), (55, (.row 39 (.pair (.int .i64) (.pair (.int .i64) .str)) p6 false)), (63, (.row 3 (.int .i64) p7 false))])
noncomputable def sound_Beats.l3 (p0 : Int) (p1 : (List (Int × (Int × ByteArray)))) (p2 : Int) (p3 : Int) : Option (Int × Unit) := Go.Proofs.R.loopAt Go.Proofs.C14.ctx (Go.Proofs.R.Einf Go.Proofs.C14.ctx) 21 3 (.mk [(3, (.one (.v (.int .i64) p0))), (6, (.one (.v (.sl (.pair (.int .i64) (.pair (.int .i64) .str))) p1))), (7, (.one (.v (.int .i64) p2))), (8, (.one (.v (.int .i64) p3)))] [])
noncomputable def cluster_Core.l6 (p0 : Int) (p1 : Int) (p2 : (List (Int × (Int × ByteArray)))) (p3 : (List Int)) (p4 : (List (Int × (Int × ByteArray)))) (p5 : (List Int)) : Option ((List (Int × (Int × ByteArray))) × (Int × Unit)) := Go.Proofs.R.loopAt Go.Proofs.C14.ctx (Go.Proofs.R.Einf Go.Proofs.C14.ctx) 22 6 (.mk [(1, (.one (.ref 7 0))), (5, (.one (.row 15))), (14, (.one (.row 23))), (15, (.one (.v (.int .i64) p0))), (16, (.one (.v (.int .i64) p1)))] [(7, (.box 25 [(.v (.sl (.pair (.int .i64) (.pair (.int .i64) .str))) p2), (.v (.sl (.int .i64)) p3)])), (15, (.row 39 (.pair (.int .i64) (.pair (.int .i64) .str)) p4 false)), (23, (.row 3 (.int .i64) p5 false))])
noncomputable def ancepsref14_Core.l7 (p0 : Int) (p1 : (List (Int × (Int × ByteArray)))) (p2 : (List Int)) (p3 : (List Int)) (p4 : (List (Int × (Int × ByteArray)))) : Option ((List (Int × (Int × ByteArray))) × (Int × Unit)) := Go.Proofs.R.loopAt Go.Proofs.C14.ctx (Go.Proofs.R.Einf Go.Proofs.C14.ctx) 23 7 (.mk [(1, (.one (.ref 7 0))), (5, (.one (.row 15))), (6, (.one (.row 23))), (7, (.one (.v (.int .i64) p0)))] [(7, (.box 25 [(.v (.sl (.pair (.int .i64) (.pair (.int .i64) .str))) p1), (.v (.sl (.int .i64)) p2)])), (15, (.row 3 (.int .i64) p3 false)), (23, (.row 39 (.pair (.int .i64) (.pair (.int .i64) .str)) p4 false))])
noncomputable def ancepsref11_Same.l4 (p0 : (List (Int × (Int × ByteArray)))) (p1 : (List (Int × (Int × ByteArray)))) (p2 : Int) : Option (Bool × Unit) := Go.Proofs.R.loopAt Go.Proofs.C14.ctx (Go.Proofs.R.Einf Go.Proofs.C14.ctx) 24 4 (.mk [(0, (.one (.v (.sl (.pair (.int .i64) (.pair (.int .i64) .str))) p0))), (1, (.one (.v (.sl (.pair (.int .i64) (.pair (.int .i64) .str))) p1))), (5, (.one (.v (.int .i64) p2)))] [])
noncomputable def api_Sound_47.f (p0 : (List (List (Int × (Int × ByteArray))))) : Option ((List (Int × (Int × ByteArray))) × Unit) := (Go.Proofs.R.Einf Go.Proofs.C14.ctx).call 47 [(.one (.v (.sl (.sl (.pair (.int .i64) (.pair (.int .i64) .str)))) p0))]
noncomputable def cluster_Join.l11 (p0 : (List Int)) (p1 : Int) (p2 : Int) (p3 : (List (Int × (Int × ByteArray)))) (p4 : (List Int)) (p5 : (List (Int × (Int × ByteArray)))) (p6 : (List Int)) (p7 : (List (Int × (Int × ByteArray)))) (p8 : (List Int)) : Option ((List (Int × (Int × ByteArray))) × ((List Int) × (Int × Unit))) := Go.Proofs.R.loopAt Go.Proofs.C14.ctx (Go.Proofs.R.Einf Go.Proofs.C14.ctx) 27 11 (.mk [(2, (.one (.ref 7 0))), (4, (.one (.ref 15 0))), (8, (.one (.ref 23 0))), (53, (.one (.v (.sl (.int .i64)) p0))), (54, (.one (.v (.int .i64) p1))), (55, (.one (.v (.int .i64) p2)))] [(7, (.box 25 [(.v (.sl (.pair (.int .i64) (.pair (.int .i64) .str))) p3), (.v (.sl (.int .i64)) p4)])), (15, (.box 25 [(.row 31), (.row 39)])), (23, (.box 25 [(.row 47), (.row 55)])), (31, (.row 39 (.pair (.int .i64) (.pair (.int .i64) .str)) p5 false)), (39, (.row 3 (.int .i64) p6 false)), (47, (.row 39 (.pair (.int .i64) (.pair (.int .i64) .str)) p7 false)), (55, (.row 3 (.int .i64) p8 false))])
noncomputable def ancepsref14_Join.l11 (p0 : Int) (p1 : (List (Int × (Int × ByteArray)))) (p2 : (List Int)) (p3 : (List (Int × (Int × ByteArray)))) (p4 : (List Int)) (p5 : (List (Int × (Int × ByteArray)))) (p6 : (List Int)) (p7 : (List (Int × (Int × ByteArray)))) (p8 : (List Int)) : Option ((List (Int × (Int × ByteArray))) × ((List Int) × (Int × Unit))) := Go.Proofs.R.loopAt Go.Proofs.C14.ctx (Go.Proofs.R.Einf Go.Proofs.C14.ctx) 28 11 (.mk [(2, (.one (.ref 7 0))), (3, (.one (.ref 15 0))), (4, (.one (.ref 23 0))), (8, (.one (.ref 31 0))), (9, (.one (.v (.int .i64) p0)))] [(7, (.box 25 [(.v (.sl (.pair (.int .i64) (.pair (.int .i64) .str))) p1), (.v (.sl (.int .i64)) p2)])), (15, (.box 25 [(.v (.sl (.pair (.int .i64) (.pair (.int .i64) .str))) p3), (.v (.sl (.int .i64)) p4)])), (23, (.box 25 [(.row 39), (.row 47)])), (31, (.box 25 [(.row 55), (.row 63)])), (39, (.row 39 (.pair (.int .i64) (.pair (.int .i64) .str)) p5 false)), (47, (.row 3 (.int .i64) p6 false)), (55, (.row 39 (.pair (.int .i64) (.pair (.int .i64) .str)) p7 false)), (63, (.row 3 (.int .i64) p8 false))])
noncomputable def cluster_Split.l8 (p0 : Int) (p1 : (List Int)) (p2 : Int) (p3 : Int) (p4 : (List (Int × (Int × ByteArray)))) (p5 : (List Int)) (p6 : (List (Int × (Int × ByteArray)))) (p7 : (List Int)) (p8 : (List (Int × (Int × ByteArray)))) (p9 : (List Int)) (p10 : (List (Int × (Int × ByteArray)))) (p11 : (List Int)) : Option ((List (Int × (Int × ByteArray))) × ((List Int) × ((List (Int × (Int × ByteArray))) × ((List Int) × (Int × Unit))))) := Go.Proofs.R.loopAt Go.Proofs.C14.ctx (Go.Proofs.R.Einf Go.Proofs.C14.ctx) 30 8 (.mk [(1, (.one (.v (.int .i64) p0))), (4, (.one (.ref 7 0))), (5, (.one (.ref 15 0))), (8, (.one (.ref 23 0))), (9, (.one (.ref 31 0))), (43, (.one (.v (.sl (.int .i64)) p1))), (44, (.one (.v (.int .i64) p2))), (45, (.one (.v (.int .i64) p3)))] [(7, (.box 25 [(.row 39), (.row 47)])), (15, (.box 25 [(.row 55), (.row 63)])), (23, (.box 25 [(.row 71), (.row 79)])), (31, (.box 25 [(.row 87), (.row 95)])), (39, (.row 39 (.pair (.int .i64) (.pair (.int .i64) .str)) p4 false)), (47, (.row 3 (.int .i64) p5 false)), (55, (.row 39 (.pair (.int .i64) (.pair (.int .i64) .str)) p6 false)), (63, (.row 3 (.int .i64) p7 false)), (71, (.row 39 (.pair (.int .i64) (.pair (.int .i64) .str)) p8 false)), (79, (.row 3 (.int .i64) p9 false)), (87, (.row 39 (.pair (.int .i64) (.pair (.int .i64) .str)) p10 false)), (95, (.row 3 (.int .i64) p11 false))])
noncomputable def ancepsref14_Split.l9 (p0 : Int) (p1 : Int) (p2 : (List (Int × (Int × ByteArray)))) (p3 : (List Int)) (p4 : (List (Int × (Int × ByteArray)))) (p5 : (List Int)) (p6 : (List (Int × (Int × ByteArray)))) (p7 : (List Int)) (p8 : (List (Int × (Int × ByteArray)))) (p9 : (List Int)) (p10 : (List (Int × (Int × ByteArray)))) (p11 : (List Int)) : Option ((List (Int × (Int × ByteArray))) × ((List Int) × ((List (Int × (Int × ByteArray))) × ((List Int) × (Int × Unit))))) := Go.Proofs.R.loopAt Go.Proofs.C14.ctx (Go.Proofs.R.Einf Go.Proofs.C14.ctx) 31 9 (.mk [(1, (.one (.v (.int .i64) p0))), (2, (.one (.ref 7 0))), (4, (.one (.ref 15 0))), (5, (.one (.ref 23 0))), (8, (.one (.ref 31 0))), (9, (.one (.ref 39 0))), (10, (.one (.v (.int .i64) p1)))] [(7, (.box 25 [(.v (.sl (.pair (.int .i64) (.pair (.int .i64) .str))) p2), (.v (.sl (.int .i64)) p3)])), (15, (.box 25 [(.row 47), (.row 55)])), (23, (.box 25 [(.row 63), (.row 71)])), (31, (.box 25 [(.row 79), (.row 87)])), (39, (.box 25 [(.row 95), (.row 103)])), (47, (.row 39 (.pair (.int .i64) (.pair (.int .i64) .str)) p4 false)), (55, (.row 3 (.int .i64) p5 false)), (63, (.row 39 (.pair (.int .i64) (.pair (.int .i64) .str)) p6 false)), (71, (.row 3 (.int .i64) p7 false)), (79, (.row 39 (.pair (.int .i64) (.pair (.int .i64) .str)) p8 false)), (87, (.row 3 (.int .i64) p9 false)), (95, (.row 39 (.pair (.int .i64) (.pair (.int .i64) .str)) p10 false)), (103, (.row 3 (.int .i64) p11 false))])
noncomputable def api_Sound_49.f (p0 : (List (Int × (Int × ByteArray)))) (p1 : (List (Int × (Int × ByteArray)))) : Option (Int × Unit) := (Go.Proofs.R.Einf Go.Proofs.C14.ctx).call 49 [(.one (.v (.sl (.pair (.int .i64) (.pair (.int .i64) .str))) p0)), (.one (.v (.sl (.pair (.int .i64) (.pair (.int .i64) .str))) p1)), (.one (.clo 50 []))]
noncomputable def slices_Compare_int_int.f (p0 : (List Int)) (p1 : (List Int)) : Option (Int × Unit) := (Go.Proofs.R.Einf Go.Proofs.C14.ctx).call 51 [(.one (.v (.sl (.int .i64)) p0)), (.one (.v (.sl (.int .i64)) p1))]
noncomputable def cmp_Or_int.f (p0 : (List Int)) : Option (Int × Unit) := (Go.Proofs.R.Einf Go.Proofs.C14.ctx).call 48 [(.one (.v (.sl (.int .i64)) p0))]
noncomputable def ancepsref14_Compare.l2 (p0 : Int) (p1 : (List (Int × (Int × ByteArray)))) (p2 : (List Int)) (p3 : (List (Int × (Int × ByteArray)))) (p4 : (List Int)) : Option (Int × Unit) := Go.Proofs.R.loopAt Go.Proofs.C14.ctx (Go.Proofs.R.Einf Go.Proofs.C14.ctx) 33 2 (.mk [(2, (.one (.ref 7 0))), (3, (.one (.ref 15 0))), (5, (.one (.v (.int .i64) p0)))] [(7, (.box 25 [(.v (.sl (.pair (.int .i64) (.pair (.int .i64) .str))) p1), (.v (.sl (.int .i64)) p2)])), (15, (.box 25 [(.v (.sl (.pair (.int .i64) (.pair (.int .i64) .str))) p3), (.v (.sl (.int .i64)) p4)]))])
noncomputable def ancepsref11_Few.l4 (p0 : (List (Int × (Int × ByteArray)))) (p1 : Int) : Option (Bool × Unit) := Go.Proofs.R.loopAt Go.Proofs.C14.ctx (Go.Proofs.R.Einf Go.Proofs.C14.ctx) 34 4 (.mk [(0, (.one (.v (.sl (.pair (.int .i64) (.pair (.int .i64) .str))) p0))), (5, (.one (.v (.int .i64) p1)))] [])
noncomputable def ancepsref11_Beats.f (p0 : (List (Int × (Int × ByteArray)))) : Option (Int × Unit) := (Go.Proofs.R.Einf Go.Proofs.C14.ctx).call 53 [(.one (.v (.sl (.pair (.int .i64) (.pair (.int .i64) .str))) p0))]
noncomputable def ancepsref14_class.l8 (p0 : Bool) (p1 : Bool) (p2 : Int) (p3 : (List (Int × (Int × ByteArray)))) (p4 : (List Int)) (p5 : (List Int)) : Option (Int × Unit) := Go.Proofs.R.loopAt Go.Proofs.C14.ctx (Go.Proofs.R.Einf Go.Proofs.C14.ctx) 38 8 (.mk [(1, (.one (.ref 7 0))), (3, (.one (.row 15))), (4, (.one (.v .bool p0))), (5, (.one (.v .bool p1))), (6, (.one (.v (.int .i64) p2)))] [(7, (.box 25 [(.v (.sl (.pair (.int .i64) (.pair (.int .i64) .str))) p3), (.v (.sl (.int .i64)) p4)])), (15, (.row 3 (.int .i64) p5 false))])
noncomputable def cluster_core.l3 (p0 : (List (Int × (Int × ByteArray)))) (p1 : Int) (p2 : Int) (p3 : (List Int)) : Option ((List Int) × Unit) := Go.Proofs.R.loopAt Go.Proofs.C14.ctx (Go.Proofs.R.Einf Go.Proofs.C14.ctx) 39 3 (.mk [(3, (.one (.row 7))), (7, (.one (.v (.sl (.pair (.int .i64) (.pair (.int .i64) .str))) p0))), (8, (.one (.v (.int .i64) p1))), (9, (.one (.v (.int .i64) p2)))] [(7, (.row 3 (.int .i64) p3 false))])
noncomputable def ancepsref14_core.l3 (p0 : Int) (p1 : (List (Int × (Int × ByteArray)))) (p2 : (List Int)) (p3 : (List Int)) : Option ((List Int) × Unit) := Go.Proofs.R.loopAt Go.Proofs.C14.ctx (Go.Proofs.R.Einf Go.Proofs.C14.ctx) 40 3 (.mk [(1, (.one (.ref 7 0))), (3, (.one (.row 15))), (4, (.one (.v (.int .i64) p0)))] [(7, (.box 25 [(.v (.sl (.pair (.int .i64) (.pair (.int .i64) .str))) p1), (.v (.sl (.int .i64)) p2)])), (15, (.row 3 (.int .i64) p3 false))])
noncomputable def sound_Valid.f (p0 : Int) (p1 : Int) (p2 : ByteArray) : Option (Int × Unit) := (Go.Proofs.R.Einf Go.Proofs.C14.ctx).call 41 [(.agg [(.v (.int .i64) p0), (.v (.int .i64) p1), (.v .str p2)])]
noncomputable def sound_Nucleus.f (p0 : Int) (p1 : Int) (p2 : ByteArray) : Option (Bool × Unit) := (Go.Proofs.R.Einf Go.Proofs.C14.ctx).call 42 [(.agg [(.v (.int .i64) p0), (.v (.int .i64) p1), (.v .str p2)])]
noncomputable def cluster_Valid.l14 (p0 : Int) (p1 : (List Int)) (p2 : Int) (p3 : Int) (p4 : (List (Int × (Int × ByteArray)))) (p5 : (List Int)) : Option (Int × Unit) := Go.Proofs.R.loopAt Go.Proofs.C14.ctx (Go.Proofs.R.Einf Go.Proofs.C14.ctx) 18 14 (.mk [(1, (.one (.ref 7 0))), (6, (.one (.v (.int .i64) p0))), (35, (.one (.v (.sl (.int .i64)) p1))), (36, (.one (.v (.int .i64) p2))), (37, (.one (.v (.int .i64) p3)))] [(7, (.box 25 [(.v (.sl (.pair (.int .i64) (.pair (.int .i64) .str))) p4), (.v (.sl (.int .i64)) p5)]))])
noncomputable def ancepsref11_Valid.f (p0 : Int) (p1 : Int) (p2 : ByteArray) : Option (Int × Unit) := (Go.Proofs.R.Einf Go.Proofs.C14.ctx).call 43 [(.agg [(.v (.int .i64) p0), (.v (.int .i64) p1), (.v .str p2)])]
noncomputable def ancepsref11_Nucleus.f (p0 : Int) (p1 : Int) (p2 : ByteArray) : Option (Bool × Unit) := (Go.Proofs.R.Einf Go.Proofs.C14.ctx).call 44 [(.agg [(.v (.int .i64) p0), (.v (.int .i64) p1), (.v .str p2)])]
noncomputable def ancepsref14_Valid.l12 (p0 : Int) (p1 : (List (Int × (Int × ByteArray)))) (p2 : (List Int)) : Option (Int × Unit) := Go.Proofs.R.loopAt Go.Proofs.C14.ctx (Go.Proofs.R.Einf Go.Proofs.C14.ctx) 19 12 (.mk [(1, (.one (.ref 7 0))), (5, (.one (.v (.int .i64) p0)))] [(7, (.box 25 [(.v (.sl (.pair (.int .i64) (.pair (.int .i64) .str))) p1), (.v (.sl (.int .i64)) p2)]))])
noncomputable def ancepsref14_Made.l8 (p0 : Int) (p1 : (List Int)) (p2 : Int) (p3 : (List (Int × (Int × ByteArray)))) (p4 : (List Int)) (p5 : (List (Int × (Int × ByteArray)))) (p6 : (List Int)) : Option ((List (Int × (Int × ByteArray))) × ((List Int) × Unit)) := Go.Proofs.R.loopAt Go.Proofs.C14.ctx (Go.Proofs.R.Einf Go.Proofs.C14.ctx) 20 8 (.mk [(1, (.one (.ref 7 0))), (2, (.one (.ref 15 0))), (4, (.one (.ref 23 0))), (6, (.one (.v (.int .i64) p0)))] [(7, (.box 36 [(.v (.sl (.int .u8)) p1), (.v (.int .u32) p2)])), (15, (.box 25 [(.row 31), (.row 39)])), (23, (.box 25 [(.row 47), (.row 55)])), (31, (.row 39 (.pair (.int .i64) (.pair (.int .i64) .str)) p3 false)), (39, (.row 3 (.int .i64) p4 false)), (47, (.row 39 (.pair (.int .i64) (.pair (.int .i64) .str)) p5 false)), (55, (.row 3 (.int .i64) p6 false))])
noncomputable def sound_beats.f (p0 : Int) (p1 : Int) (p2 : ByteArray) : Option (Int × Unit) := (Go.Proofs.R.Einf Go.Proofs.C14.ctx).call 45 [(.agg [(.v (.int .i64) p0), (.v (.int .i64) p1), (.v .str p2)])]
noncomputable def ancepsref11_Compare.f (p0 : Int) (p1 : Int) (p2 : ByteArray) (p3 : Int) (p4 : Int) (p5 : ByteArray) : Option (Int × Unit) := (Go.Proofs.R.Einf Go.Proofs.C14.ctx).call 46 [(.agg [(.v (.int .i64) p0), (.v (.int .i64) p1), (.v .str p2)]), (.agg [(.v (.int .i64) p3), (.v (.int .i64) p4), (.v .str p5)])]
noncomputable def api_Sound_47.l3 (p0 : (List (List (Int × (Int × ByteArray))))) (p1 : Int) (p2 : (List (List (Int × (Int × ByteArray))))) (p3 : Int) (p4 : Int) : Option ((List (Int × (Int × ByteArray))) × Unit) := Go.Proofs.R.loopAt Go.Proofs.C14.ctx (Go.Proofs.R.Einf Go.Proofs.C14.ctx) 47 3 (.mk [(0, (.one (.v (.sl (.sl (.pair (.int .i64) (.pair (.int .i64) .str)))) p0))), (3, (.one (.v (.int .i64) p1))), (9, (.one (.v (.sl (.sl (.pair (.int .i64) (.pair (.int .i64) .str)))) p2))), (10, (.one (.v (.int .i64) p3))), (11, (.one (.v (.int .i64) p4)))] [])
noncomputable def api_Sound_49.l2 (p0 : (List (Int × (Int × ByteArray)))) (p1 : (List (Int × (Int × ByteArray)))) (p2 : (List (Int × (Int × ByteArray)))) (p3 : Int) (p4 : Int) : Option (Int × Unit) := Go.Proofs.R.loopAt Go.Proofs.C14.ctx (Go.Proofs.R.Einf Go.Proofs.C14.ctx) 49 2 (.mk [(0, (.one (.v (.sl (.pair (.int .i64) (.pair (.int .i64) .str))) p0))), (1, (.one (.v (.sl (.pair (.int .i64) (.pair (.int .i64) .str))) p1))), (2, (.one (.clo 50 []))), (11, (.one (.v (.sl (.pair (.int .i64) (.pair (.int .i64) .str))) p2))), (12, (.one (.v (.int .i64) p3))), (13, (.one (.v (.int .i64) p4)))] [])
noncomputable def slices_Compare_int_int.l2 (p0 : (List Int)) (p1 : (List Int)) (p2 : (List Int)) (p3 : Int) (p4 : Int) : Option (Int × Unit) := Go.Proofs.R.loopAt Go.Proofs.C14.ctx (Go.Proofs.R.Einf Go.Proofs.C14.ctx) 51 2 (.mk [(0, (.one (.v (.sl (.int .i64)) p0))), (1, (.one (.v (.sl (.int .i64)) p1))), (9, (.one (.v (.sl (.int .i64)) p2))), (10, (.one (.v (.int .i64) p3))), (11, (.one (.v (.int .i64) p4)))] [])
noncomputable def cmp_Or_int.l3 (p0 : Int) (p1 : (List Int)) (p2 : Int) (p3 : Int) : Option (Int × Unit) := Go.Proofs.R.loopAt Go.Proofs.C14.ctx (Go.Proofs.R.Einf Go.Proofs.C14.ctx) 48 3 (.mk [(3, (.one (.v (.int .i64) p0))), (6, (.one (.v (.sl (.int .i64)) p1))), (7, (.one (.v (.int .i64) p2))), (8, (.one (.v (.int .i64) p3)))] [])
noncomputable def ancepsref14_order.f (p0 : Int) (p1 : Int) : Option (Int × Unit) := (Go.Proofs.R.Einf Go.Proofs.C14.ctx).call 52 [(.one (.v (.int .i64) p0)), (.one (.v (.int .i64) p1))]
noncomputable def ancepsref14_Compare.l11 (p0 : Int) (p1 : (List (Int × (Int × ByteArray)))) (p2 : (List Int)) (p3 : (List (Int × (Int × ByteArray)))) (p4 : (List Int)) : Option (Int × Unit) := Go.Proofs.R.loopAt Go.Proofs.C14.ctx (Go.Proofs.R.Einf Go.Proofs.C14.ctx) 33 11 (.mk [(2, (.one (.ref 7 0))), (3, (.one (.ref 15 0))), (8, (.one (.v (.int .i64) p0)))] [(7, (.box 25 [(.v (.sl (.pair (.int .i64) (.pair (.int .i64) .str))) p1), (.v (.sl (.int .i64)) p2)])), (15, (.box 25 [(.v (.sl (.pair (.int .i64) (.pair (.int .i64) .str))) p3), (.v (.sl (.int .i64)) p4)]))])
noncomputable def ancepsref11_Beats.l3 (p0 : (List (Int × (Int × ByteArray)))) (p1 : Int) (p2 : Int) : Option (Int × Unit) := Go.Proofs.R.loopAt Go.Proofs.C14.ctx (Go.Proofs.R.Einf Go.Proofs.C14.ctx) 53 3 (.mk [(0, (.one (.v (.sl (.pair (.int .i64) (.pair (.int .i64) .str))) p0))), (3, (.one (.v (.int .i64) p1))), (4, (.one (.v (.int .i64) p2)))] [])
noncomputable def sound_quantity.f (p0 : Int) (p1 : Int) (p2 : ByteArray) : Option (Bool × Unit) := (Go.Proofs.R.Einf Go.Proofs.C14.ctx).call 54 [(.agg [(.v (.int .i64) p0), (.v (.int .i64) p1), (.v .str p2)])]
noncomputable def strings_ContainsFunc.f (p0 : ByteArray) : Option (Bool × Unit) := (Go.Proofs.R.Einf Go.Proofs.C14.ctx).call 55 [(.one (.v .str p0)), (.one (.clo 56 []))]
noncomputable def ancepsref11_Valid.l15 (p0 : Int) (p1 : Int) (p2 : Int) (p3 : ByteArray) : Option (Int × Unit) := Go.Proofs.R.loopAt Go.Proofs.C14.ctx (Go.Proofs.R.Einf Go.Proofs.C14.ctx) 43 15 (.mk [(1, (.one (.ref 7 0))), (4, (.one (.v (.int .i64) p0)))] [(7, (.box 39 [(.v (.int .i64) p1), (.v (.int .i64) p2), (.v .str p3)]))])
noncomputable def ancepsref11_order.f (p0 : Int) (p1 : Int) : Option (Int × Unit) := (Go.Proofs.R.Einf Go.Proofs.C14.ctx).call 59 [(.one (.v (.int .i64) p0)), (.one (.v (.int .i64) p1))]
noncomputable def api_Sound_47.l11 (p0 : (List (List (Int × (Int × ByteArray))))) (p1 : Int) (p2 : Int) (p3 : (List (Int × (Int × ByteArray)))) : Option ((List (Int × (Int × ByteArray))) × Unit) := Go.Proofs.R.loopAt Go.Proofs.C14.ctx (Go.Proofs.R.Einf Go.Proofs.C14.ctx) 47 11 (.mk [(6, (.one (.row 7))), (25, (.one (.v (.sl (.sl (.pair (.int .i64) (.pair (.int .i64) .str)))) p0))), (26, (.one (.v (.int .i64) p1))), (27, (.one (.v (.int .i64) p2)))] [(7, (.row 39 (.pair (.int .i64) (.pair (.int .i64) .str)) p3 false))])
noncomputable def sound_Compare.f (p0 : Int) (p1 : Int) (p2 : ByteArray) (p3 : Int) (p4 : Int) (p5 : ByteArray) : Option (Int × Unit) := (Go.Proofs.R.Einf Go.Proofs.C14.ctx).call 50 [(.agg [(.v (.int .i64) p0), (.v (.int .i64) p1), (.v .str p2)]), (.agg [(.v (.int .i64) p3), (.v (.int .i64) p4), (.v .str p5)])]
noncomputable def cmp_Compare_int.f (p0 : Int) (p1 : Int) : Option (Int × Unit) := (Go.Proofs.R.Einf Go.Proofs.C14.ctx).call 61 [(.one (.v (.int .i64) p0)), (.one (.v (.int .i64) p1))]
noncomputable def strings_IndexFunc.f (p0 : ByteArray) : Option (Int × Unit) := (Go.Proofs.R.Einf Go.Proofs.C14.ctx).call 63 [(.one (.v .str p0)), (.one (.clo 56 []))]
noncomputable def ancepsref11_letter.f (p0 : Int) : Option (Bool × Unit) := (Go.Proofs.R.Einf Go.Proofs.C14.ctx).call 58 [(.one (.v (.int .u8) p0))]
noncomputable def cmp_Compare_string.f (p0 : ByteArray) (p1 : ByteArray) : Option (Int × Unit) := (Go.Proofs.R.Einf Go.Proofs.C14.ctx).call 62 [(.one (.v .str p0)), (.one (.v .str p1))]
noncomputable def cmp_isNaN_int.f (p0 : Int) : Option (Bool × Unit) := (Go.Proofs.R.Einf Go.Proofs.C14.ctx).call 64 [(.one (.v (.int .i64) p0))]
noncomputable def strings_indexFunc.f (p0 : ByteArray) (p1 : Bool) : Option (Int × Unit) := (Go.Proofs.R.Einf Go.Proofs.C14.ctx).call 66 [(.one (.v .str p0)), (.one (.clo 56 [])), (.one (.v .bool p1))]
noncomputable def cmp_isNaN_string.f (p0 : ByteArray) : Option (Bool × Unit) := (Go.Proofs.R.Einf Go.Proofs.C14.ctx).call 65 [(.one (.v .str p0))]
noncomputable def strings_indexFunc.l2 (p0 : Bool) (p1 : ByteArray) (p2 : Nat) : Option (Int × Unit) := Go.Proofs.R.loopAt Go.Proofs.C14.ctx (Go.Proofs.R.Einf Go.Proofs.C14.ctx) 66 2 (.mk [(1, (.one (.clo 56 []))), (2, (.one (.v .bool p0))), (10, (.one (.ref 7 0)))] [(7, (.iter p1 p2))])
noncomputable def sound_Valid_1.f (p0 : Int) : Option (Bool × Unit) := (Go.Proofs.R.Einf Go.Proofs.C14.ctx).call 56 [(.one (.v (.int .i32) p0))]
noncomputable def sound_written.f (p0 : Int) : Option (Bool × Unit) := (Go.Proofs.R.Einf Go.Proofs.C14.ctx).call 57 [(.one (.v (.int .i32) p0))]

theorem ancepslaw14_ClusterClass.f_eq (p0 : (List (Int × (Int × ByteArray)))) (p1 : (List Int)) : ancepslaw14_ClusterClass.f p0 p1 =
  bindD (ancepslaw14_awake.f) fun t0 =>
  ifB (!t0.1)
   (bindD (ancepslaw14_awake.f) fun t1 =>
   some (t1.1, ()))
  (bindD (ancepsref14_Few.f p0 p1) fun t2 =>
   ifB (!t2.1)
    (bindD (ancepslaw14_awake.f) fun t3 =>
    some (t3.1, ()))
   (bindD (ancepslaw14_copied.f p0 p1) fun t4 =>
    bindD (cluster_Class.f t4.1 t4.2.1) fun t5 =>
    bindD (ancepsref14_Class.f p0 p1) fun t6 =>
    bindD (ancepslaw14_copied.f p0 p1) fun t7 =>
    bindD (cluster_Coda.f t7.1 t7.2.1) fun t8 =>
    bindD (ancepsref14_Coda.f p0 p1) fun t9 =>
    bindD (ancepslaw14_copied.f p0 p1) fun t10 =>
    bindD (cluster_Valid.f t10.1 t10.2.1) fun t11 =>
    bindD (ancepsref14_Valid.f p0 p1) fun t12 =>
    ifB (t11.1 == t12.1)
     (ifB (t5.1 == t6.1)
      (ifB (t5.2.1 == t6.2.1)
       (ifB (t8.1 == t9.1)
        (some ((t8.2.1 == t9.2.1), ()))
       (some (false, ())))
      (some (false, ())))
     (some (false, ())))
    (some (false, ())))) := (Einf_call Go.Proofs.C14.ctx 3 _).trans (by kernel_rfl)
theorem ancepslaw14_ClusterBreath.f_eq (p0 : (List Int)) (p1 : Int) : ancepslaw14_ClusterBreath.f p0 p1 =
  bindD (ancepsref14_Made.f p0 p1) fun t13 =>
  bindD (ancepslaw14_awake.f) fun t14 =>
  ifB (!t14.1)
   (some (false, ()))
  (bindD ((Go.Proofs.R.grow ((List.length (((9 : Int), ((0 : Int), (ByteArray.mk (List.toArray ((104 : UInt8) :: ([] : (List UInt8))))))) :: ([] : (List (Int × (Int × ByteArray)))))) + (List.length t13.1)))) fun t15 =>
   ancepslaw14_ClusterBreath.l6 t13.2.1 (((List.length t13.2.1) : Nat) : Int) (0 : Int) t13.1 t13.2.1 ((((9 : Int), ((0 : Int), (ByteArray.mk (List.toArray ((104 : UInt8) :: ([] : (List UInt8))))))) :: ([] : (List (Int × (Int × ByteArray))))) ++ t13.1) ([] : (List Int))) := (Einf_call Go.Proofs.C14.ctx 4 _).trans (by kernel_rfl)
theorem ancepslaw14_ClusterCoda.f_eq (p0 : (List Int)) (p1 : Int) : ancepslaw14_ClusterCoda.f p0 p1 =
  bindD (ancepsref14_Made.f p0 p1) fun t16 =>
  bindD (ancepslaw14_awake.f) fun t17 =>
  ifB (!t17.1)
   (some (false, ()))
  (bindD (cluster_Class.f t16.1 t16.2.1) fun t18 =>
   bindD (cluster_Coda.f t16.1 t16.2.1) fun t19 =>
   ifB (t18.2.1 != (0 : Int))
    (some (false, ()))
   (ifB (t19.2.1 != (0 : Int))
     (some (false, ()))
    (ifB (decide (t19.1 < (0 : Int)))
      (some (false, ()))
     (ifB (decide (t19.1 > (((List.length t16.1) : Nat) : Int)))
       (some (false, ()))
      (ifB ((t18.1 == (4 : Int)) == (decide (t19.1 > (0 : Int))))
        (ifB (t19.1 == (0 : Int))
         (some (true, ()))
        (bindD ((subL t16.1 t19.1 (((List.length t16.1) : Nat) : Int))) fun t20 =>
         bindD (sound_Beats.f t20) fun t21 =>
         some ((decide (t21.1 ≤ (1 : Int))), ())))
       (some (false, ()))))))) := (Einf_call Go.Proofs.C14.ctx 5 _).trans (by kernel_rfl)
theorem ancepslaw14_ClusterCore.f_eq (p0 : (List (Int × (Int × ByteArray)))) (p1 : (List Int)) : ancepslaw14_ClusterCore.f p0 p1 =
  bindD (ancepslaw14_awake.f) fun t22 =>
  ifB (!t22.1)
   (bindD (ancepslaw14_awake.f) fun t23 =>
   some (t23.1, ()))
  (bindD (ancepsref14_Few.f p0 p1) fun t24 =>
   ifB (!t24.1)
    (bindD (ancepslaw14_awake.f) fun t25 =>
    some (t25.1, ()))
   (bindD (ancepslaw14_copied.f p0 p1) fun t26 =>
    bindD (cluster_Core.f t26.1 t26.2.1) fun t27 =>
    bindD (ancepsref14_Core.f p0 p1) fun t28 =>
    ifB (t27.2.1 == t28.2.1)
     (bindD (ancepsref11_Same.f t27.1 t28.1) fun t29 =>
     ifB t29.1
      (ifB (t27.2.1 != (0 : Int))
       (some (true, ()))
      (bindD (sound_Beats.f t27.1) fun t30 =>
       bindD (sound_Beats.f p0) fun t31 =>
       some ((t30.1 == t31.1), ())))
     (some (false, ())))
    (some (false, ())))) := (Einf_call Go.Proofs.C14.ctx 6 _).trans (by kernel_rfl)
theorem ancepslaw14_ClusterExplain.f_eq (p0 : Int) : ancepslaw14_ClusterExplain.f p0 =
  bindD (ancepslaw14_awake.f) fun t32 =>
  ifB t32.1
   (bindD (cluster_Explain.f p0) fun t33 =>
   bindD (ancepsref14_Explain.f p0) fun t34 =>
   some (((ByteArray.toList t33.1) == (ByteArray.toList t34.1)), ()))
  (some (false, ())) := (Einf_call Go.Proofs.C14.ctx 7 _).trans (by kernel_rfl)
theorem ancepslaw14_ClusterJoin.f_eq (p0 : (List (Int × (Int × ByteArray)))) (p1 : (List Int)) (p2 : (List (Int × (Int × ByteArray)))) (p3 : (List Int)) : ancepslaw14_ClusterJoin.f p0 p1 p2 p3 =
  bindD (ancepslaw14_awake.f) fun t35 =>
  ifB (!t35.1)
   (bindD (ancepslaw14_awake.f) fun t36 =>
   some (t36.1, ()))
  (bindD (ancepsref14_Few.f p0 p1) fun t37 =>
   ifB (!t37.1)
    (bindD (ancepslaw14_awake.f) fun t38 =>
    some (t38.1, ()))
   (bindD (ancepsref14_Few.f p2 p3) fun t39 =>
    ifB (!t39.1)
     (bindD (ancepslaw14_awake.f) fun t40 =>
     some (t40.1, ()))
    (bindD (ancepslaw14_copied.f p0 p1) fun t41 =>
     bindD (ancepslaw14_copied.f p2 p3) fun t42 =>
     bindD (cluster_Join.f t41.1 t41.2.1 t42.1 t42.2.1) fun t43 =>
     bindD (ancepsref14_Join.f p0 p1 p2 p3) fun t44 =>
     ifB (t43.2.2.1 != t44.2.2.1)
      (ifB (t43.2.2.1 == t44.2.2.1)
       (bindD (ancepsref14_Same.f t43.1 t43.2.1 t44.1 t44.2.1) fun t45 =>
       some (t45.1, ()))
      (some (false, ())))
     (bindD (ancepsref14_Same.f t43.1 t43.2.1 t44.1 t44.2.1) fun t46 =>
      ifB (!t46.1)
       (ifB (t43.2.2.1 == t44.2.2.1)
        (bindD (ancepsref14_Same.f t43.1 t43.2.1 t44.1 t44.2.1) fun t47 =>
        some (t47.1, ()))
       (some (false, ())))
      (ifB (t43.2.2.1 != (0 : Int))
        (ifB (t43.2.2.1 == t44.2.2.1)
         (bindD (ancepsref14_Same.f t43.1 t43.2.1 t44.1 t44.2.1) fun t48 =>
         some (t48.1, ()))
        (some (false, ())))
       (bindD (cluster_Class.f p0 p1) fun t49 =>
        bindD (cluster_Class.f p2 p3) fun t50 =>
        bindD (cluster_Class.f t43.1 t43.2.1) fun t51 =>
        ifB (t49.2.1 == (0 : Int))
         (ifB (t50.2.1 == (0 : Int))
          (ifB (t51.2.1 == (0 : Int))
           (bindD (sound_Beats.f t43.1) fun t52 =>
           bindD (sound_Beats.f p0) fun t53 =>
           bindD (sound_Beats.f p2) fun t54 =>
           ifB (t52.1 == (Go.IntKind.wrap Go.IntKind.i64 (t53.1 + t54.1)))
            (ifB (t51.1 == (4 : Int))
             (some (true, ()))
            (ifB (t49.1 != (4 : Int))
              (some ((t50.1 != (4 : Int)), ()))
             (some (false, ()))))
           (some (false, ())))
          (some (false, ())))
         (some (false, ())))
        (some (false, ())))))))) := (Einf_call Go.Proofs.C14.ctx 8 _).trans (by kernel_rfl)
theorem ancepslaw14_ClusterSplit.f_eq (p0 : (List (Int × (Int × ByteArray)))) (p1 : (List Int)) (p2 : Int) : ancepslaw14_ClusterSplit.f p0 p1 p2 =
  bindD (ancepslaw14_awake.f) fun t55 =>
  ifB (!t55.1)
   (bindD (ancepslaw14_awake.f) fun t56 =>
   some (t56.1, ()))
  (bindD (ancepsref14_Few.f p0 p1) fun t57 =>
   ifB (!t57.1)
    (bindD (ancepslaw14_awake.f) fun t58 =>
    some (t58.1, ()))
   (bindD (ancepslaw14_copied.f p0 p1) fun t59 =>
    bindD (cluster_Split.f t59.1 t59.2.1 p2) fun t60 =>
    bindD (ancepsref14_Split.f p0 p1 p2) fun t61 =>
    ifB (t60.2.2.2.2.1 != t61.2.2.2.2.1)
     (ifB (t60.2.2.2.2.1 == t61.2.2.2.2.1)
      (bindD (ancepsref14_Same.f t60.1 t60.2.1 t61.1 t61.2.1) fun t62 =>
      ifB t62.1
       (bindD (ancepsref14_Same.f t60.2.2.1 t60.2.2.2.1 t61.2.2.1 t61.2.2.2.1) fun t63 =>
       some (t63.1, ()))
      (some (false, ())))
     (some (false, ())))
    (bindD (ancepsref14_Same.f t60.1 t60.2.1 t61.1 t61.2.1) fun t64 =>
     ifB (!t64.1)
      (ifB (t60.2.2.2.2.1 == t61.2.2.2.2.1)
       (bindD (ancepsref14_Same.f t60.1 t60.2.1 t61.1 t61.2.1) fun t65 =>
       ifB t65.1
        (bindD (ancepsref14_Same.f t60.2.2.1 t60.2.2.2.1 t61.2.2.1 t61.2.2.2.1) fun t66 =>
        some (t66.1, ()))
       (some (false, ())))
      (some (false, ())))
     (bindD (ancepsref14_Same.f t60.2.2.1 t60.2.2.2.1 t61.2.2.1 t61.2.2.2.1) fun t67 =>
      ifB (!t67.1)
       (ifB (t60.2.2.2.2.1 == t61.2.2.2.2.1)
        (bindD (ancepsref14_Same.f t60.1 t60.2.1 t61.1 t61.2.1) fun t68 =>
        ifB t68.1
         (bindD (ancepsref14_Same.f t60.2.2.1 t60.2.2.2.1 t61.2.2.1 t61.2.2.2.1) fun t69 =>
         some (t69.1, ()))
        (some (false, ())))
       (some (false, ())))
      (ifB (t60.2.2.2.2.1 != (0 : Int))
        (ifB (t60.2.2.2.2.1 == t61.2.2.2.2.1)
         (bindD (ancepsref14_Same.f t60.1 t60.2.1 t61.1 t61.2.1) fun t70 =>
         ifB t70.1
          (bindD (ancepsref14_Same.f t60.2.2.1 t60.2.2.2.1 t61.2.2.1 t61.2.2.2.1) fun t71 =>
          some (t71.1, ()))
         (some (false, ())))
        (some (false, ())))
       (bindD (cluster_Join.f t60.1 t60.2.1 t60.2.2.1 t60.2.2.2.1) fun t72 =>
        ifB (t72.2.2.1 == (0 : Int))
         (bindD (ancepsref14_Same.f t72.1 t72.2.1 p0 p1) fun t73 =>
         some (t73.1, ()))
        (some (false, ())))))))) := (Einf_call Go.Proofs.C14.ctx 9 _).trans (by kernel_rfl)
theorem ancepslaw14_ClusterOrder.f_eq (p0 : (List (Int × (Int × ByteArray)))) (p1 : (List Int)) (p2 : (List (Int × (Int × ByteArray)))) (p3 : (List Int)) (p4 : (List (Int × (Int × ByteArray)))) (p5 : (List Int)) : ancepslaw14_ClusterOrder.f p0 p1 p2 p3 p4 p5 =
  bindD (ancepslaw14_awake.f) fun t74 =>
  ifB (!t74.1)
   (bindD (ancepslaw14_awake.f) fun t75 =>
   some (t75.1, ()))
  (bindD (ancepsref14_Few.f p0 p1) fun t76 =>
   ifB (!t76.1)
    (bindD (ancepslaw14_awake.f) fun t77 =>
    some (t77.1, ()))
   (bindD (ancepsref14_Few.f p2 p3) fun t78 =>
    ifB (!t78.1)
     (bindD (ancepslaw14_awake.f) fun t79 =>
     some (t79.1, ()))
    (bindD (ancepsref14_Few.f p4 p5) fun t80 =>
     ifB (!t80.1)
      (bindD (ancepslaw14_awake.f) fun t81 =>
      some (t81.1, ()))
     (bindD (ancepslaw14_copied.f p0 p1) fun t82 =>
      bindD (ancepslaw14_copied.f p2 p3) fun t83 =>
      bindD (cluster_Compare.f t82.1 t82.2.1 t83.1 t83.2.1) fun t84 =>
      bindD (cluster_Compare.f p2 p3 p4 p5) fun t85 =>
      bindD (cluster_Compare.f p0 p1 p4 p5) fun t86 =>
      bindD (ancepsref14_Compare.f p0 p1 p2 p3) fun t87 =>
      ifB (t84.1 == t87.1)
       (bindD (cluster_Compare.f p2 p3 p0 p1) fun t88 =>
       ifB (t88.1 == (Go.IntKind.wrap Go.IntKind.i64 ((0 : Int) - t84.1)))
        (bindD (cluster_Compare.f p0 p1 p0 p1) fun t89 =>
        ifB (t89.1 == (0 : Int))
         (ifB (decide (t84.1 > (0 : Int)))
          (ifB (t84.1 != (0 : Int))
           (some (true, ()))
          (some ((t85.1 == t86.1), ())))
         (ifB (decide (t85.1 > (0 : Int)))
           (ifB (t84.1 != (0 : Int))
            (some (true, ()))
           (some ((t85.1 == t86.1), ())))
          (ifB (decide (t86.1 ≤ (0 : Int)))
            (ifB (t84.1 != (0 : Int))
             (some (true, ()))
            (some ((t85.1 == t86.1), ())))
           (some (false, ())))))
        (some (false, ())))
       (some (false, ())))
      (some (false, ())))))) := (Einf_call Go.Proofs.C14.ctx 10 _).trans (by kernel_rfl)
theorem ancepslaw14_awake.f_eq : ancepslaw14_awake.f =
  bindD (cluster_Class.f (((3 : Int), ((0 : Int), (ByteArray.mk (List.toArray ((116 : UInt8) :: ([] : (List UInt8))))))) :: (((4 : Int), ((0 : Int), (ByteArray.mk (List.toArray ((114 : UInt8) :: ([] : (List UInt8))))))) :: ([] : (List (Int × (Int × ByteArray)))))) ([] : (List Int))) fun t90 =>
  bindD (cluster_Class.f (((3 : Int), ((0 : Int), (ByteArray.mk (List.toArray ((116 : UInt8) :: ([] : (List UInt8))))))) :: (((4 : Int), ((0 : Int), (ByteArray.mk (List.toArray ((114 : UInt8) :: ([] : (List UInt8))))))) :: ([] : (List (Int × (Int × ByteArray)))))) ((0 : Int) :: ([] : (List Int)))) fun t91 =>
  bindD (cluster_Coda.f (((3 : Int), ((0 : Int), (ByteArray.mk (List.toArray ((116 : UInt8) :: ([] : (List UInt8))))))) :: (((4 : Int), ((0 : Int), (ByteArray.mk (List.toArray ((114 : UInt8) :: ([] : (List UInt8))))))) :: ([] : (List (Int × (Int × ByteArray)))))) ((1 : Int) :: ([] : (List Int)))) fun t92 =>
  bindD (cluster_Class.f (((3 : Int), ((0 : Int), (ByteArray.mk (List.toArray ((116 : UInt8) :: ([] : (List UInt8))))))) :: (((4 : Int), ((0 : Int), (ByteArray.mk (List.toArray ((114 : UInt8) :: ([] : (List UInt8))))))) :: ([] : (List (Int × (Int × ByteArray)))))) ((1 : Int) :: ([] : (List Int)))) fun t93 =>
  bindD (cluster_Split.f (((5 : Int), ((0 : Int), (ByteArray.mk (List.toArray ((110 : UInt8) :: ([] : (List UInt8))))))) :: (((3 : Int), ((0 : Int), (ByteArray.mk (List.toArray ((116 : UInt8) :: ([] : (List UInt8))))))) :: (((4 : Int), ((0 : Int), (ByteArray.mk (List.toArray ((114 : UInt8) :: ([] : (List UInt8))))))) :: ([] : (List (Int × (Int × ByteArray))))))) ((1 : Int) :: ((3 : Int) :: ([] : (List Int)))) (1 : Int)) fun t94 =>
  ifB (t90.2.1 == (0 : Int))
   (ifB (t90.1 == (2 : Int))
    (ifB (t91.2.1 == (0 : Int))
     (ifB (t91.1 == (3 : Int))
      (ifB (t92.2.1 == (0 : Int))
       (ifB (t92.1 == (1 : Int))
        (ifB (t93.2.1 == (0 : Int))
         (ifB (t93.1 == (4 : Int))
          (ifB (t94.2.2.2.2.1 == (0 : Int))
           (bindD (ancepsref14_Same.f t94.1 t94.2.1 (((5 : Int), ((0 : Int), (ByteArray.mk (List.toArray ((110 : UInt8) :: ([] : (List UInt8))))))) :: ([] : (List (Int × (Int × ByteArray))))) ((1 : Int) :: ([] : (List Int)))) fun t95 =>
           ifB t95.1
            (bindD (ancepsref14_Same.f t94.2.2.1 t94.2.2.2.1 (((3 : Int), ((0 : Int), (ByteArray.mk (List.toArray ((116 : UInt8) :: ([] : (List UInt8))))))) :: (((4 : Int), ((0 : Int), (ByteArray.mk (List.toArray ((114 : UInt8) :: ([] : (List UInt8))))))) :: ([] : (List (Int × (Int × ByteArray)))))) ((2 : Int) :: ([] : (List Int)))) fun t96 =>
            some (t96.1, ()))
           (some (false, ())))
          (some (false, ())))
         (some (false, ())))
        (some (false, ())))
       (some (false, ())))
      (some (false, ())))
     (some (false, ())))
    (some (false, ())))
   (some (false, ())))
  (some (false, ())) := (Einf_call Go.Proofs.C14.ctx 11 _).trans (by kernel_rfl)
theorem ancepsref14_Few.f_eq (p0 : (List (Int × (Int × ByteArray)))) (p1 : (List Int)) : ancepsref14_Few.f p0 p1 =
  bindD (ancepsref11_Few.f p0 (20 : Int)) fun t97 =>
  ifB t97.1
   (some ((decide ((((List.length p1) : Nat) : Int) ≤ (20 : Int))), ()))
  (some (false, ())) := (Einf_call Go.Proofs.C14.ctx 12 _).trans (by kernel_rfl)
theorem ancepslaw14_copied.f_eq (p0 : (List (Int × (Int × ByteArray)))) (p1 : (List Int)) : ancepslaw14_copied.f p0 p1 =
  bindD (api_Sound.f p0) fun t98 =>
  bindD (slices_Clone_int_int.f p1) fun t99 =>
  some (t98.1, (t99.1, ())) := (Einf_call Go.Proofs.C14.ctx 14 _).trans (by kernel_rfl)
theorem cluster_Class.f_eq (p0 : (List (Int × (Int × ByteArray)))) (p1 : (List Int)) : cluster_Class.f p0 p1 =
  bindD (cluster_Valid.f p0 p1) fun t100 =>
  ifB (t100.1 != (0 : Int))
   (some ((0 : Int), (t100.1, ())))
  (bindD (cluster_class.f p0 p1) fun t101 =>
   some (t101.1, ((0 : Int), ()))) := (Einf_call Go.Proofs.C14.ctx 13 _).trans (by kernel_rfl)
theorem ancepsref14_Class.f_eq (p0 : (List (Int × (Int × ByteArray)))) (p1 : (List Int)) : ancepsref14_Class.f p0 p1 =
  bindD (ancepsref14_Valid.f p0 p1) fun t102 =>
  ifB (t102.1 != (0 : Int))
   (some ((0 : Int), (t102.1, ())))
  (bindD (ancepsref14_class.f p0 p1) fun t103 =>
   some (t103.1, ((0 : Int), ()))) := (Einf_call Go.Proofs.C14.ctx 15 _).trans (by kernel_rfl)
theorem cluster_Coda.f_eq (p0 : (List (Int × (Int × ByteArray)))) (p1 : (List Int)) : cluster_Coda.f p0 p1 =
  bindD (cluster_Valid.f p0 p1) fun t104 =>
  ifB (t104.1 != (0 : Int))
   (some ((0 : Int), (t104.1, ())))
  (bindD (cluster_class.f p0 p1) fun t105 =>
   ifB (t105.1 != (4 : Int))
    (some ((0 : Int), ((0 : Int), ())))
   (bindD (cluster_core.f p0 p1) fun t106 =>
    bindD ((ixAt t106.1 (Go.IntKind.wrap Go.IntKind.i64 ((((List.length t106.1) : Nat) : Int) - (1 : Int))))) fun t107 =>
    bindD ((ixAt t106.1 (Go.IntKind.wrap Go.IntKind.i64 ((((List.length t106.1) : Nat) : Int) - (1 : Int))))) fun t108 =>
    bindD ((ixAt p0 t108)) fun t109 =>
    ifB (t109.1 == (7 : Int))
     (some ((Go.IntKind.wrap Go.IntKind.i64 (t108 + (1 : Int))), ((0 : Int), ())))
    (some (t108, ((0 : Int), ()))))) := (Einf_call Go.Proofs.C14.ctx 16 _).trans (by kernel_rfl)
theorem ancepsref14_Coda.f_eq (p0 : (List (Int × (Int × ByteArray)))) (p1 : (List Int)) : ancepsref14_Coda.f p0 p1 =
  bindD (ancepsref14_Valid.f p0 p1) fun t110 =>
  ifB (t110.1 != (0 : Int))
   (some ((0 : Int), (t110.1, ())))
  (bindD (ancepsref14_class.f p0 p1) fun t111 =>
   ifB (t111.1 != (4 : Int))
    (some ((0 : Int), ((0 : Int), ())))
   (bindD (ancepsref14_core.f p0 p1) fun t112 =>
    bindD ((ixAt t112.1 (Go.IntKind.wrap Go.IntKind.i64 ((((List.length t112.1) : Nat) : Int) - (1 : Int))))) fun t113 =>
    bindD ((ixAt t112.1 (Go.IntKind.wrap Go.IntKind.i64 ((((List.length t112.1) : Nat) : Int) - (1 : Int))))) fun t114 =>
    bindD ((ixAt p0 t114)) fun t115 =>
    ifB (t115.1 == (7 : Int))
     (some ((Go.IntKind.wrap Go.IntKind.i64 (t114 + (1 : Int))), ((0 : Int), ())))
    (some (t114, ((0 : Int), ()))))) := (Einf_call Go.Proofs.C14.ctx 17 _).trans (by kernel_rfl)
theorem cluster_Valid.f_eq (p0 : (List (Int × (Int × ByteArray)))) (p1 : (List Int)) : cluster_Valid.f p0 p1 =
  ifB (decide ((((List.length p0) : Nat) : Int) > (12 : Int)))
   (some ((3 : Int), ()))
  (ifB (decide ((((List.length p1) : Nat) : Int) > (12 : Int)))
    (some ((3 : Int), ()))
   (cluster_Valid.l4 p0 (((List.length p0) : Nat) : Int) (0 : Int) p0 p1)) := (Einf_call Go.Proofs.C14.ctx 18 _).trans (by kernel_rfl)
theorem ancepsref14_Valid.f_eq (p0 : (List (Int × (Int × ByteArray)))) (p1 : (List Int)) : ancepsref14_Valid.f p0 p1 =
  ifB (decide ((((List.length p0) : Nat) : Int) > (12 : Int)))
   (some ((3 : Int), ()))
  (ifB (decide ((((List.length p1) : Nat) : Int) > (12 : Int)))
    (some ((3 : Int), ()))
   (ancepsref14_Valid.l4 (0 : Int) p0 p1)) := (Einf_call Go.Proofs.C14.ctx 19 _).trans (by kernel_rfl)
theorem ancepsref14_Made.f_eq (p0 : (List Int)) (p1 : Int) : ancepsref14_Made.f p0 p1 =
  ancepsref14_Made.l4 (0 : Int) p0 p1 (((3 : Int), ((0 : Int), (ByteArray.mk (List.toArray ((116 : UInt8) :: ([] : (List UInt8))))))) :: (((4 : Int), ((0 : Int), (ByteArray.mk (List.toArray ((114 : UInt8) :: ([] : (List UInt8))))))) :: (((9 : Int), ((0 : Int), (ByteArray.mk (List.toArray ((104 : UInt8) :: ([] : (List UInt8))))))) :: (((5 : Int), ((0 : Int), (ByteArray.mk (List.toArray ((110 : UInt8) :: ([] : (List UInt8))))))) :: (((6 : Int), ((0 : Int), (ByteArray.mk (List.toArray ((115 : UInt8) :: ([] : (List UInt8))))))) :: (((7 : Int), ((0 : Int), (ByteArray.mk (List.toArray ((120 : UInt8) :: ([] : (List UInt8))))))) :: (((8 : Int), ((0 : Int), (ByteArray.mk (List.toArray ((118 : UInt8) :: ([] : (List UInt8))))))) :: (((3 : Int), ((0 : Int), (ByteArray.mk (List.toArray ((112 : UInt8) :: ([] : (List UInt8))))))) :: (((4 : Int), ((0 : Int), (ByteArray.mk (List.toArray ((108 : UInt8) :: ([] : (List UInt8))))))) :: ([] : (List (Int × (Int × ByteArray))))))))))))) ([] : (List (Int × (Int × ByteArray)))) ([] : (List Int)) ([] : (List (Int × (Int × ByteArray)))) ([] : (List Int)) := (Einf_call Go.Proofs.C14.ctx 20 _).trans (by kernel_rfl)
theorem ancepslaw14_ClusterBreath.l6_eq (p0 : (List Int)) (p1 : Int) (p2 : Int) (p3 : (List (Int × (Int × ByteArray)))) (p4 : (List Int)) (p5 : (List (Int × (Int × ByteArray)))) (p6 : (List Int)) : ancepslaw14_ClusterBreath.l6 p0 p1 p2 p3 p4 p5 p6 =
  ifB (decide (p2 < p1))
   (bindD ((ixAt p0 p2)) fun t116 =>
   bindD ((Go.Proofs.R.grow ((List.length p6) + (List.length ((Go.IntKind.wrap Go.IntKind.i64 (t116 + (1 : Int))) :: ([] : (List Int))))))) fun t117 =>
   ancepslaw14_ClusterBreath.l6 p0 p1 (Go.IntKind.wrap Go.IntKind.i64 (p2 + (1 : Int))) p3 p4 p5 (p6 ++ ((Go.IntKind.wrap Go.IntKind.i64 (t116 + (1 : Int))) :: ([] : (List Int)))))
  (bindD (cluster_Class.f p3 p4) fun t118 =>
   bindD (cluster_Class.f p5 p6) fun t119 =>
   bindD (cluster_Coda.f p3 p4) fun t120 =>
   bindD (cluster_Coda.f p5 p6) fun t121 =>
   ifB (t118.1 == (4 : Int))
    (ifB (t118.2.1 == (0 : Int))
     (ifB (t119.2.1 == (0 : Int))
      (ifB (t118.1 == t119.1)
       (ifB (t120.2.1 == (0 : Int))
        (ifB (t121.2.1 == (0 : Int))
         (some (((Go.IntKind.wrap Go.IntKind.i64 (t120.1 + (1 : Int))) == t121.1), ()))
        (some (false, ())))
       (some (false, ())))
      (some (false, ())))
     (some (false, ())))
    (some (false, ())))
   (ifB (t118.2.1 == (0 : Int))
     (ifB (t119.2.1 == (0 : Int))
      (ifB (t118.1 == t119.1)
       (ifB (t120.2.1 == (0 : Int))
        (ifB (t121.2.1 == (0 : Int))
         (some ((t120.1 == t121.1), ()))
        (some (false, ())))
       (some (false, ())))
      (some (false, ())))
     (some (false, ())))
    (some (false, ())))) := (loopAt_step Go.Proofs.C14.ctx 4 6 _).trans (by kernel_rfl)
theorem sound_Beats.f_eq (p0 : (List (Int × (Int × ByteArray)))) : sound_Beats.f p0 =
  sound_Beats.l3 (0 : Int) p0 (((List.length p0) : Nat) : Int) (0 : Int) := (Einf_call Go.Proofs.C14.ctx 21 _).trans (by kernel_rfl)
theorem cluster_Core.f_eq (p0 : (List (Int × (Int × ByteArray)))) (p1 : (List Int)) : cluster_Core.f p0 p1 =
  bindD (cluster_Valid.f p0 p1) fun t122 =>
  ifB (t122.1 != (0 : Int))
   (some (([] : (List (Int × (Int × ByteArray)))), (t122.1, ())))
  (bindD (cluster_core.f p0 p1) fun t123 =>
   cluster_Core.l6 (((List.length t123.1) : Nat) : Int) (0 : Int) p0 p1 ([] : (List (Int × (Int × ByteArray)))) t123.1) := (Einf_call Go.Proofs.C14.ctx 22 _).trans (by kernel_rfl)
theorem ancepsref14_Core.f_eq (p0 : (List (Int × (Int × ByteArray)))) (p1 : (List Int)) : ancepsref14_Core.f p0 p1 =
  bindD (ancepsref14_Valid.f p0 p1) fun t124 =>
  ifB (t124.1 != (0 : Int))
   (some (([] : (List (Int × (Int × ByteArray)))), (t124.1, ())))
  (bindD (ancepsref14_core.f p0 p1) fun t125 =>
   ancepsref14_Core.l7 (0 : Int) p0 p1 t125.1 ([] : (List (Int × (Int × ByteArray))))) := (Einf_call Go.Proofs.C14.ctx 23 _).trans (by kernel_rfl)
theorem ancepsref11_Same.f_eq (p0 : (List (Int × (Int × ByteArray)))) (p1 : (List (Int × (Int × ByteArray)))) : ancepsref11_Same.f p0 p1 =
  ifB ((((List.length p0) : Nat) : Int) != (((List.length p1) : Nat) : Int))
   (some (false, ()))
  (ancepsref11_Same.l4 p0 p1 (0 : Int)) := (Einf_call Go.Proofs.C14.ctx 24 _).trans (by kernel_rfl)
theorem cluster_Explain.f_eq (p0 : Int) : cluster_Explain.f p0 =
  ifB (p0 == (1 : Int))
   (some ((ByteArray.mk (List.toArray ((111 : UInt8) :: ((112 : UInt8) :: ((101 : UInt8) :: ((110 : UInt8) :: ([] : (List UInt8)))))))), ()))
  (ifB (p0 == (2 : Int))
    (some ((ByteArray.mk (List.toArray ((109 : UInt8) :: ((117 : UInt8) :: ((116 : UInt8) :: ((101 : UInt8) :: ((32 : UInt8) :: ((97 : UInt8) :: ((110 : UInt8) :: ((100 : UInt8) :: ((32 : UInt8) :: ((108 : UInt8) :: ((105 : UInt8) :: ((113 : UInt8) :: ((117 : UInt8) :: ((105 : UInt8) :: ((100 : UInt8) :: ([] : (List UInt8))))))))))))))))))), ()))
   (ifB (p0 == (3 : Int))
     (some ((ByteArray.mk (List.toArray ((110 : UInt8) :: ((101 : UInt8) :: ((120 : UInt8) :: ((116 : UInt8) :: ((32 : UInt8) :: ((109 : UInt8) :: ((117 : UInt8) :: ((116 : UInt8) :: ((101 : UInt8) :: ((32 : UInt8) :: ((97 : UInt8) :: ((110 : UInt8) :: ((100 : UInt8) :: ((32 : UInt8) :: ((108 : UInt8) :: ((105 : UInt8) :: ((113 : UInt8) :: ((117 : UInt8) :: ((105 : UInt8) :: ((100 : UInt8) :: ([] : (List UInt8)))))))))))))))))))))))), ()))
    (ifB (p0 == (4 : Int))
      (some ((ByteArray.mk (List.toArray ((99 : UInt8) :: ((108 : UInt8) :: ((111 : UInt8) :: ((115 : UInt8) :: ((101 : UInt8) :: ((100 : UInt8) :: ([] : (List UInt8)))))))))), ()))
     (some ((ByteArray.mk (List.toArray ([] : (List UInt8)))), ()))))) := (Einf_call Go.Proofs.C14.ctx 25 _).trans (by kernel_rfl)
theorem ancepsref14_Explain.f_eq (p0 : Int) : ancepsref14_Explain.f p0 =
  ifB (p0 == (1 : Int))
   (some ((ByteArray.mk (List.toArray ((111 : UInt8) :: ((112 : UInt8) :: ((101 : UInt8) :: ((110 : UInt8) :: ([] : (List UInt8)))))))), ()))
  (ifB (p0 == (2 : Int))
    (some ((ByteArray.mk (List.toArray ((109 : UInt8) :: ((117 : UInt8) :: ((116 : UInt8) :: ((101 : UInt8) :: ((32 : UInt8) :: ((97 : UInt8) :: ((110 : UInt8) :: ((100 : UInt8) :: ((32 : UInt8) :: ((108 : UInt8) :: ((105 : UInt8) :: ((113 : UInt8) :: ((117 : UInt8) :: ((105 : UInt8) :: ((100 : UInt8) :: ([] : (List UInt8))))))))))))))))))), ()))
   (ifB (p0 == (3 : Int))
     (some ((ByteArray.mk (List.toArray ((110 : UInt8) :: ((101 : UInt8) :: ((120 : UInt8) :: ((116 : UInt8) :: ((32 : UInt8) :: ((109 : UInt8) :: ((117 : UInt8) :: ((116 : UInt8) :: ((101 : UInt8) :: ((32 : UInt8) :: ((97 : UInt8) :: ((110 : UInt8) :: ((100 : UInt8) :: ((32 : UInt8) :: ((108 : UInt8) :: ((105 : UInt8) :: ((113 : UInt8) :: ((117 : UInt8) :: ((105 : UInt8) :: ((100 : UInt8) :: ([] : (List UInt8)))))))))))))))))))))))), ()))
    (ifB (p0 == (4 : Int))
      (some ((ByteArray.mk (List.toArray ((99 : UInt8) :: ((108 : UInt8) :: ((111 : UInt8) :: ((115 : UInt8) :: ((101 : UInt8) :: ((100 : UInt8) :: ([] : (List UInt8)))))))))), ()))
     (some ((ByteArray.mk (List.toArray ([] : (List UInt8)))), ()))))) := (Einf_call Go.Proofs.C14.ctx 26 _).trans (by kernel_rfl)
theorem cluster_Join.f_eq (p0 : (List (Int × (Int × ByteArray)))) (p1 : (List Int)) (p2 : (List (Int × (Int × ByteArray)))) (p3 : (List Int)) : cluster_Join.f p0 p1 p2 p3 =
  bindD (cluster_Valid.f p0 p1) fun t126 =>
  ifB (t126.1 != (0 : Int))
   (some (([] : (List (Int × (Int × ByteArray)))), (([] : (List Int)), (t126.1, ()))))
  (bindD (cluster_Valid.f p2 p3) fun t127 =>
   ifB (t127.1 != (0 : Int))
    (some (([] : (List (Int × (Int × ByteArray)))), (([] : (List Int)), (t127.1, ()))))
   (ifB (decide ((Go.IntKind.wrap Go.IntKind.i64 ((((List.length p0) : Nat) : Int) + (((List.length p2) : Nat) : Int))) > (12 : Int)))
     (some (([] : (List (Int × (Int × ByteArray)))), (([] : (List Int)), ((3 : Int), ()))))
    (ifB (decide ((Go.IntKind.wrap Go.IntKind.i64 ((((List.length p1) : Nat) : Int) + (((List.length p3) : Nat) : Int))) > (12 : Int)))
      (some (([] : (List (Int × (Int × ByteArray)))), (([] : (List Int)), ((3 : Int), ()))))
     (bindD (api_Sound_47.f (p0 :: (p2 :: ([] : (List (List (Int × (Int × ByteArray)))))))) fun t128 =>
      bindD (slices_Clone_int_int.f p1) fun t129 =>
      cluster_Join.l11 p3 (((List.length p3) : Nat) : Int) (0 : Int) p0 p1 ([] : (List (Int × (Int × ByteArray)))) ([] : (List Int)) t128.1 t129.1)))) := (Einf_call Go.Proofs.C14.ctx 27 _).trans (by kernel_rfl)
theorem ancepsref14_Join.f_eq (p0 : (List (Int × (Int × ByteArray)))) (p1 : (List Int)) (p2 : (List (Int × (Int × ByteArray)))) (p3 : (List Int)) : ancepsref14_Join.f p0 p1 p2 p3 =
  bindD (ancepsref14_Valid.f p0 p1) fun t130 =>
  ifB (t130.1 != (0 : Int))
   (some (([] : (List (Int × (Int × ByteArray)))), (([] : (List Int)), (t130.1, ()))))
  (bindD (ancepsref14_Valid.f p2 p3) fun t131 =>
   ifB (t131.1 != (0 : Int))
    (some (([] : (List (Int × (Int × ByteArray)))), (([] : (List Int)), (t131.1, ()))))
   (ifB (decide ((Go.IntKind.wrap Go.IntKind.i64 ((((List.length p0) : Nat) : Int) + (((List.length p2) : Nat) : Int))) > (12 : Int)))
     (some (([] : (List (Int × (Int × ByteArray)))), (([] : (List Int)), ((3 : Int), ()))))
    (ifB (decide ((Go.IntKind.wrap Go.IntKind.i64 ((((List.length p1) : Nat) : Int) + (((List.length p3) : Nat) : Int))) > (12 : Int)))
      (some (([] : (List (Int × (Int × ByteArray)))), (([] : (List Int)), ((3 : Int), ()))))
     (bindD ((Go.Proofs.R.grow ((List.length ([] : (List (Int × (Int × ByteArray))))) + (List.length p0)))) fun t132 =>
      bindD ((Go.Proofs.R.grow ((List.length (([] : (List (Int × (Int × ByteArray)))) ++ p0)) + (List.length p2)))) fun t133 =>
      bindD ((Go.Proofs.R.grow ((List.length ([] : (List Int))) + (List.length p1)))) fun t134 =>
      ancepsref14_Join.l11 (0 : Int) p0 p1 p2 p3 ([] : (List (Int × (Int × ByteArray)))) ([] : (List Int)) ((([] : (List (Int × (Int × ByteArray)))) ++ p0) ++ p2) (([] : (List Int)) ++ p1))))) := (Einf_call Go.Proofs.C14.ctx 28 _).trans (by kernel_rfl)
theorem ancepsref14_Same.f_eq (p0 : (List (Int × (Int × ByteArray)))) (p1 : (List Int)) (p2 : (List (Int × (Int × ByteArray)))) (p3 : (List Int)) : ancepsref14_Same.f p0 p1 p2 p3 =
  bindD (ancepsref14_Compare.f p0 p1 p2 p3) fun t135 =>
  some ((t135.1 == (0 : Int)), ()) := (Einf_call Go.Proofs.C14.ctx 29 _).trans (by kernel_rfl)
theorem cluster_Split.f_eq (p0 : (List (Int × (Int × ByteArray)))) (p1 : (List Int)) (p2 : Int) : cluster_Split.f p0 p1 p2 =
  bindD (cluster_Valid.f p0 p1) fun t136 =>
  ifB (t136.1 != (0 : Int))
   (some (([] : (List (Int × (Int × ByteArray)))), (([] : (List Int)), (([] : (List (Int × (Int × ByteArray)))), (([] : (List Int)), (t136.1, ()))))))
  (ifB (decide (p2 < (0 : Int)))
    (some (([] : (List (Int × (Int × ByteArray)))), (([] : (List Int)), (([] : (List (Int × (Int × ByteArray)))), (([] : (List Int)), ((6 : Int), ()))))))
   (ifB (decide (p2 > (((List.length p0) : Nat) : Int)))
     (some (([] : (List (Int × (Int × ByteArray)))), (([] : (List Int)), (([] : (List (Int × (Int × ByteArray)))), (([] : (List Int)), ((6 : Int), ()))))))
    (bindD ((subL p0 (0 : Int) p2)) fun t137 =>
     bindD (api_Sound.f t137) fun t138 =>
     bindD ((subL p0 p2 (((List.length p0) : Nat) : Int))) fun t139 =>
     bindD (api_Sound.f t139) fun t140 =>
     cluster_Split.l8 p2 p1 (((List.length p1) : Nat) : Int) (0 : Int) ([] : (List (Int × (Int × ByteArray)))) ([] : (List Int)) ([] : (List (Int × (Int × ByteArray)))) ([] : (List Int)) t138.1 ([] : (List Int)) t140.1 ([] : (List Int))))) := (Einf_call Go.Proofs.C14.ctx 30 _).trans (by kernel_rfl)
theorem ancepsref14_Split.f_eq (p0 : (List (Int × (Int × ByteArray)))) (p1 : (List Int)) (p2 : Int) : ancepsref14_Split.f p0 p1 p2 =
  bindD (ancepsref14_Valid.f p0 p1) fun t141 =>
  ifB (t141.1 != (0 : Int))
   (some (([] : (List (Int × (Int × ByteArray)))), (([] : (List Int)), (([] : (List (Int × (Int × ByteArray)))), (([] : (List Int)), (t141.1, ()))))))
  (ifB (decide (p2 < (0 : Int)))
    (some (([] : (List (Int × (Int × ByteArray)))), (([] : (List Int)), (([] : (List (Int × (Int × ByteArray)))), (([] : (List Int)), ((6 : Int), ()))))))
   (ifB (decide (p2 > (((List.length p0) : Nat) : Int)))
     (some (([] : (List (Int × (Int × ByteArray)))), (([] : (List Int)), (([] : (List (Int × (Int × ByteArray)))), (([] : (List Int)), ((6 : Int), ()))))))
    (bindD ((subL p0 (0 : Int) p2)) fun t142 =>
     bindD ((Go.Proofs.R.grow ((List.length ([] : (List (Int × (Int × ByteArray))))) + (List.length t142)))) fun t143 =>
     bindD ((subL p0 p2 (((List.length p0) : Nat) : Int))) fun t144 =>
     bindD ((Go.Proofs.R.grow ((List.length ([] : (List (Int × (Int × ByteArray))))) + (List.length t144)))) fun t145 =>
     ancepsref14_Split.l9 p2 (0 : Int) p0 p1 ([] : (List (Int × (Int × ByteArray)))) ([] : (List Int)) ([] : (List (Int × (Int × ByteArray)))) ([] : (List Int)) (([] : (List (Int × (Int × ByteArray)))) ++ t142) ([] : (List Int)) (([] : (List (Int × (Int × ByteArray)))) ++ t144) ([] : (List Int))))) := (Einf_call Go.Proofs.C14.ctx 31 _).trans (by kernel_rfl)
theorem cluster_Compare.f_eq (p0 : (List (Int × (Int × ByteArray)))) (p1 : (List Int)) (p2 : (List (Int × (Int × ByteArray)))) (p3 : (List Int)) : cluster_Compare.f p0 p1 p2 p3 =
  bindD (api_Sound_49.f p0 p2) fun t146 =>
  bindD (slices_Compare_int_int.f p1 p3) fun t147 =>
  bindD (cmp_Or_int.f (t146.1 :: (t147.1 :: ([] : (List Int))))) fun t148 =>
  some (t148.1, ()) := (Einf_call Go.Proofs.C14.ctx 32 _).trans (by kernel_rfl)
theorem ancepsref14_Compare.f_eq (p0 : (List (Int × (Int × ByteArray)))) (p1 : (List Int)) (p2 : (List (Int × (Int × ByteArray)))) (p3 : (List Int)) : ancepsref14_Compare.f p0 p1 p2 p3 =
  ancepsref14_Compare.l2 (0 : Int) p0 p1 p2 p3 := (Einf_call Go.Proofs.C14.ctx 33 _).trans (by kernel_rfl)
theorem ancepsref11_Few.f_eq (p0 : (List (Int × (Int × ByteArray)))) (p1 : Int) : ancepsref11_Few.f p0 p1 =
  ifB (decide ((((List.length p0) : Nat) : Int) > p1))
   (some (false, ()))
  (ancepsref11_Few.l4 p0 (0 : Int)) := (Einf_call Go.Proofs.C14.ctx 34 _).trans (by kernel_rfl)
theorem api_Sound.f_eq (p0 : (List (Int × (Int × ByteArray)))) : api_Sound.f p0 =
  bindD ((Go.Proofs.R.grow (List.length p0))) fun t149 =>
  some (p0, ()) := (Einf_call Go.Proofs.C14.ctx 36 _).trans (by kernel_rfl)
theorem slices_Clone_int_int.f_eq (p0 : (List Int)) : slices_Clone_int_int.f p0 =
  bindD ((Go.Proofs.R.grow (List.length p0))) fun t150 =>
  some (p0, ()) := (Einf_call Go.Proofs.C14.ctx 37 _).trans (by kernel_rfl)
theorem cluster_class.f_eq (p0 : (List (Int × (Int × ByteArray)))) (p1 : (List Int)) : cluster_class.f p0 p1 =
  bindD (sound_Beats.f p0) fun t151 =>
  ifB (decide (t151.1 ≤ (1 : Int)))
   (some ((1 : Int), ()))
  (bindD (cluster_core.f p0 p1) fun t152 =>
   ifB ((((List.length t152.1) : Nat) : Int) != (2 : Int))
    (some ((4 : Int), ()))
   (bindD ((ixAt t152.1 (0 : Int))) fun t153 =>
    bindD ((ixAt t152.1 (0 : Int))) fun t154 =>
    bindD ((ixAt p0 t154)) fun t155 =>
    ifB (t155.1 != (3 : Int))
     (some ((4 : Int), ()))
    (bindD ((ixAt t152.1 (1 : Int))) fun t156 =>
     bindD ((ixAt t152.1 (1 : Int))) fun t157 =>
     bindD ((ixAt p0 t157)) fun t158 =>
     ifB (t158.1 != (4 : Int))
      (some ((4 : Int), ()))
     (ifB ((((List.length p1) : Nat) : Int) == (0 : Int))
       (some ((2 : Int), ()))
      (bindD ((ixAt p1 (0 : Int))) fun t159 =>
       bindD ((ixAt t152.1 (1 : Int))) fun t160 =>
       bindD ((ixAt t152.1 (1 : Int))) fun t161 =>
       ifB (decide (t159 > t161))
        (some ((2 : Int), ()))
       (bindD ((ixAt p1 (Go.IntKind.wrap Go.IntKind.i64 ((((List.length p1) : Nat) : Int) - (1 : Int))))) fun t162 =>
        bindD ((ixAt t152.1 (0 : Int))) fun t163 =>
        bindD ((ixAt t152.1 (0 : Int))) fun t164 =>
        ifB (decide (t162 ≤ t164))
         (some ((3 : Int), ()))
        (some ((4 : Int), ())))))))) := (Einf_call Go.Proofs.C14.ctx 35 _).trans (by kernel_rfl)
theorem ancepsref14_class.f_eq (p0 : (List (Int × (Int × ByteArray)))) (p1 : (List Int)) : ancepsref14_class.f p0 p1 =
  bindD (ancepsref11_Beats.f p0) fun t165 =>
  ifB (decide (t165.1 ≤ (1 : Int)))
   (some ((1 : Int), ()))
  (bindD (ancepsref14_core.f p0 p1) fun t166 =>
   ifB ((((List.length t166.1) : Nat) : Int) != (2 : Int))
    (some ((4 : Int), ()))
   (bindD ((ixAt t166.1 (0 : Int))) fun t167 =>
    bindD ((ixAt t166.1 (0 : Int))) fun t168 =>
    bindD ((ixAt p0 t168)) fun t169 =>
    ifB (t169.1 != (3 : Int))
     (some ((4 : Int), ()))
    (bindD ((ixAt t166.1 (1 : Int))) fun t170 =>
     bindD ((ixAt t166.1 (1 : Int))) fun t171 =>
     bindD ((ixAt p0 t171)) fun t172 =>
     ifB (t172.1 != (4 : Int))
      (some ((4 : Int), ()))
     (ancepsref14_class.l8 true (decide ((((List.length p1) : Nat) : Int) > (0 : Int))) (0 : Int) p0 p1 t166.1)))) := (Einf_call Go.Proofs.C14.ctx 38 _).trans (by kernel_rfl)
theorem cluster_core.f_eq (p0 : (List (Int × (Int × ByteArray)))) (p1 : (List Int)) : cluster_core.f p0 p1 =
  cluster_core.l3 p0 (((List.length p0) : Nat) : Int) (0 : Int) ([] : (List Int)) := (Einf_call Go.Proofs.C14.ctx 39 _).trans (by kernel_rfl)
theorem ancepsref14_core.f_eq (p0 : (List (Int × (Int × ByteArray)))) (p1 : (List Int)) : ancepsref14_core.f p0 p1 =
  ancepsref14_core.l3 (0 : Int) p0 p1 ([] : (List Int)) := (Einf_call Go.Proofs.C14.ctx 40 _).trans (by kernel_rfl)
theorem cluster_Valid.l4_eq (p0 : (List (Int × (Int × ByteArray)))) (p1 : Int) (p2 : Int) (p3 : (List (Int × (Int × ByteArray)))) (p4 : (List Int)) : cluster_Valid.l4 p0 p1 p2 p3 p4 =
  ifB (decide (p2 < p1))
   (bindD ((ixAt p0 p2)) fun t173 =>
   bindD (sound_Valid.f t173.1 t173.2.1 t173.2.2) fun t174 =>
   ifB (t174.1 != (0 : Int))
    (some (t174.1, ()))
   (bindD (sound_Nucleus.f t173.1 t173.2.1 t173.2.2) fun t175 =>
    ifB t175.1
     (some ((1 : Int), ()))
    (cluster_Valid.l4 p0 p1 (Go.IntKind.wrap Go.IntKind.i64 (p2 + (1 : Int))) p3 p4)))
  (cluster_Valid.l14 (0 : Int) p4 (((List.length p4) : Nat) : Int) (0 : Int) p3 p4) := (loopAt_step Go.Proofs.C14.ctx 18 4 _).trans (by kernel_rfl)
theorem ancepsref14_Valid.l4_eq (p0 : Int) (p1 : (List (Int × (Int × ByteArray)))) (p2 : (List Int)) : ancepsref14_Valid.l4 p0 p1 p2 =
  ifB (decide (p0 < (((List.length p1) : Nat) : Int)))
   (bindD ((ixAt p1 p0)) fun t176 =>
   bindD (ancepsref11_Valid.f t176.1 t176.2.1 t176.2.2) fun t177 =>
   ifB (t177.1 != (0 : Int))
    (some (t177.1, ()))
   (bindD ((ixAt p1 p0)) fun t178 =>
    bindD (ancepsref11_Nucleus.f t178.1 t178.2.1 t178.2.2) fun t179 =>
    ifB t179.1
     (some ((1 : Int), ()))
    (ancepsref14_Valid.l4 (Go.IntKind.wrap Go.IntKind.i64 (p0 + (1 : Int))) p1 p2)))
  (ancepsref14_Valid.l12 (0 : Int) p1 p2) := (loopAt_step Go.Proofs.C14.ctx 19 4 _).trans (by kernel_rfl)
theorem ancepsref14_Made.l4_eq (p0 : Int) (p1 : (List Int)) (p2 : Int) (p3 : (List (Int × (Int × ByteArray)))) (p4 : (List (Int × (Int × ByteArray)))) (p5 : (List Int)) (p6 : (List (Int × (Int × ByteArray)))) (p7 : (List Int)) : ancepsref14_Made.l4 p0 p1 p2 p3 p4 p5 p6 p7 =
  ifB (decide (p0 < (((List.length p1) : Nat) : Int)))
   (ifB (decide (p0 < (6 : Int)))
    (bindD ((ixAt p1 p0)) fun t180 =>
    ifB ((((List.length p3) : Nat) : Int) == (0 : Int))
     (none)
    (bindD ((ixAt p3 (Int.tmod (Go.IntKind.wrap Go.IntKind.i64 t180) (((List.length p3) : Nat) : Int)))) fun t181 =>
     bindD ((ixAt p3 (Int.tmod (Go.IntKind.wrap Go.IntKind.i64 t180) (((List.length p3) : Nat) : Int)))) fun t182 =>
     bindD ((Go.Proofs.R.grow ((List.length p6) + (List.length ((t182.1, (t182.2.1, t182.2.2)) :: ([] : (List (Int × (Int × ByteArray))))))))) fun t183 =>
     ancepsref14_Made.l4 (Go.IntKind.wrap Go.IntKind.i64 (p0 + (1 : Int))) p1 p2 p3 p4 p5 (p6 ++ ((t182.1, (t182.2.1, t182.2.2)) :: ([] : (List (Int × (Int × ByteArray)))))) p7))
   (ancepsref14_Made.l8 (0 : Int) p1 p2 p4 p5 p6 p7))
  (ancepsref14_Made.l8 (0 : Int) p1 p2 p4 p5 p6 p7) := (loopAt_step Go.Proofs.C14.ctx 20 4 _).trans (by kernel_rfl)
theorem sound_Beats.l3_eq (p0 : Int) (p1 : (List (Int × (Int × ByteArray)))) (p2 : Int) (p3 : Int) : sound_Beats.l3 p0 p1 p2 p3 =
  ifB (decide (p3 < p2))
   (bindD ((ixAt p1 p3)) fun t184 =>
   bindD (sound_beats.f t184.1 t184.2.1 t184.2.2) fun t185 =>
   sound_Beats.l3 (Go.IntKind.wrap Go.IntKind.i64 (p0 + t185.1)) p1 p2 (Go.IntKind.wrap Go.IntKind.i64 (p3 + (1 : Int))))
  (some (p0, ())) := (loopAt_step Go.Proofs.C14.ctx 21 3 _).trans (by kernel_rfl)
theorem cluster_Core.l6_eq (p0 : Int) (p1 : Int) (p2 : (List (Int × (Int × ByteArray)))) (p3 : (List Int)) (p4 : (List (Int × (Int × ByteArray)))) (p5 : (List Int)) : cluster_Core.l6 p0 p1 p2 p3 p4 p5 =
  ifB (decide (p1 < p0))
   (bindD ((ixAt p5 p1)) fun t186 =>
   bindD ((ixAt p5 p1)) fun t187 =>
   bindD ((ixAt p2 t187)) fun t188 =>
   bindD ((Go.Proofs.R.grow ((List.length p4) + (List.length ((t188.1, (t188.2.1, t188.2.2)) :: ([] : (List (Int × (Int × ByteArray))))))))) fun t189 =>
   cluster_Core.l6 p0 (Go.IntKind.wrap Go.IntKind.i64 (p1 + (1 : Int))) p2 p3 (p4 ++ ((t188.1, (t188.2.1, t188.2.2)) :: ([] : (List (Int × (Int × ByteArray)))))) p5)
  (some (p4, ((0 : Int), ()))) := (loopAt_step Go.Proofs.C14.ctx 22 6 _).trans (by kernel_rfl)
theorem ancepsref14_Core.l7_eq (p0 : Int) (p1 : (List (Int × (Int × ByteArray)))) (p2 : (List Int)) (p3 : (List Int)) (p4 : (List (Int × (Int × ByteArray)))) : ancepsref14_Core.l7 p0 p1 p2 p3 p4 =
  ifB (decide (p0 < (((List.length p3) : Nat) : Int)))
   (bindD ((ixAt p3 p0)) fun t190 =>
   bindD ((ixAt p3 p0)) fun t191 =>
   bindD ((ixAt p1 t191)) fun t192 =>
   bindD ((Go.Proofs.R.grow ((List.length p4) + (List.length ((t192.1, (t192.2.1, t192.2.2)) :: ([] : (List (Int × (Int × ByteArray))))))))) fun t193 =>
   ancepsref14_Core.l7 (Go.IntKind.wrap Go.IntKind.i64 (p0 + (1 : Int))) p1 p2 p3 (p4 ++ ((t192.1, (t192.2.1, t192.2.2)) :: ([] : (List (Int × (Int × ByteArray)))))))
  (some (p4, ((0 : Int), ()))) := (loopAt_step Go.Proofs.C14.ctx 23 7 _).trans (by kernel_rfl)
theorem ancepsref11_Same.l4_eq (p0 : (List (Int × (Int × ByteArray)))) (p1 : (List (Int × (Int × ByteArray)))) (p2 : Int) : ancepsref11_Same.l4 p0 p1 p2 =
  ifB (decide (p2 < (((List.length p0) : Nat) : Int)))
   (bindD ((ixAt p0 p2)) fun t194 =>
   bindD ((ixAt p1 p2)) fun t195 =>
   bindD (ancepsref11_Compare.f t194.1 t194.2.1 t194.2.2 t195.1 t195.2.1 t195.2.2) fun t196 =>
   ifB (t196.1 != (0 : Int))
    (some (false, ()))
   (ancepsref11_Same.l4 p0 p1 (Go.IntKind.wrap Go.IntKind.i64 (p2 + (1 : Int)))))
  (some (true, ())) := (loopAt_step Go.Proofs.C14.ctx 24 4 _).trans (by kernel_rfl)
theorem api_Sound_47.f_eq (p0 : (List (List (Int × (Int × ByteArray))))) : api_Sound_47.f p0 =
  api_Sound_47.l3 p0 (0 : Int) p0 (((List.length p0) : Nat) : Int) (0 : Int) := (Einf_call Go.Proofs.C14.ctx 47 _).trans (by kernel_rfl)
theorem cluster_Join.l11_eq (p0 : (List Int)) (p1 : Int) (p2 : Int) (p3 : (List (Int × (Int × ByteArray)))) (p4 : (List Int)) (p5 : (List (Int × (Int × ByteArray)))) (p6 : (List Int)) (p7 : (List (Int × (Int × ByteArray)))) (p8 : (List Int)) : cluster_Join.l11 p0 p1 p2 p3 p4 p5 p6 p7 p8 =
  ifB (decide (p2 < p1))
   (bindD ((ixAt p0 p2)) fun t197 =>
   bindD ((Go.Proofs.R.grow ((List.length p8) + (List.length ((Go.IntKind.wrap Go.IntKind.i64 (t197 + (((List.length p3) : Nat) : Int))) :: ([] : (List Int))))))) fun t198 =>
   cluster_Join.l11 p0 p1 (Go.IntKind.wrap Go.IntKind.i64 (p2 + (1 : Int))) p3 p4 p5 p6 p7 (p8 ++ ((Go.IntKind.wrap Go.IntKind.i64 (t197 + (((List.length p3) : Nat) : Int))) :: ([] : (List Int)))))
  (some (p7, (p8, ((0 : Int), ())))) := (loopAt_step Go.Proofs.C14.ctx 27 11 _).trans (by kernel_rfl)
theorem ancepsref14_Join.l11_eq (p0 : Int) (p1 : (List (Int × (Int × ByteArray)))) (p2 : (List Int)) (p3 : (List (Int × (Int × ByteArray)))) (p4 : (List Int)) (p5 : (List (Int × (Int × ByteArray)))) (p6 : (List Int)) (p7 : (List (Int × (Int × ByteArray)))) (p8 : (List Int)) : ancepsref14_Join.l11 p0 p1 p2 p3 p4 p5 p6 p7 p8 =
  ifB (decide (p0 < (((List.length p4) : Nat) : Int)))
   (bindD ((ixAt p4 p0)) fun t199 =>
   bindD ((Go.Proofs.R.grow ((List.length p8) + (List.length ((Go.IntKind.wrap Go.IntKind.i64 (t199 + (((List.length p1) : Nat) : Int))) :: ([] : (List Int))))))) fun t200 =>
   ancepsref14_Join.l11 (Go.IntKind.wrap Go.IntKind.i64 (p0 + (1 : Int))) p1 p2 p3 p4 p5 p6 p7 (p8 ++ ((Go.IntKind.wrap Go.IntKind.i64 (t199 + (((List.length p1) : Nat) : Int))) :: ([] : (List Int)))))
  (some (p7, (p8, ((0 : Int), ())))) := (loopAt_step Go.Proofs.C14.ctx 28 11 _).trans (by kernel_rfl)
theorem cluster_Split.l8_eq (p0 : Int) (p1 : (List Int)) (p2 : Int) (p3 : Int) (p4 : (List (Int × (Int × ByteArray)))) (p5 : (List Int)) (p6 : (List (Int × (Int × ByteArray)))) (p7 : (List Int)) (p8 : (List (Int × (Int × ByteArray)))) (p9 : (List Int)) (p10 : (List (Int × (Int × ByteArray)))) (p11 : (List Int)) : cluster_Split.l8 p0 p1 p2 p3 p4 p5 p6 p7 p8 p9 p10 p11 =
  ifB (decide (p3 < p2))
   (bindD ((ixAt p1 p3)) fun t201 =>
   ifB (decide (t201 ≤ p0))
    (bindD ((Go.Proofs.R.grow ((List.length p9) + (List.length (t201 :: ([] : (List Int))))))) fun t202 =>
    cluster_Split.l8 p0 p1 p2 (Go.IntKind.wrap Go.IntKind.i64 (p3 + (1 : Int))) p4 p5 p6 p7 p8 (p9 ++ (t201 :: ([] : (List Int)))) p10 p11)
   (bindD ((Go.Proofs.R.grow ((List.length p11) + (List.length ((Go.IntKind.wrap Go.IntKind.i64 (t201 - p0)) :: ([] : (List Int))))))) fun t203 =>
    cluster_Split.l8 p0 p1 p2 (Go.IntKind.wrap Go.IntKind.i64 (p3 + (1 : Int))) p4 p5 p6 p7 p8 p9 p10 (p11 ++ ((Go.IntKind.wrap Go.IntKind.i64 (t201 - p0)) :: ([] : (List Int))))))
  (some (p8, (p9, (p10, (p11, ((0 : Int), ())))))) := (loopAt_step Go.Proofs.C14.ctx 30 8 _).trans (by kernel_rfl)
theorem ancepsref14_Split.l9_eq (p0 : Int) (p1 : Int) (p2 : (List (Int × (Int × ByteArray)))) (p3 : (List Int)) (p4 : (List (Int × (Int × ByteArray)))) (p5 : (List Int)) (p6 : (List (Int × (Int × ByteArray)))) (p7 : (List Int)) (p8 : (List (Int × (Int × ByteArray)))) (p9 : (List Int)) (p10 : (List (Int × (Int × ByteArray)))) (p11 : (List Int)) : ancepsref14_Split.l9 p0 p1 p2 p3 p4 p5 p6 p7 p8 p9 p10 p11 =
  ifB (decide (p1 < (((List.length p3) : Nat) : Int)))
   (bindD ((ixAt p3 p1)) fun t204 =>
   ifB (decide (t204 ≤ p0))
    (bindD ((ixAt p3 p1)) fun t205 =>
    bindD ((Go.Proofs.R.grow ((List.length p9) + (List.length (t205 :: ([] : (List Int))))))) fun t206 =>
    ancepsref14_Split.l9 p0 (Go.IntKind.wrap Go.IntKind.i64 (p1 + (1 : Int))) p2 p3 p4 p5 p6 p7 p8 (p9 ++ (t205 :: ([] : (List Int)))) p10 p11)
   (bindD ((ixAt p3 p1)) fun t207 =>
    bindD ((Go.Proofs.R.grow ((List.length p11) + (List.length ((Go.IntKind.wrap Go.IntKind.i64 (t207 - p0)) :: ([] : (List Int))))))) fun t208 =>
    ancepsref14_Split.l9 p0 (Go.IntKind.wrap Go.IntKind.i64 (p1 + (1 : Int))) p2 p3 p4 p5 p6 p7 p8 p9 p10 (p11 ++ ((Go.IntKind.wrap Go.IntKind.i64 (t207 - p0)) :: ([] : (List Int))))))
  (some (p8, (p9, (p10, (p11, ((0 : Int), ())))))) := (loopAt_step Go.Proofs.C14.ctx 31 9 _).trans (by kernel_rfl)
theorem api_Sound_49.f_eq (p0 : (List (Int × (Int × ByteArray)))) (p1 : (List (Int × (Int × ByteArray)))) : api_Sound_49.f p0 p1 =
  api_Sound_49.l2 p0 p1 p0 (((List.length p0) : Nat) : Int) (0 : Int) := (Einf_call Go.Proofs.C14.ctx 49 _).trans (by kernel_rfl)
theorem slices_Compare_int_int.f_eq (p0 : (List Int)) (p1 : (List Int)) : slices_Compare_int_int.f p0 p1 =
  slices_Compare_int_int.l2 p0 p1 p0 (((List.length p0) : Nat) : Int) (0 : Int) := (Einf_call Go.Proofs.C14.ctx 51 _).trans (by kernel_rfl)
theorem cmp_Or_int.f_eq (p0 : (List Int)) : cmp_Or_int.f p0 =
  cmp_Or_int.l3 (0 : Int) p0 (((List.length p0) : Nat) : Int) (0 : Int) := (Einf_call Go.Proofs.C14.ctx 48 _).trans (by kernel_rfl)
theorem ancepsref14_Compare.l2_eq (p0 : Int) (p1 : (List (Int × (Int × ByteArray)))) (p2 : (List Int)) (p3 : (List (Int × (Int × ByteArray)))) (p4 : (List Int)) : ancepsref14_Compare.l2 p0 p1 p2 p3 p4 =
  ifB (decide (p0 < (((List.length p1) : Nat) : Int)))
   (ifB (decide (p0 < (((List.length p3) : Nat) : Int)))
    (bindD ((ixAt p1 p0)) fun t209 =>
    bindD ((ixAt p3 p0)) fun t210 =>
    bindD (ancepsref11_Compare.f t209.1 t209.2.1 t209.2.2 t210.1 t210.2.1 t210.2.2) fun t211 =>
    ifB (t211.1 != (0 : Int))
     (some (t211.1, ()))
    (ancepsref14_Compare.l2 (Go.IntKind.wrap Go.IntKind.i64 (p0 + (1 : Int))) p1 p2 p3 p4))
   (bindD (ancepsref14_order.f (((List.length p1) : Nat) : Int) (((List.length p3) : Nat) : Int)) fun t212 =>
    ifB (t212.1 != (0 : Int))
     (some (t212.1, ()))
    (ancepsref14_Compare.l11 (0 : Int) p1 p2 p3 p4)))
  (bindD (ancepsref14_order.f (((List.length p1) : Nat) : Int) (((List.length p3) : Nat) : Int)) fun t213 =>
   ifB (t213.1 != (0 : Int))
    (some (t213.1, ()))
   (ancepsref14_Compare.l11 (0 : Int) p1 p2 p3 p4)) := (loopAt_step Go.Proofs.C14.ctx 33 2 _).trans (by kernel_rfl)
theorem ancepsref11_Few.l4_eq (p0 : (List (Int × (Int × ByteArray)))) (p1 : Int) : ancepsref11_Few.l4 p0 p1 =
  ifB (decide (p1 < (((List.length p0) : Nat) : Int)))
   (bindD ((ixAt p0 p1)) fun t214 =>
   ifB (decide ((((ByteArray.size t214.2.2) : Nat) : Int) > (40 : Int)))
    (some (false, ()))
   (ancepsref11_Few.l4 p0 (Go.IntKind.wrap Go.IntKind.i64 (p1 + (1 : Int)))))
  (some (true, ())) := (loopAt_step Go.Proofs.C14.ctx 34 4 _).trans (by kernel_rfl)
theorem ancepsref11_Beats.f_eq (p0 : (List (Int × (Int × ByteArray)))) : ancepsref11_Beats.f p0 =
  ancepsref11_Beats.l3 p0 (0 : Int) (0 : Int) := (Einf_call Go.Proofs.C14.ctx 53 _).trans (by kernel_rfl)
theorem ancepsref14_class.l8_eq (p0 : Bool) (p1 : Bool) (p2 : Int) (p3 : (List (Int × (Int × ByteArray)))) (p4 : (List Int)) (p5 : (List Int)) : ancepsref14_class.l8 p0 p1 p2 p3 p4 p5 =
  ifB (decide (p2 < (((List.length p4) : Nat) : Int)))
   (ifB p0
    (bindD ((ixAt p4 p2)) fun t215 =>
    bindD ((ixAt p5 (1 : Int))) fun t216 =>
    bindD ((ixAt p5 (1 : Int))) fun t217 =>
    ifB p1
     (bindD ((ixAt p4 p2)) fun t218 =>
     bindD ((ixAt p5 (0 : Int))) fun t219 =>
     bindD ((ixAt p5 (0 : Int))) fun t220 =>
     ancepsref14_class.l8 (decide (t215 > t217)) (decide (t218 ≤ t220)) (Go.IntKind.wrap Go.IntKind.i64 (p2 + (1 : Int))) p3 p4 p5)
    (ancepsref14_class.l8 (decide (t215 > t217)) false (Go.IntKind.wrap Go.IntKind.i64 (p2 + (1 : Int))) p3 p4 p5))
   (ifB p1
     (bindD ((ixAt p4 p2)) fun t221 =>
     bindD ((ixAt p5 (0 : Int))) fun t222 =>
     bindD ((ixAt p5 (0 : Int))) fun t223 =>
     ancepsref14_class.l8 false (decide (t221 ≤ t223)) (Go.IntKind.wrap Go.IntKind.i64 (p2 + (1 : Int))) p3 p4 p5)
    (ancepsref14_class.l8 false false (Go.IntKind.wrap Go.IntKind.i64 (p2 + (1 : Int))) p3 p4 p5)))
  (ifB p0
    (some ((2 : Int), ()))
   (ifB p1
     (some ((3 : Int), ()))
    (some ((4 : Int), ())))) := (loopAt_step Go.Proofs.C14.ctx 38 8 _).trans (by kernel_rfl)
theorem cluster_core.l3_eq (p0 : (List (Int × (Int × ByteArray)))) (p1 : Int) (p2 : Int) (p3 : (List Int)) : cluster_core.l3 p0 p1 p2 p3 =
  ifB (decide (p2 < p1))
   (bindD ((ixAt p0 p2)) fun t224 =>
   ifB (t224.1 != (9 : Int))
    (bindD ((Go.Proofs.R.grow ((List.length p3) + (List.length (p2 :: ([] : (List Int))))))) fun t225 =>
    cluster_core.l3 p0 p1 (Go.IntKind.wrap Go.IntKind.i64 (p2 + (1 : Int))) (p3 ++ (p2 :: ([] : (List Int)))))
   (cluster_core.l3 p0 p1 (Go.IntKind.wrap Go.IntKind.i64 (p2 + (1 : Int))) p3))
  (some (p3, ())) := (loopAt_step Go.Proofs.C14.ctx 39 3 _).trans (by kernel_rfl)
theorem ancepsref14_core.l3_eq (p0 : Int) (p1 : (List (Int × (Int × ByteArray)))) (p2 : (List Int)) (p3 : (List Int)) : ancepsref14_core.l3 p0 p1 p2 p3 =
  ifB (decide (p0 < (((List.length p1) : Nat) : Int)))
   (bindD ((ixAt p1 p0)) fun t226 =>
   ifB (t226.1 != (9 : Int))
    (bindD ((Go.Proofs.R.grow ((List.length p3) + (List.length (p0 :: ([] : (List Int))))))) fun t227 =>
    ancepsref14_core.l3 (Go.IntKind.wrap Go.IntKind.i64 (p0 + (1 : Int))) p1 p2 (p3 ++ (p0 :: ([] : (List Int)))))
   (ancepsref14_core.l3 (Go.IntKind.wrap Go.IntKind.i64 (p0 + (1 : Int))) p1 p2 p3))
  (some (p3, ())) := (loopAt_step Go.Proofs.C14.ctx 40 3 _).trans (by kernel_rfl)
theorem sound_Valid.f_eq (p0 : Int) (p1 : Int) (p2 : ByteArray) : sound_Valid.f p0 p1 p2 =
  ifB (decide (p0 < (1 : Int)))
   (some ((1 : Int), ()))
  (ifB (decide (p0 > (9 : Int)))
    (some ((1 : Int), ()))
   (bindD (sound_quantity.f p0 p1 p2) fun t228 =>
    ifB (!t228.1)
     (some ((6 : Int), ()))
    (ifB ((ByteArray.toList p2) == (ByteArray.toList (ByteArray.mk (List.toArray ([] : (List UInt8))))))
      (some ((7 : Int), ()))
     (ifB (decide ((((ByteArray.size p2) : Nat) : Int) > (8 : Int)))
       (some ((3 : Int), ()))
      (bindD (strings_ContainsFunc.f p2) fun t229 =>
       ifB t229.1
        (some ((2 : Int), ()))
       (some ((0 : Int), ()))))))) := (Einf_call Go.Proofs.C14.ctx 41 _).trans (by kernel_rfl)
theorem sound_Nucleus.f_eq (p0 : Int) (p1 : Int) (p2 : ByteArray) : sound_Nucleus.f p0 p1 p2 =
  ifB (p0 == (1 : Int))
   (some (true, ()))
  (some ((p0 == (2 : Int)), ())) := (Einf_call Go.Proofs.C14.ctx 42 _).trans (by kernel_rfl)
theorem cluster_Valid.l14_eq (p0 : Int) (p1 : (List Int)) (p2 : Int) (p3 : Int) (p4 : (List (Int × (Int × ByteArray)))) (p5 : (List Int)) : cluster_Valid.l14 p0 p1 p2 p3 p4 p5 =
  ifB (decide (p3 < p2))
   (bindD ((ixAt p1 p3)) fun t230 =>
   ifB (decide (t230 < (0 : Int)))
    (some ((6 : Int), ()))
   (ifB (decide (t230 > (((List.length p4) : Nat) : Int)))
     (some ((6 : Int), ()))
    (ifB (decide (t230 < p0))
      (some ((18 : Int), ()))
     (cluster_Valid.l14 t230 p1 p2 (Go.IntKind.wrap Go.IntKind.i64 (p3 + (1 : Int))) p4 p5))))
  (some ((0 : Int), ())) := (loopAt_step Go.Proofs.C14.ctx 18 14 _).trans (by kernel_rfl)
theorem ancepsref11_Valid.f_eq (p0 : Int) (p1 : Int) (p2 : ByteArray) : ancepsref11_Valid.f p0 p1 p2 =
  ifB (decide (p0 < (1 : Int)))
   (some ((1 : Int), ()))
  (ifB (decide (p0 > (9 : Int)))
    (some ((1 : Int), ()))
   (ifB (p0 == (1 : Int))
     (ifB (decide (p1 ≥ (1 : Int)))
      (ifB (p0 == (2 : Int))
       (ifB (!(p1 == (2 : Int)))
        (some ((6 : Int), ()))
       (ifB ((ByteArray.toList p2) == (ByteArray.toList (ByteArray.mk (List.toArray ([] : (List UInt8))))))
         (some ((7 : Int), ()))
        (ifB (decide ((((ByteArray.size p2) : Nat) : Int) > (8 : Int)))
          (some ((3 : Int), ()))
         (ancepsref11_Valid.l15 (0 : Int) p0 p1 p2))))
      (ifB (!(decide (p1 ≤ (3 : Int))))
        (some ((6 : Int), ()))
       (ifB ((ByteArray.toList p2) == (ByteArray.toList (ByteArray.mk (List.toArray ([] : (List UInt8))))))
         (some ((7 : Int), ()))
        (ifB (decide ((((ByteArray.size p2) : Nat) : Int) > (8 : Int)))
          (some ((3 : Int), ()))
         (ancepsref11_Valid.l15 (0 : Int) p0 p1 p2)))))
     (ifB (p0 == (2 : Int))
       (ifB (!(p1 == (2 : Int)))
        (some ((6 : Int), ()))
       (ifB ((ByteArray.toList p2) == (ByteArray.toList (ByteArray.mk (List.toArray ([] : (List UInt8))))))
         (some ((7 : Int), ()))
        (ifB (decide ((((ByteArray.size p2) : Nat) : Int) > (8 : Int)))
          (some ((3 : Int), ()))
         (ancepsref11_Valid.l15 (0 : Int) p0 p1 p2))))
      (some ((6 : Int), ()))))
    (ifB (p0 == (2 : Int))
      (ifB (!(p1 == (2 : Int)))
       (some ((6 : Int), ()))
      (ifB ((ByteArray.toList p2) == (ByteArray.toList (ByteArray.mk (List.toArray ([] : (List UInt8))))))
        (some ((7 : Int), ()))
       (ifB (decide ((((ByteArray.size p2) : Nat) : Int) > (8 : Int)))
         (some ((3 : Int), ()))
        (ancepsref11_Valid.l15 (0 : Int) p0 p1 p2))))
     (ifB (!(p1 == (0 : Int)))
       (some ((6 : Int), ()))
      (ifB ((ByteArray.toList p2) == (ByteArray.toList (ByteArray.mk (List.toArray ([] : (List UInt8))))))
        (some ((7 : Int), ()))
       (ifB (decide ((((ByteArray.size p2) : Nat) : Int) > (8 : Int)))
         (some ((3 : Int), ()))
        (ancepsref11_Valid.l15 (0 : Int) p0 p1 p2))))))) := (Einf_call Go.Proofs.C14.ctx 43 _).trans (by kernel_rfl)
theorem ancepsref11_Nucleus.f_eq (p0 : Int) (p1 : Int) (p2 : ByteArray) : ancepsref11_Nucleus.f p0 p1 p2 =
  ifB (p0 == (1 : Int))
   (some (true, ()))
  (some ((p0 == (2 : Int)), ())) := (Einf_call Go.Proofs.C14.ctx 44 _).trans (by kernel_rfl)
theorem ancepsref14_Valid.l12_eq (p0 : Int) (p1 : (List (Int × (Int × ByteArray)))) (p2 : (List Int)) : ancepsref14_Valid.l12 p0 p1 p2 =
  ifB (decide (p0 < (((List.length p2) : Nat) : Int)))
   (bindD ((ixAt p2 p0)) fun t231 =>
   ifB (decide (t231 < (0 : Int)))
    (some ((6 : Int), ()))
   (bindD ((ixAt p2 p0)) fun t232 =>
    ifB (decide (t232 > (((List.length p1) : Nat) : Int)))
     (some ((6 : Int), ()))
    (ifB (decide (p0 > (0 : Int)))
      (bindD ((ixAt p2 p0)) fun t233 =>
      bindD ((ixAt p2 (Go.IntKind.wrap Go.IntKind.i64 (p0 - (1 : Int))))) fun t234 =>
      ifB (decide (t233 < t234))
       (some ((18 : Int), ()))
      (ancepsref14_Valid.l12 (Go.IntKind.wrap Go.IntKind.i64 (p0 + (1 : Int))) p1 p2))
     (ancepsref14_Valid.l12 (Go.IntKind.wrap Go.IntKind.i64 (p0 + (1 : Int))) p1 p2))))
  (some ((0 : Int), ())) := (loopAt_step Go.Proofs.C14.ctx 19 12 _).trans (by kernel_rfl)
theorem ancepsref14_Made.l8_eq (p0 : Int) (p1 : (List Int)) (p2 : Int) (p3 : (List (Int × (Int × ByteArray)))) (p4 : (List Int)) (p5 : (List (Int × (Int × ByteArray)))) (p6 : (List Int)) : ancepsref14_Made.l8 p0 p1 p2 p3 p4 p5 p6 =
  ifB (decide (p0 ≤ (((List.length p5) : Nat) : Int)))
   (ifB (decide ((Go.IntKind.wrap Go.IntKind.i64 ((2 : Int) * p0)) < (0 : Int)))
    (none)
   (ifB ((Go.IntKind.wrap Go.IntKind.i64 (Go.Proofs.R.bitsOp Go.BinOp.and Go.IntKind.u32 (Go.Proofs.R.shrInt Go.IntKind.u32 p2 (Go.IntKind.wrap Go.IntKind.i64 ((2 : Int) * p0))) (3 : Int))) == (1 : Int))
     (bindD ((Go.Proofs.R.grow ((List.length p6) + (List.length (p0 :: ([] : (List Int))))))) fun t235 =>
     ifB ((Go.IntKind.wrap Go.IntKind.i64 (Go.Proofs.R.bitsOp Go.BinOp.and Go.IntKind.u32 (Go.Proofs.R.shrInt Go.IntKind.u32 p2 (Go.IntKind.wrap Go.IntKind.i64 ((2 : Int) * p0))) (3 : Int))) == (3 : Int))
      (ifB (decide ((((List.length (p6 ++ (p0 :: ([] : (List Int))))) : Nat) : Int) < (5 : Int)))
       (bindD ((Go.Proofs.R.grow ((List.length (p6 ++ (p0 :: ([] : (List Int))))) + (List.length (p0 :: ([] : (List Int))))))) fun t236 =>
       ancepsref14_Made.l8 (Go.IntKind.wrap Go.IntKind.i64 (p0 + (1 : Int))) p1 p2 p3 p4 p5 ((p6 ++ (p0 :: ([] : (List Int)))) ++ (p0 :: ([] : (List Int)))))
      (ancepsref14_Made.l8 (Go.IntKind.wrap Go.IntKind.i64 (p0 + (1 : Int))) p1 p2 p3 p4 p5 (p6 ++ (p0 :: ([] : (List Int))))))
     (ancepsref14_Made.l8 (Go.IntKind.wrap Go.IntKind.i64 (p0 + (1 : Int))) p1 p2 p3 p4 p5 (p6 ++ (p0 :: ([] : (List Int))))))
    (ifB ((Go.IntKind.wrap Go.IntKind.i64 (Go.Proofs.R.bitsOp Go.BinOp.and Go.IntKind.u32 (Go.Proofs.R.shrInt Go.IntKind.u32 p2 (Go.IntKind.wrap Go.IntKind.i64 ((2 : Int) * p0))) (3 : Int))) == (3 : Int))
      (bindD ((Go.Proofs.R.grow ((List.length p6) + (List.length (p0 :: ([] : (List Int))))))) fun t237 =>
      ifB ((Go.IntKind.wrap Go.IntKind.i64 (Go.Proofs.R.bitsOp Go.BinOp.and Go.IntKind.u32 (Go.Proofs.R.shrInt Go.IntKind.u32 p2 (Go.IntKind.wrap Go.IntKind.i64 ((2 : Int) * p0))) (3 : Int))) == (3 : Int))
       (ifB (decide ((((List.length (p6 ++ (p0 :: ([] : (List Int))))) : Nat) : Int) < (5 : Int)))
        (bindD ((Go.Proofs.R.grow ((List.length (p6 ++ (p0 :: ([] : (List Int))))) + (List.length (p0 :: ([] : (List Int))))))) fun t238 =>
        ancepsref14_Made.l8 (Go.IntKind.wrap Go.IntKind.i64 (p0 + (1 : Int))) p1 p2 p3 p4 p5 ((p6 ++ (p0 :: ([] : (List Int)))) ++ (p0 :: ([] : (List Int)))))
       (ancepsref14_Made.l8 (Go.IntKind.wrap Go.IntKind.i64 (p0 + (1 : Int))) p1 p2 p3 p4 p5 (p6 ++ (p0 :: ([] : (List Int))))))
      (ancepsref14_Made.l8 (Go.IntKind.wrap Go.IntKind.i64 (p0 + (1 : Int))) p1 p2 p3 p4 p5 (p6 ++ (p0 :: ([] : (List Int))))))
     (ifB ((Go.IntKind.wrap Go.IntKind.i64 (Go.Proofs.R.bitsOp Go.BinOp.and Go.IntKind.u32 (Go.Proofs.R.shrInt Go.IntKind.u32 p2 (Go.IntKind.wrap Go.IntKind.i64 ((2 : Int) * p0))) (3 : Int))) == (3 : Int))
       (ifB (decide ((((List.length p6) : Nat) : Int) < (5 : Int)))
        (bindD ((Go.Proofs.R.grow ((List.length p6) + (List.length (p0 :: ([] : (List Int))))))) fun t239 =>
        ancepsref14_Made.l8 (Go.IntKind.wrap Go.IntKind.i64 (p0 + (1 : Int))) p1 p2 p3 p4 p5 (p6 ++ (p0 :: ([] : (List Int)))))
       (ancepsref14_Made.l8 (Go.IntKind.wrap Go.IntKind.i64 (p0 + (1 : Int))) p1 p2 p3 p4 p5 p6))
      (ancepsref14_Made.l8 (Go.IntKind.wrap Go.IntKind.i64 (p0 + (1 : Int))) p1 p2 p3 p4 p5 p6)))))
  (some (p5, (p6, ()))) := (loopAt_step Go.Proofs.C14.ctx 20 8 _).trans (by kernel_rfl)
theorem sound_beats.f_eq (p0 : Int) (p1 : Int) (p2 : ByteArray) : sound_beats.f p0 p1 p2 =
  ifB (p0 == (7 : Int))
   (some ((2 : Int), ()))
  (ifB (decide (p0 ≥ (3 : Int)))
    (ifB (decide (p0 ≤ (8 : Int)))
     (some ((1 : Int), ()))
    (some ((0 : Int), ())))
   (some ((0 : Int), ()))) := (Einf_call Go.Proofs.C14.ctx 45 _).trans (by kernel_rfl)
theorem ancepsref11_Compare.f_eq (p0 : Int) (p1 : Int) (p2 : ByteArray) (p3 : Int) (p4 : Int) (p5 : ByteArray) : ancepsref11_Compare.f p0 p1 p2 p3 p4 p5 =
  bindD (ancepsref11_order.f p0 p3) fun t240 =>
  ifB (t240.1 != (0 : Int))
   (some (t240.1, ()))
  (bindD (ancepsref11_order.f p1 p4) fun t241 =>
   ifB (t241.1 != (0 : Int))
    (some (t241.1, ()))
   (ifB (Go.Op.bytesLess (ByteArray.toList p2) (ByteArray.toList p5))
     (some ((-(1 : Int)), ()))
    (ifB (!((Go.Op.bytesLess (ByteArray.toList p2) (ByteArray.toList p5)) || ((ByteArray.toList p2) == (ByteArray.toList p5))))
      (some ((1 : Int), ()))
     (some ((0 : Int), ()))))) := (Einf_call Go.Proofs.C14.ctx 46 _).trans (by kernel_rfl)
theorem api_Sound_47.l3_eq (p0 : (List (List (Int × (Int × ByteArray))))) (p1 : Int) (p2 : (List (List (Int × (Int × ByteArray))))) (p3 : Int) (p4 : Int) : api_Sound_47.l3 p0 p1 p2 p3 p4 =
  ifB (decide (p4 < p3))
   (bindD ((ixAt p2 p4)) fun t242 =>
   ifB (decide ((Go.IntKind.wrap Go.IntKind.i64 (p1 + (((List.length t242) : Nat) : Int))) < (0 : Int)))
    (none)
   (api_Sound_47.l3 p0 (Go.IntKind.wrap Go.IntKind.i64 (p1 + (((List.length t242) : Nat) : Int))) p2 p3 (Go.IntKind.wrap Go.IntKind.i64 (p4 + (1 : Int)))))
  (ifB (decide (p1 < (0 : Int)))
    (none)
   (bindD ((Go.Proofs.R.grow (Int.toNat p1))) fun t243 =>
    api_Sound_47.l11 p0 (((List.length p0) : Nat) : Int) (0 : Int) ([] : (List (Int × (Int × ByteArray)))))) := (loopAt_step Go.Proofs.C14.ctx 47 3 _).trans (by kernel_rfl)
theorem api_Sound_49.l2_eq (p0 : (List (Int × (Int × ByteArray)))) (p1 : (List (Int × (Int × ByteArray)))) (p2 : (List (Int × (Int × ByteArray)))) (p3 : Int) (p4 : Int) : api_Sound_49.l2 p0 p1 p2 p3 p4 =
  ifB (decide (p4 < p3))
   (bindD ((ixAt p2 p4)) fun t244 =>
   ifB (decide (p4 ≥ (((List.length p1) : Nat) : Int)))
    (some ((1 : Int), ()))
   (bindD ((ixAt p1 p4)) fun t245 =>
    bindD (sound_Compare.f t244.1 t244.2.1 t244.2.2 t245.1 t245.2.1 t245.2.2) fun t246 =>
    ifB (t246.1 != (0 : Int))
     (some (t246.1, ()))
    (api_Sound_49.l2 p0 p1 p2 p3 (Go.IntKind.wrap Go.IntKind.i64 (p4 + (1 : Int))))))
  (ifB (decide ((((List.length p0) : Nat) : Int) < (((List.length p1) : Nat) : Int)))
    (some ((-(1 : Int)), ()))
   (some ((0 : Int), ()))) := (loopAt_step Go.Proofs.C14.ctx 49 2 _).trans (by kernel_rfl)
theorem slices_Compare_int_int.l2_eq (p0 : (List Int)) (p1 : (List Int)) (p2 : (List Int)) (p3 : Int) (p4 : Int) : slices_Compare_int_int.l2 p0 p1 p2 p3 p4 =
  ifB (decide (p4 < p3))
   (bindD ((ixAt p2 p4)) fun t247 =>
   ifB (decide (p4 ≥ (((List.length p1) : Nat) : Int)))
    (some ((1 : Int), ()))
   (bindD ((ixAt p1 p4)) fun t248 =>
    bindD (cmp_Compare_int.f t247 t248) fun t249 =>
    ifB (t249.1 != (0 : Int))
     (some (t249.1, ()))
    (slices_Compare_int_int.l2 p0 p1 p2 p3 (Go.IntKind.wrap Go.IntKind.i64 (p4 + (1 : Int))))))
  (ifB (decide ((((List.length p0) : Nat) : Int) < (((List.length p1) : Nat) : Int)))
    (some ((-(1 : Int)), ()))
   (some ((0 : Int), ()))) := (loopAt_step Go.Proofs.C14.ctx 51 2 _).trans (by kernel_rfl)
theorem cmp_Or_int.l3_eq (p0 : Int) (p1 : (List Int)) (p2 : Int) (p3 : Int) : cmp_Or_int.l3 p0 p1 p2 p3 =
  ifB (decide (p3 < p2))
   (bindD ((ixAt p1 p3)) fun t250 =>
   ifB (t250 != p0)
    (some (t250, ()))
   (cmp_Or_int.l3 p0 p1 p2 (Go.IntKind.wrap Go.IntKind.i64 (p3 + (1 : Int)))))
  (some (p0, ())) := (loopAt_step Go.Proofs.C14.ctx 48 3 _).trans (by kernel_rfl)
theorem ancepsref14_order.f_eq (p0 : Int) (p1 : Int) : ancepsref14_order.f p0 p1 =
  ifB (decide (p0 < p1))
   (some ((-(1 : Int)), ()))
  (ifB (decide (p0 > p1))
    (some ((1 : Int), ()))
   (some ((0 : Int), ()))) := (Einf_call Go.Proofs.C14.ctx 52 _).trans (by kernel_rfl)
theorem ancepsref14_Compare.l11_eq (p0 : Int) (p1 : (List (Int × (Int × ByteArray)))) (p2 : (List Int)) (p3 : (List (Int × (Int × ByteArray)))) (p4 : (List Int)) : ancepsref14_Compare.l11 p0 p1 p2 p3 p4 =
  ifB (decide (p0 < (((List.length p2) : Nat) : Int)))
   (ifB (decide (p0 < (((List.length p4) : Nat) : Int)))
    (bindD ((ixAt p2 p0)) fun t251 =>
    bindD ((ixAt p4 p0)) fun t252 =>
    bindD (ancepsref14_order.f t251 t252) fun t253 =>
    ifB (t253.1 != (0 : Int))
     (some (t253.1, ()))
    (ancepsref14_Compare.l11 (Go.IntKind.wrap Go.IntKind.i64 (p0 + (1 : Int))) p1 p2 p3 p4))
   (bindD (ancepsref14_order.f (((List.length p2) : Nat) : Int) (((List.length p4) : Nat) : Int)) fun t254 =>
    some (t254.1, ())))
  (bindD (ancepsref14_order.f (((List.length p2) : Nat) : Int) (((List.length p4) : Nat) : Int)) fun t255 =>
   some (t255.1, ())) := (loopAt_step Go.Proofs.C14.ctx 33 11 _).trans (by kernel_rfl)
theorem ancepsref11_Beats.l3_eq (p0 : (List (Int × (Int × ByteArray)))) (p1 : Int) (p2 : Int) : ancepsref11_Beats.l3 p0 p1 p2 =
  ifB (decide (p2 < (((List.length p0) : Nat) : Int)))
   (bindD ((ixAt p0 p2)) fun t256 =>
   ifB (decide (t256.1 ≥ (3 : Int)))
    (bindD ((ixAt p0 p2)) fun t257 =>
    ifB (decide (t257.1 ≤ (8 : Int)))
     (bindD ((ixAt p0 p2)) fun t258 =>
     ifB (t258.1 == (7 : Int))
      (ancepsref11_Beats.l3 p0 (Go.IntKind.wrap Go.IntKind.i64 ((Go.IntKind.wrap Go.IntKind.i64 (p1 + (1 : Int))) + (1 : Int))) (Go.IntKind.wrap Go.IntKind.i64 (p2 + (1 : Int))))
     (ancepsref11_Beats.l3 p0 (Go.IntKind.wrap Go.IntKind.i64 (p1 + (1 : Int))) (Go.IntKind.wrap Go.IntKind.i64 (p2 + (1 : Int)))))
    (bindD ((ixAt p0 p2)) fun t259 =>
     ifB (t259.1 == (7 : Int))
      (ancepsref11_Beats.l3 p0 (Go.IntKind.wrap Go.IntKind.i64 (p1 + (1 : Int))) (Go.IntKind.wrap Go.IntKind.i64 (p2 + (1 : Int))))
     (ancepsref11_Beats.l3 p0 p1 (Go.IntKind.wrap Go.IntKind.i64 (p2 + (1 : Int))))))
   (bindD ((ixAt p0 p2)) fun t260 =>
    ifB (t260.1 == (7 : Int))
     (ancepsref11_Beats.l3 p0 (Go.IntKind.wrap Go.IntKind.i64 (p1 + (1 : Int))) (Go.IntKind.wrap Go.IntKind.i64 (p2 + (1 : Int))))
    (ancepsref11_Beats.l3 p0 p1 (Go.IntKind.wrap Go.IntKind.i64 (p2 + (1 : Int))))))
  (some (p1, ())) := (loopAt_step Go.Proofs.C14.ctx 53 3 _).trans (by kernel_rfl)
theorem sound_quantity.f_eq (p0 : Int) (p1 : Int) (p2 : ByteArray) : sound_quantity.f p0 p1 p2 =
  ifB (p0 == (1 : Int))
   (ifB (decide (p1 ≥ (1 : Int)))
    (some ((decide (p1 ≤ (3 : Int))), ()))
   (some (false, ())))
  (ifB (p0 == (2 : Int))
    (some ((p1 == (2 : Int)), ()))
   (some ((p1 == (0 : Int)), ()))) := (Einf_call Go.Proofs.C14.ctx 54 _).trans (by kernel_rfl)
theorem strings_ContainsFunc.f_eq (p0 : ByteArray) : strings_ContainsFunc.f p0 =
  bindD (strings_IndexFunc.f p0) fun t261 =>
  some ((decide (t261.1 ≥ (0 : Int))), ()) := (Einf_call Go.Proofs.C14.ctx 55 _).trans (by kernel_rfl)
theorem ancepsref11_Valid.l15_eq (p0 : Int) (p1 : Int) (p2 : Int) (p3 : ByteArray) : ancepsref11_Valid.l15 p0 p1 p2 p3 =
  ifB (decide (p0 < (((ByteArray.size p3) : Nat) : Int)))
   (bindD ((Go.Proofs.R.strAt p3 p0)) fun t262 =>
   bindD (ancepsref11_letter.f t262) fun t263 =>
   ifB (!t263.1)
    (some ((2 : Int), ()))
   (ancepsref11_Valid.l15 (Go.IntKind.wrap Go.IntKind.i64 (p0 + (1 : Int))) p1 p2 p3))
  (some ((0 : Int), ())) := (loopAt_step Go.Proofs.C14.ctx 43 15 _).trans (by kernel_rfl)
theorem ancepsref11_order.f_eq (p0 : Int) (p1 : Int) : ancepsref11_order.f p0 p1 =
  ifB (decide (p0 < p1))
   (some ((-(1 : Int)), ()))
  (ifB (decide (p0 > p1))
    (some ((1 : Int), ()))
   (some ((0 : Int), ()))) := (Einf_call Go.Proofs.C14.ctx 59 _).trans (by kernel_rfl)
theorem api_Sound_47.l11_eq (p0 : (List (List (Int × (Int × ByteArray))))) (p1 : Int) (p2 : Int) (p3 : (List (Int × (Int × ByteArray)))) : api_Sound_47.l11 p0 p1 p2 p3 =
  ifB (decide (p2 < p1))
   (bindD ((ixAt p0 p2)) fun t264 =>
   bindD ((Go.Proofs.R.grow ((List.length p3) + (List.length t264)))) fun t265 =>
   api_Sound_47.l11 p0 p1 (Go.IntKind.wrap Go.IntKind.i64 (p2 + (1 : Int))) (p3 ++ t264))
  (some (p3, ())) := (loopAt_step Go.Proofs.C14.ctx 47 11 _).trans (by kernel_rfl)
theorem sound_Compare.f_eq (p0 : Int) (p1 : Int) (p2 : ByteArray) (p3 : Int) (p4 : Int) (p5 : ByteArray) : sound_Compare.f p0 p1 p2 p3 p4 p5 =
  bindD (cmp_Compare_int.f p0 p3) fun t266 =>
  bindD (cmp_Compare_int.f p1 p4) fun t267 =>
  bindD (cmp_Compare_string.f p2 p5) fun t268 =>
  bindD (cmp_Or_int.f (t266.1 :: (t267.1 :: (t268.1 :: ([] : (List Int)))))) fun t269 =>
  some (t269.1, ()) := (Einf_call Go.Proofs.C14.ctx 50 _).trans (by kernel_rfl)
theorem cmp_Compare_int.f_eq (p0 : Int) (p1 : Int) : cmp_Compare_int.f p0 p1 =
  bindD (cmp_isNaN_int.f p0) fun t270 =>
  bindD (cmp_isNaN_int.f p1) fun t271 =>
  ifB t270.1
   (ifB t271.1
    (some ((0 : Int), ()))
   (some ((-(1 : Int)), ())))
  (ifB t271.1
    (some ((1 : Int), ()))
   (ifB (decide (p0 < p1))
     (some ((-(1 : Int)), ()))
    (ifB (decide (p0 > p1))
      (some ((1 : Int), ()))
     (some ((0 : Int), ()))))) := (Einf_call Go.Proofs.C14.ctx 61 _).trans (by kernel_rfl)
theorem strings_IndexFunc.f_eq (p0 : ByteArray) : strings_IndexFunc.f p0 =
  bindD (strings_indexFunc.f p0 true) fun t272 =>
  some (t272.1, ()) := (Einf_call Go.Proofs.C14.ctx 63 _).trans (by kernel_rfl)
theorem ancepsref11_letter.f_eq (p0 : Int) : ancepsref11_letter.f p0 =
  ifB (decide (p0 ≥ (97 : Int)))
   (ifB (decide (p0 ≤ (122 : Int)))
    (some (true, ()))
   (ifB (decide (p0 ≥ (48 : Int)))
     (ifB (decide (p0 ≤ (57 : Int)))
      (some (true, ()))
     (ifB (p0 == (95 : Int))
       (some (true, ()))
      (ifB (p0 == (94 : Int))
        (some (true, ()))
       (some ((p0 == (39 : Int)), ())))))
    (ifB (p0 == (95 : Int))
      (some (true, ()))
     (ifB (p0 == (94 : Int))
       (some (true, ()))
      (some ((p0 == (39 : Int)), ()))))))
  (ifB (decide (p0 ≥ (48 : Int)))
    (ifB (decide (p0 ≤ (57 : Int)))
     (some (true, ()))
    (ifB (p0 == (95 : Int))
      (some (true, ()))
     (ifB (p0 == (94 : Int))
       (some (true, ()))
      (some ((p0 == (39 : Int)), ())))))
   (ifB (p0 == (95 : Int))
     (some (true, ()))
    (ifB (p0 == (94 : Int))
      (some (true, ()))
     (some ((p0 == (39 : Int)), ()))))) := (Einf_call Go.Proofs.C14.ctx 58 _).trans (by kernel_rfl)
theorem cmp_Compare_string.f_eq (p0 : ByteArray) (p1 : ByteArray) : cmp_Compare_string.f p0 p1 =
  bindD (cmp_isNaN_string.f p0) fun t273 =>
  bindD (cmp_isNaN_string.f p1) fun t274 =>
  ifB t273.1
   (ifB t274.1
    (some ((0 : Int), ()))
   (some ((-(1 : Int)), ())))
  (ifB t274.1
    (some ((1 : Int), ()))
   (ifB (Go.Op.bytesLess (ByteArray.toList p0) (ByteArray.toList p1))
     (some ((-(1 : Int)), ()))
    (ifB (!((Go.Op.bytesLess (ByteArray.toList p0) (ByteArray.toList p1)) || ((ByteArray.toList p0) == (ByteArray.toList p1))))
      (some ((1 : Int), ()))
     (some ((0 : Int), ()))))) := (Einf_call Go.Proofs.C14.ctx 62 _).trans (by kernel_rfl)
theorem cmp_isNaN_int.f_eq (p0 : Int) : cmp_isNaN_int.f p0 =
  some ((p0 != p0), ()) := (Einf_call Go.Proofs.C14.ctx 64 _).trans (by kernel_rfl)
theorem strings_indexFunc.f_eq (p0 : ByteArray) (p1 : Bool) : strings_indexFunc.f p0 p1 =
  strings_indexFunc.l2 p1 p0 (0 : Nat) := (Einf_call Go.Proofs.C14.ctx 66 _).trans (by kernel_rfl)
theorem cmp_isNaN_string.f_eq (p0 : ByteArray) : cmp_isNaN_string.f p0 =
  some ((!((ByteArray.toList p0) == (ByteArray.toList p0))), ()) := (Einf_call Go.Proofs.C14.ctx 65 _).trans (by kernel_rfl)
theorem strings_indexFunc.l2_eq (p0 : Bool) (p1 : ByteArray) (p2 : Nat) : strings_indexFunc.l2 p0 p1 p2 =
  ifB (decide (p2 < (ByteArray.size p1)))
   (bindD (sound_Valid_1.f (Go.Proofs.R.runeAt p1 p2)) fun t275 =>
   ifB (t275.1 == p0)
    (some (((p2 : Nat) : Int), ()))
   (strings_indexFunc.l2 p0 p1 (Go.Proofs.R.nextAt p1 p2)))
  (some ((-(1 : Int)), ())) := (loopAt_step Go.Proofs.C14.ctx 66 2 _).trans (by kernel_rfl)
theorem sound_Valid_1.f_eq (p0 : Int) : sound_Valid_1.f p0 =
  bindD (sound_written.f p0) fun t276 =>
  some ((!t276.1), ()) := (Einf_call Go.Proofs.C14.ctx 56 _).trans (by kernel_rfl)
theorem sound_written.f_eq (p0 : Int) : sound_written.f p0 =
  ifB (decide (p0 ≥ (97 : Int)))
   (ifB (decide (p0 ≤ (122 : Int)))
    (some (true, ()))
   (ifB (decide (p0 ≥ (48 : Int)))
     (ifB (decide (p0 ≤ (57 : Int)))
      (some (true, ()))
     (ifB (p0 == (95 : Int))
       (some (true, ()))
      (ifB (p0 == (94 : Int))
        (some (true, ()))
       (some ((p0 == (39 : Int)), ())))))
    (ifB (p0 == (95 : Int))
      (some (true, ()))
     (ifB (p0 == (94 : Int))
       (some (true, ()))
      (some ((p0 == (39 : Int)), ()))))))
  (ifB (decide (p0 ≥ (48 : Int)))
    (ifB (decide (p0 ≤ (57 : Int)))
     (some (true, ()))
    (ifB (p0 == (95 : Int))
      (some (true, ()))
     (ifB (p0 == (94 : Int))
       (some (true, ()))
      (some ((p0 == (39 : Int)), ())))))
   (ifB (p0 == (95 : Int))
     (some (true, ()))
    (ifB (p0 == (94 : Int))
      (some (true, ()))
     (some ((p0 == (39 : Int)), ()))))) := (Einf_call Go.Proofs.C14.ctx 57 _).trans (by kernel_rfl)
end Go.Proofs.C14
