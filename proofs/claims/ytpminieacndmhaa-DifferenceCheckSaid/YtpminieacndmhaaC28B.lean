/- C28B: what the row's functions are, as the evaluator tells them. No condition. -/
import Derived.Test.YtpminieacndmhaaC28
set_option linter.unusedVariables false
set_option linter.unusedSimpArgs false
set_option maxRecDepth 100000
set_option linter.unusedVariables false
namespace Go.Proofs.C28
open Go Go.Proofs.R
noncomputable def ancepslaw28_DifferenceSame.f (p0 : Int) (p1 : Int) (p2 : (List (List Int))) (p3 : (List Bool)) (p4 : Int) (p5 : Int) (p6 : (List (List Int))) (p7 : (List Bool)) : Option (Bool × Unit) := (Go.Proofs.R.Einf Go.Proofs.C28.ctx).call 5 [(.agg [(.v (.int .i64) p0), (.v (.int .i64) p1), (.v (.sl (.sl (.int .i64))) p2), (.v (.sl .bool) p3)]), (.agg [(.v (.int .i64) p4), (.v (.int .i64) p5), (.v (.sl (.sl (.int .i64))) p6), (.v (.sl .bool) p7)])]
noncomputable def ancepslaw28_DifferenceTells.f (p0 : Int) (p1 : Int) (p2 : (List (List Int))) (p3 : (List Bool)) (p4 : Int) (p5 : Int) (p6 : (List (List Int))) (p7 : (List Bool)) : Option (Bool × Unit) := (Go.Proofs.R.Einf Go.Proofs.C28.ctx).call 6 [(.agg [(.v (.int .i64) p0), (.v (.int .i64) p1), (.v (.sl (.sl (.int .i64))) p2), (.v (.sl .bool) p3)]), (.agg [(.v (.int .i64) p4), (.v (.int .i64) p5), (.v (.sl (.sl (.int .i64))) p6), (.v (.sl .bool) p7)])]
noncomputable def ancepslaw28_DifferenceCompare.f (p0 : Int) (p1 : Int) (p2 : (List (List Int))) (p3 : (List Bool)) (p4 : Int) (p5 : Int) (p6 : (List (List Int))) (p7 : (List Bool)) (p8 : Int) : Option (Bool × Unit) := (Go.Proofs.R.Einf Go.Proofs.C28.ctx).call 3 [(.agg [(.v (.int .i64) p0), (.v (.int .i64) p1), (.v (.sl (.sl (.int .i64))) p2), (.v (.sl .bool) p3)]), (.agg [(.v (.int .i64) p4), (.v (.int .i64) p5), (.v (.sl (.sl (.int .i64))) p6), (.v (.sl .bool) p7)]), (.one (.v (.int .i64) p8))]
noncomputable def ancepslaw28_DifferenceOrder.f (p0 : Int) (p1 : (List Int)) (p2 : Int) (p3 : Int) (p4 : (List Int)) (p5 : Int) (p6 : Int) (p7 : (List Int)) (p8 : Int) : Option (Bool × Unit) := (Go.Proofs.R.Einf Go.Proofs.C28.ctx).call 4 [(.agg [(.v (.int .u8) p0), (.v (.sl (.int .u8)) p1), (.v (.int .u16) p2)]), (.agg [(.v (.int .u8) p3), (.v (.sl (.int .u8)) p4), (.v (.int .u16) p5)]), (.agg [(.v (.int .u8) p6), (.v (.sl (.int .u8)) p7), (.v (.int .u16) p8)])]
noncomputable def ancepslaw28_DifferenceCheck.f (p0 : Int) (p1 : Int) (p2 : (List (List Int))) (p3 : (List Bool)) (p4 : Int) (p5 : Int) (p6 : (List (List Int))) (p7 : (List Bool)) (p8 : (List (Int × Int))) : Option (Bool × Unit) := (Go.Proofs.R.Einf Go.Proofs.C28.ctx).call 7 [(.agg [(.v (.int .i64) p0), (.v (.int .i64) p1), (.v (.sl (.sl (.int .i64))) p2), (.v (.sl .bool) p3)]), (.agg [(.v (.int .i64) p4), (.v (.int .i64) p5), (.v (.sl (.sl (.int .i64))) p6), (.v (.sl .bool) p7)]), (.one (.v (.sl (.pair (.int .i64) (.int .i64))) p8))]
noncomputable def ancepslaw28_awake.f : Option (Bool × Unit) := (Go.Proofs.R.Einf Go.Proofs.C28.ctx).call 11 []
noncomputable def ancepsref28_Few.f (p0 : Int) (p1 : Int) (p2 : (List (List Int))) (p3 : (List Bool)) (p4 : Int) (p5 : Int) (p6 : (List (List Int))) (p7 : (List Bool)) : Option (Bool × Unit) := (Go.Proofs.R.Einf Go.Proofs.C28.ctx).call 12 [(.agg [(.v (.int .i64) p0), (.v (.int .i64) p1), (.v (.sl (.sl (.int .i64))) p2), (.v (.sl .bool) p3)]), (.agg [(.v (.int .i64) p4), (.v (.int .i64) p5), (.v (.sl (.sl (.int .i64))) p6), (.v (.sl .bool) p7)])]
noncomputable def difference_Same.f (p0 : Int) (p1 : Int) (p2 : (List (List Int))) (p3 : (List Bool)) (p4 : Int) (p5 : Int) (p6 : (List (List Int))) (p7 : (List Bool)) : Option (Bool × (Int × Unit)) := (Go.Proofs.R.Einf Go.Proofs.C28.ctx).call 18 [(.agg [(.v (.int .i64) p0), (.v (.int .i64) p1), (.v (.sl (.sl (.int .i64))) p2), (.v (.sl .bool) p3)]), (.agg [(.v (.int .i64) p4), (.v (.int .i64) p5), (.v (.sl (.sl (.int .i64))) p6), (.v (.sl .bool) p7)])]
noncomputable def ancepsref28_Same.f (p0 : Int) (p1 : Int) (p2 : (List (List Int))) (p3 : (List Bool)) (p4 : Int) (p5 : Int) (p6 : (List (List Int))) (p7 : (List Bool)) : Option (Bool × (Int × Unit)) := (Go.Proofs.R.Einf Go.Proofs.C28.ctx).call 19 [(.agg [(.v (.int .i64) p0), (.v (.int .i64) p1), (.v (.sl (.sl (.int .i64))) p2), (.v (.sl .bool) p3)]), (.agg [(.v (.int .i64) p4), (.v (.int .i64) p5), (.v (.sl (.sl (.int .i64))) p6), (.v (.sl .bool) p7)])]
noncomputable def difference_Within.f (p0 : Int) (p1 : Int) (p2 : (List (List Int))) (p3 : (List Bool)) (p4 : Int) (p5 : Int) (p6 : (List (List Int))) (p7 : (List Bool)) : Option (Bool × (Int × Unit)) := (Go.Proofs.R.Einf Go.Proofs.C28.ctx).call 17 [(.agg [(.v (.int .i64) p0), (.v (.int .i64) p1), (.v (.sl (.sl (.int .i64))) p2), (.v (.sl .bool) p3)]), (.agg [(.v (.int .i64) p4), (.v (.int .i64) p5), (.v (.sl (.sl (.int .i64))) p6), (.v (.sl .bool) p7)])]
noncomputable def ancepsref28_Within.f (p0 : Int) (p1 : Int) (p2 : (List (List Int))) (p3 : (List Bool)) (p4 : Int) (p5 : Int) (p6 : (List (List Int))) (p7 : (List Bool)) : Option (Bool × (Int × Unit)) := (Go.Proofs.R.Einf Go.Proofs.C28.ctx).call 20 [(.agg [(.v (.int .i64) p0), (.v (.int .i64) p1), (.v (.sl (.sl (.int .i64))) p2), (.v (.sl .bool) p3)]), (.agg [(.v (.int .i64) p4), (.v (.int .i64) p5), (.v (.sl (.sl (.int .i64))) p6), (.v (.sl .bool) p7)])]
noncomputable def difference_Disjoint.f (p0 : Int) (p1 : Int) (p2 : (List (List Int))) (p3 : (List Bool)) (p4 : Int) (p5 : Int) (p6 : (List (List Int))) (p7 : (List Bool)) : Option (Bool × (Int × Unit)) := (Go.Proofs.R.Einf Go.Proofs.C28.ctx).call 21 [(.agg [(.v (.int .i64) p0), (.v (.int .i64) p1), (.v (.sl (.sl (.int .i64))) p2), (.v (.sl .bool) p3)]), (.agg [(.v (.int .i64) p4), (.v (.int .i64) p5), (.v (.sl (.sl (.int .i64))) p6), (.v (.sl .bool) p7)])]
noncomputable def ancepsref28_Disjoint.f (p0 : Int) (p1 : Int) (p2 : (List (List Int))) (p3 : (List Bool)) (p4 : Int) (p5 : Int) (p6 : (List (List Int))) (p7 : (List Bool)) : Option (Bool × (Int × Unit)) := (Go.Proofs.R.Einf Go.Proofs.C28.ctx).call 22 [(.agg [(.v (.int .i64) p0), (.v (.int .i64) p1), (.v (.sl (.sl (.int .i64))) p2), (.v (.sl .bool) p3)]), (.agg [(.v (.int .i64) p4), (.v (.int .i64) p5), (.v (.sl (.sl (.int .i64))) p6), (.v (.sl .bool) p7)])]
noncomputable def difference_Tells.f (p0 : Int) (p1 : Int) (p2 : (List (List Int))) (p3 : (List Bool)) (p4 : Int) (p5 : Int) (p6 : (List (List Int))) (p7 : (List Bool)) : Option ((List Int) × (Int × (Int × Unit))) := (Go.Proofs.R.Einf Go.Proofs.C28.ctx).call 23 [(.agg [(.v (.int .i64) p0), (.v (.int .i64) p1), (.v (.sl (.sl (.int .i64))) p2), (.v (.sl .bool) p3)]), (.agg [(.v (.int .i64) p4), (.v (.int .i64) p5), (.v (.sl (.sl (.int .i64))) p6), (.v (.sl .bool) p7)])]
noncomputable def ancepsref28_Tells.f (p0 : Int) (p1 : Int) (p2 : (List (List Int))) (p3 : (List Bool)) (p4 : Int) (p5 : Int) (p6 : (List (List Int))) (p7 : (List Bool)) : Option ((List Int) × (Int × (Int × Unit))) := (Go.Proofs.R.Einf Go.Proofs.C28.ctx).call 24 [(.agg [(.v (.int .i64) p0), (.v (.int .i64) p1), (.v (.sl (.sl (.int .i64))) p2), (.v (.sl .bool) p3)]), (.agg [(.v (.int .i64) p4), (.v (.int .i64) p5), (.v (.sl (.sl (.int .i64))) p6), (.v (.sl .bool) p7)])]
noncomputable def slices_Equal_int_int.f (p0 : (List Int)) (p1 : (List Int)) : Option (Bool × Unit) := (Go.Proofs.R.Einf Go.Proofs.C28.ctx).call 25 [(.one (.v (.sl (.int .i64)) p0)), (.one (.v (.sl (.int .i64)) p1))]
noncomputable def automaton_Accepts.f (p0 : Int) (p1 : Int) (p2 : (List (List Int))) (p3 : (List Bool)) (p4 : (List Int)) : Option (Bool × Unit) := (Go.Proofs.R.Einf Go.Proofs.C28.ctx).call 26 [(.agg [(.v (.int .i64) p0), (.v (.int .i64) p1), (.v (.sl (.sl (.int .i64))) p2), (.v (.sl .bool) p3)]), (.one (.v (.sl (.int .i64)) p4))]
noncomputable def difference_Compare.f (p0 : Int) (p1 : Int) (p2 : (List (List Int))) (p3 : (List Bool)) (p4 : Int) (p5 : Int) (p6 : (List (List Int))) (p7 : (List Bool)) (p8 : Int) : Option (Bool × (Bool × (Bool × ((List Int) × ((List Int) × ((List Int) × ((List Int) × (Int × Unit)))))))) := (Go.Proofs.R.Einf Go.Proofs.C28.ctx).call 13 [(.agg [(.v (.int .i64) p0), (.v (.int .i64) p1), (.v (.sl (.sl (.int .i64))) p2), (.v (.sl .bool) p3)]), (.agg [(.v (.int .i64) p4), (.v (.int .i64) p5), (.v (.sl (.sl (.int .i64))) p6), (.v (.sl .bool) p7)]), (.one (.v (.int .i64) p8))]
noncomputable def ancepsref28_Compare.f (p0 : Int) (p1 : Int) (p2 : (List (List Int))) (p3 : (List Bool)) (p4 : Int) (p5 : Int) (p6 : (List (List Int))) (p7 : (List Bool)) (p8 : Int) : Option (Bool × (Bool × (Bool × ((List Int) × ((List Int) × ((List Int) × ((List Int) × (Int × Unit)))))))) := (Go.Proofs.R.Einf Go.Proofs.C28.ctx).call 14 [(.agg [(.v (.int .i64) p0), (.v (.int .i64) p1), (.v (.sl (.sl (.int .i64))) p2), (.v (.sl .bool) p3)]), (.agg [(.v (.int .i64) p4), (.v (.int .i64) p5), (.v (.sl (.sl (.int .i64))) p6), (.v (.sl .bool) p7)]), (.one (.v (.int .i64) p8))]
noncomputable def ancepsref28_SameComparison.f (p0 : Bool) (p1 : Bool) (p2 : Bool) (p3 : (List Int)) (p4 : (List Int)) (p5 : (List Int)) (p6 : (List Int)) (p7 : Bool) (p8 : Bool) (p9 : Bool) (p10 : (List Int)) (p11 : (List Int)) (p12 : (List Int)) (p13 : (List Int)) : Option (Bool × Unit) := (Go.Proofs.R.Einf Go.Proofs.C28.ctx).call 15 [(.agg [(.v .bool p0), (.v .bool p1), (.v .bool p2), (.v (.sl (.int .i64)) p3), (.v (.sl (.int .i64)) p4), (.v (.sl (.int .i64)) p5), (.v (.sl (.int .i64)) p6)]), (.agg [(.v .bool p7), (.v .bool p8), (.v .bool p9), (.v (.sl (.int .i64)) p10), (.v (.sl (.int .i64)) p11), (.v (.sl (.int .i64)) p12), (.v (.sl (.int .i64)) p13)])]
noncomputable def ancepsref06_Made.f (p0 : Int) (p1 : (List Int)) (p2 : Int) : Option (Int × (Int × ((List (List Int)) × ((List Bool) × Unit)))) := (Go.Proofs.R.Einf Go.Proofs.C28.ctx).call 16 [(.agg [(.v (.int .u8) p0), (.v (.sl (.int .u8)) p1), (.v (.int .u16) p2)])]
noncomputable def api_Pair.f (p0 : (List (Int × Int))) : Option ((List (Int × Int)) × Unit) := (Go.Proofs.R.Einf Go.Proofs.C28.ctx).call 28 [(.one (.v (.sl (.pair (.int .i64) (.int .i64))) p0))]
noncomputable def difference_CheckWithin.f (p0 : Int) (p1 : Int) (p2 : (List (List Int))) (p3 : (List Bool)) (p4 : Int) (p5 : Int) (p6 : (List (List Int))) (p7 : (List Bool)) (p8 : (List (Int × Int))) : Option (Bool × Unit) := (Go.Proofs.R.Einf Go.Proofs.C28.ctx).call 27 [(.agg [(.v (.int .i64) p0), (.v (.int .i64) p1), (.v (.sl (.sl (.int .i64))) p2), (.v (.sl .bool) p3)]), (.agg [(.v (.int .i64) p4), (.v (.int .i64) p5), (.v (.sl (.sl (.int .i64))) p6), (.v (.sl .bool) p7)]), (.one (.v (.sl (.pair (.int .i64) (.int .i64))) p8))]
noncomputable def ancepsref28_CheckWithin.f (p0 : Int) (p1 : Int) (p2 : (List (List Int))) (p3 : (List Bool)) (p4 : Int) (p5 : Int) (p6 : (List (List Int))) (p7 : (List Bool)) (p8 : (List (Int × Int))) : Option (Bool × Unit) := (Go.Proofs.R.Einf Go.Proofs.C28.ctx).call 29 [(.agg [(.v (.int .i64) p0), (.v (.int .i64) p1), (.v (.sl (.sl (.int .i64))) p2), (.v (.sl .bool) p3)]), (.agg [(.v (.int .i64) p4), (.v (.int .i64) p5), (.v (.sl (.sl (.int .i64))) p6), (.v (.sl .bool) p7)]), (.one (.v (.sl (.pair (.int .i64) (.int .i64))) p8))]
noncomputable def ancepslaw28_of.f (p0 : (List Bool)) (p1 : (List (List Int))) : Option (Int × (Int × ((List (List Int)) × ((List Bool) × Unit)))) := (Go.Proofs.R.Einf Go.Proofs.C28.ctx).call 37 [(.one (.v (.sl .bool) p0)), (.one (.v (.sl (.sl (.int .i64))) p1))]
noncomputable def ancepsref28_Few.l3 (p0 : Int) (p1 : Int) (p2 : Int) (p3 : Int) (p4 : (List (List Int))) (p5 : (List Bool)) (p6 : Int) (p7 : Int) (p8 : (List (List Int))) (p9 : (List Bool)) : Option (Bool × Unit) := Go.Proofs.R.loopAt Go.Proofs.C28.ctx (Go.Proofs.R.Einf Go.Proofs.C28.ctx) 12 3 (.mk [(2, (.one (.ref 7 0))), (3, (.one (.ref 15 0))), (5, (.one (.v (.int .i64) p0))), (6, (.one (.v (.int .i64) p1)))] [(7, (.box 25 [(.v (.int .i64) p2), (.v (.int .i64) p3), (.v (.sl (.sl (.int .i64))) p4), (.v (.sl .bool) p5)])), (15, (.box 25 [(.v (.int .i64) p6), (.v (.int .i64) p7), (.v (.sl (.sl (.int .i64))) p8), (.v (.sl .bool) p9)]))])
noncomputable def difference_valid.f (p0 : Int) (p1 : Int) (p2 : (List (List Int))) (p3 : (List Bool)) (p4 : Int) (p5 : Int) (p6 : (List (List Int))) (p7 : (List Bool)) : Option (Int × Unit) := (Go.Proofs.R.Einf Go.Proofs.C28.ctx).call 38 [(.agg [(.v (.int .i64) p0), (.v (.int .i64) p1), (.v (.sl (.sl (.int .i64))) p2), (.v (.sl .bool) p3)]), (.agg [(.v (.int .i64) p4), (.v (.int .i64) p5), (.v (.sl (.sl (.int .i64))) p6), (.v (.sl .bool) p7)])]
noncomputable def difference_apart.f (p0 : Int) (p1 : Int) (p2 : (List (List Int))) (p3 : (List Bool)) (p4 : Int) (p5 : Int) (p6 : (List (List Int))) (p7 : (List Bool)) : Option ((List Int) × (Int × Unit)) := (Go.Proofs.R.Einf Go.Proofs.C28.ctx).call 39 [(.agg [(.v (.int .i64) p0), (.v (.int .i64) p1), (.v (.sl (.sl (.int .i64))) p2), (.v (.sl .bool) p3)]), (.agg [(.v (.int .i64) p4), (.v (.int .i64) p5), (.v (.sl (.sl (.int .i64))) p6), (.v (.sl .bool) p7)])]
noncomputable def ancepsref28_valid.f (p0 : Int) (p1 : Int) (p2 : (List (List Int))) (p3 : (List Bool)) (p4 : Int) (p5 : Int) (p6 : (List (List Int))) (p7 : (List Bool)) : Option (Int × Unit) := (Go.Proofs.R.Einf Go.Proofs.C28.ctx).call 44 [(.agg [(.v (.int .i64) p0), (.v (.int .i64) p1), (.v (.sl (.sl (.int .i64))) p2), (.v (.sl .bool) p3)]), (.agg [(.v (.int .i64) p4), (.v (.int .i64) p5), (.v (.sl (.sl (.int .i64))) p6), (.v (.sl .bool) p7)])]
noncomputable def ancepsref28_tells.f (p0 : Int) (p1 : Int) (p2 : (List (List Int))) (p3 : (List Bool)) (p4 : Int) (p5 : Int) (p6 : (List (List Int))) (p7 : (List Bool)) : Option ((List Int) × (Int × Unit)) := (Go.Proofs.R.Einf Go.Proofs.C28.ctx).call 45 [(.agg [(.v (.int .i64) p0), (.v (.int .i64) p1), (.v (.sl (.sl (.int .i64))) p2), (.v (.sl .bool) p3)]), (.agg [(.v (.int .i64) p4), (.v (.int .i64) p5), (.v (.sl (.sl (.int .i64))) p6), (.v (.sl .bool) p7)])]
noncomputable def difference_within.f (p0 : Int) (p1 : Int) (p2 : (List (List Int))) (p3 : (List Bool)) (p4 : Int) (p5 : Int) (p6 : (List (List Int))) (p7 : (List Bool)) : Option (Bool × Unit) := (Go.Proofs.R.Einf Go.Proofs.C28.ctx).call 40 [(.agg [(.v (.int .i64) p0), (.v (.int .i64) p1), (.v (.sl (.sl (.int .i64))) p2), (.v (.sl .bool) p3)]), (.agg [(.v (.int .i64) p4), (.v (.int .i64) p5), (.v (.sl (.sl (.int .i64))) p6), (.v (.sl .bool) p7)])]
noncomputable def ancepsref28_within.f (p0 : Int) (p1 : Int) (p2 : (List (List Int))) (p3 : (List Bool)) (p4 : Int) (p5 : Int) (p6 : (List (List Int))) (p7 : (List Bool)) : Option (Bool × Unit) := (Go.Proofs.R.Einf Go.Proofs.C28.ctx).call 46 [(.agg [(.v (.int .i64) p0), (.v (.int .i64) p1), (.v (.sl (.sl (.int .i64))) p2), (.v (.sl .bool) p3)]), (.agg [(.v (.int .i64) p4), (.v (.int .i64) p5), (.v (.sl (.sl (.int .i64))) p6), (.v (.sl .bool) p7)])]
noncomputable def difference_side.f (p0 : Int) (p1 : Int) (p2 : (List (List Int))) (p3 : (List Bool)) (p4 : Int) (p5 : Int) (p6 : (List (List Int))) (p7 : (List Bool)) : Option ((List ((Int × Int) × (Int × Int))) × Unit) := (Go.Proofs.R.Einf Go.Proofs.C28.ctx).call 54 [(.agg [(.v (.int .i64) p0), (.v (.int .i64) p1), (.v (.sl (.sl (.int .i64))) p2), (.v (.sl .bool) p3)]), (.agg [(.v (.int .i64) p4), (.v (.int .i64) p5), (.v (.sl (.sl (.int .i64))) p6), (.v (.sl .bool) p7)]), (.one (.clo 55 []))]
noncomputable def difference_visit.f (p0 : (List ((Int × Int) × (Int × Int)))) (p1 : Int) (p2 : Int) (p3 : (List (List Int))) (p4 : (List Bool)) (p5 : Int) (p6 : Int) (p7 : (List (List Int))) (p8 : (List Bool)) : Option (Bool × Unit) := (Go.Proofs.R.Einf Go.Proofs.C28.ctx).call 53 [(.one (.v (.sl (.pair (.pair (.int .i64) (.int .i64)) (.pair (.int .i64) (.int .i64)))) p0)), (.one (.clo 56 [(.pref [(.v (.int .i64) p1), (.v (.int .i64) p2), (.v (.sl (.sl (.int .i64))) p3), (.v (.sl .bool) p4)] 0), (.pref [(.v (.int .i64) p5), (.v (.int .i64) p6), (.v (.sl (.sl (.int .i64))) p7), (.v (.sl .bool) p8)] 0)]))]
noncomputable def ancepsref28_reach.f (p0 : Int) (p1 : Int) (p2 : (List (List Int))) (p3 : (List Bool)) (p4 : Int) (p5 : Int) (p6 : (List (List Int))) (p7 : (List Bool)) : Option ((List (Int × Int)) × ((List (List Int)) × Unit)) := (Go.Proofs.R.Einf Go.Proofs.C28.ctx).call 47 [(.agg [(.v (.int .i64) p0), (.v (.int .i64) p1), (.v (.sl (.sl (.int .i64))) p2), (.v (.sl .bool) p3)]), (.agg [(.v (.int .i64) p4), (.v (.int .i64) p5), (.v (.sl (.sl (.int .i64))) p6), (.v (.sl .bool) p7)])]
noncomputable def ancepsref28_Disjoint.l6 (p0 : (List (Int × Int))) (p1 : Int) (p2 : Int) (p3 : Int) (p4 : (List (List Int))) (p5 : (List Bool)) (p6 : Int) (p7 : Int) (p8 : (List (List Int))) (p9 : (List Bool)) : Option (Bool × (Int × Unit)) := Go.Proofs.R.loopAt Go.Proofs.C28.ctx (Go.Proofs.R.Einf Go.Proofs.C28.ctx) 22 6 (.mk [(2, (.one (.ref 7 0))), (3, (.one (.ref 15 0))), (7, (.one (.v (.sl (.pair (.int .i64) (.int .i64))) p0))), (8, (.one (.v (.int .i64) p1)))] [(7, (.box 25 [(.v (.int .i64) p2), (.v (.int .i64) p3), (.v (.sl (.sl (.int .i64))) p4), (.v (.sl .bool) p5)])), (15, (.box 25 [(.v (.int .i64) p6), (.v (.int .i64) p7), (.v (.sl (.sl (.int .i64))) p8), (.v (.sl .bool) p9)]))])
noncomputable def slices_Equal_int_int.l4 (p0 : (List Int)) (p1 : (List Int)) (p2 : Int) (p3 : Int) : Option (Bool × Unit) := Go.Proofs.R.loopAt Go.Proofs.C28.ctx (Go.Proofs.R.Einf Go.Proofs.C28.ctx) 25 4 (.mk [(0, (.one (.v (.sl (.int .i64)) p0))), (1, (.one (.v (.sl (.int .i64)) p1))), (12, (.one (.v (.int .i64) p2))), (13, (.one (.v (.int .i64) p3)))] [])
noncomputable def automaton_Valid.f (p0 : Int) (p1 : Int) (p2 : (List (List Int))) (p3 : (List Bool)) : Option (Int × Unit) := (Go.Proofs.R.Einf Go.Proofs.C28.ctx).call 57 [(.agg [(.v (.int .i64) p0), (.v (.int .i64) p1), (.v (.sl (.sl (.int .i64))) p2), (.v (.sl .bool) p3)])]
noncomputable def automaton_Run.f (p0 : Int) (p1 : Int) (p2 : (List (List Int))) (p3 : (List Bool)) (p4 : (List Int)) : Option (Int × Unit) := (Go.Proofs.R.Einf Go.Proofs.C28.ctx).call 59 [(.agg [(.v (.int .i64) p0), (.v (.int .i64) p1), (.v (.sl (.sl (.int .i64))) p2), (.v (.sl .bool) p3)]), (.one (.v (.sl (.int .i64)) p4))]
noncomputable def automaton_ends.f (p0 : Int) (p1 : Int) (p2 : (List (List Int))) (p3 : (List Bool)) (p4 : Int) : Option (Bool × Unit) := (Go.Proofs.R.Einf Go.Proofs.C28.ctx).call 58 [(.agg [(.v (.int .i64) p0), (.v (.int .i64) p1), (.v (.sl (.sl (.int .i64))) p2), (.v (.sl .bool) p3)]), (.one (.v (.int .i64) p4))]
noncomputable def difference_either.f (p0 : Int) (p1 : Int) : Option (Bool × Unit) := (Go.Proofs.R.Einf Go.Proofs.C28.ctx).call 41 [(.agg [(.v (.int .i64) p0), (.v (.int .i64) p1)])]
noncomputable def difference_Compare.l13 (p0 : Int) (p1 : Int) (p2 : Int) (p3 : Int) (p4 : (List (List Int))) (p5 : (List Bool)) (p6 : Int) (p7 : Int) (p8 : (List (List Int))) (p9 : (List Bool)) (p10 : Bool) (p11 : Bool) (p12 : Bool) (p13 : Bool) (p14 : Bool) (p15 : Bool) (p16 : (List ((Int × Int) × Int))) (p17 : (List Int)) (p18 : (List Int)) (p19 : (List Int)) (p20 : (List Int)) (p21 : (List Int)) (p22 : (List Int)) (p23 : (List Int)) (p24 : (List Int)) : Option (Bool × (Bool × (Bool × ((List Int) × ((List Int) × ((List Int) × ((List Int) × (Int × Unit)))))))) := Go.Proofs.R.loopAt Go.Proofs.C28.ctx (Go.Proofs.R.Einf Go.Proofs.C28.ctx) 13 13 (.mk [(3, (.one (.ref 7 0))), (4, (.one (.ref 15 0))), (6, (.one (.ref 23 0))), (11, (.one (.ref 31 0))), (12, (.one (.mp 39))), (65, (.one (.v (.int .i64) p0))), (66, (.one (.v (.int .i64) p1)))] [(7, (.box 25 [(.v (.int .i64) p2), (.v (.int .i64) p3), (.v (.sl (.sl (.int .i64))) p4), (.v (.sl .bool) p5)])), (15, (.box 25 [(.v (.int .i64) p6), (.v (.int .i64) p7), (.v (.sl (.sl (.int .i64))) p8), (.v (.sl .bool) p9)])), (23, (.box 31 [(.v .bool p10), (.v .bool p11), (.v .bool p12), (.row 47), (.row 55), (.row 63), (.row 71)])), (31, (.box 31 [(.v .bool p13), (.v .bool p14), (.v .bool p15), (.row 79), (.row 87), (.row 95), (.row 103)])), (39, (.mp 53 2 (.pair (.int .i64) (.int .i64)) (.int .i64) p16)), (47, (.row 3 (.int .i64) p17 false)), (55, (.row 2 (.int .i64) p18 false)), (63, (.row 2 (.int .i64) p19 false)), (71, (.row 2 (.int .i64) p20 false)), (79, (.row 3 (.int .i64) p21 false)), (87, (.row 2 (.int .i64) p22 false)), (95, (.row 2 (.int .i64) p23 false)), (103, (.row 2 (.int .i64) p24 false))])
noncomputable def ancepsref28_Compare.l13 (p0 : Int) (p1 : (List (Int × Int))) (p2 : Int) (p3 : Int) (p4 : Int) (p5 : (List (List Int))) (p6 : (List Bool)) (p7 : Int) (p8 : Int) (p9 : (List (List Int))) (p10 : (List Bool)) (p11 : Bool) (p12 : Bool) (p13 : Bool) (p14 : Bool) (p15 : Bool) (p16 : Bool) (p17 : (List Int)) (p18 : (List Int)) (p19 : (List Int)) (p20 : (List Int)) (p21 : (List Int)) (p22 : (List Int)) (p23 : (List Int)) (p24 : (List Int)) (p25 : (List Int)) : Option (Bool × (Bool × (Bool × ((List Int) × ((List Int) × ((List Int) × ((List Int) × (Int × Unit)))))))) := Go.Proofs.R.loopAt Go.Proofs.C28.ctx (Go.Proofs.R.Einf Go.Proofs.C28.ctx) 14 13 (.mk [(2, (.one (.v (.int .i64) p0))), (3, (.one (.ref 7 0))), (4, (.one (.ref 15 0))), (6, (.one (.ref 23 0))), (11, (.one (.ref 31 0))), (12, (.one (.v (.sl (.pair (.int .i64) (.int .i64))) p1))), (13, (.one (.row 39))), (14, (.one (.v (.int .i64) p2)))] [(7, (.box 25 [(.v (.int .i64) p3), (.v (.int .i64) p4), (.v (.sl (.sl (.int .i64))) p5), (.v (.sl .bool) p6)])), (15, (.box 25 [(.v (.int .i64) p7), (.v (.int .i64) p8), (.v (.sl (.sl (.int .i64))) p9), (.v (.sl .bool) p10)])), (23, (.box 31 [(.v .bool p11), (.v .bool p12), (.v .bool p13), (.row 47), (.row 55), (.row 63), (.row 71)])), (31, (.box 31 [(.v .bool p14), (.v .bool p15), (.v .bool p16), (.v (.sl (.int .i64)) p17), (.row 79), (.row 87), (.row 95)])), (39, (.row 2 (.int .i64) p18 false)), (47, (.row 3 (.int .i64) p19 false)), (55, (.row 2 (.int .i64) p20 false)), (63, (.row 2 (.int .i64) p21 false)), (71, (.row 2 (.int .i64) p22 false)), (79, (.row 2 (.int .i64) p23 false)), (87, (.row 2 (.int .i64) p24 false)), (95, (.row 2 (.int .i64) p25 false))])
noncomputable def ancepsref06_Equal.f (p0 : (List Int)) (p1 : (List Int)) : Option (Bool × Unit) := (Go.Proofs.R.Einf Go.Proofs.C28.ctx).call 51 [(.one (.v (.sl (.int .i64)) p0)), (.one (.v (.sl (.int .i64)) p1))]
noncomputable def ancepsref28_numbers.f (p0 : (List Int)) (p1 : (List Int)) : Option (Bool × Unit) := (Go.Proofs.R.Einf Go.Proofs.C28.ctx).call 52 [(.one (.v (.sl (.int .i64)) p0)), (.one (.v (.sl (.int .i64)) p1))]
noncomputable def ancepsref06_Made.l4 (p0 : Int) (p1 : Int) (p2 : Int) (p3 : (List Int)) (p4 : Int) (p5 : Int) (p6 : Int) (p7 : Int) (p8 : Int) (p9 : (List (List Int))) (p10 : (List Bool)) (p11 : (List (List Int))) (p12 : (List Bool)) : Option (Int × (Int × ((List (List Int)) × ((List Bool) × Unit)))) := Go.Proofs.R.loopAt Go.Proofs.C28.ctx (Go.Proofs.R.Einf Go.Proofs.C28.ctx) 16 4 (.mk [(1, (.one (.ref 7 0))), (2, (.one (.ref 15 0))), (3, (.one (.ref 23 0))), (4, (.one (.v (.int .i64) p0))), (5, (.one (.v (.int .i64) p1)))] [(7, (.box 40 [(.v (.int .u8) p2), (.v (.sl (.int .u8)) p3), (.v (.int .u16) p4)])), (15, (.box 25 [(.v (.int .i64) p5), (.v (.int .i64) p6), (.row 31), (.row 39)])), (23, (.box 25 [(.v (.int .i64) p7), (.v (.int .i64) p8), (.row 47), (.row 55)])), (31, (.row 28 (.sl (.int .i64)) p9 false)), (39, (.row 4 .bool p10 false)), (47, (.row 28 (.sl (.int .i64)) p11 false)), (55, (.row 4 .bool p12 false))])
noncomputable def difference_CheckWithin.l5 (p0 : (List (Int × Int))) (p1 : Int) (p2 : Int) (p3 : Int) (p4 : Int) (p5 : (List (List Int))) (p6 : (List Bool)) (p7 : Int) (p8 : Int) (p9 : (List (List Int))) (p10 : (List Bool)) (p11 : (List (Int × Int))) : Option (Bool × Unit) := Go.Proofs.R.loopAt Go.Proofs.C28.ctx (Go.Proofs.R.Einf Go.Proofs.C28.ctx) 27 5 (.mk [(3, (.one (.ref 7 0))), (4, (.one (.ref 15 0))), (5, (.one (.ref 23 0))), (7, (.one (.clo 60 [(.ref 23 0)]))), (19, (.one (.v (.sl (.pair (.int .i64) (.int .i64))) p0))), (20, (.one (.v (.int .i64) p1))), (21, (.one (.v (.int .i64) p2)))] [(7, (.box 25 [(.v (.int .i64) p3), (.v (.int .i64) p4), (.v (.sl (.sl (.int .i64))) p5), (.v (.sl .bool) p6)])), (15, (.box 25 [(.v (.int .i64) p7), (.v (.int .i64) p8), (.v (.sl (.sl (.int .i64))) p9), (.v (.sl .bool) p10)])), (23, (.box 49 [(.v (.sl (.pair (.int .i64) (.int .i64))) p11)]))])
noncomputable def ancepsref28_index.f (p0 : (List (Int × Int))) (p1 : Int) (p2 : Int) : Option (Int × Unit) := (Go.Proofs.R.Einf Go.Proofs.C28.ctx).call 49 [(.one (.v (.sl (.pair (.int .i64) (.int .i64))) p0)), (.agg [(.v (.int .i64) p1), (.v (.int .i64) p2)])]
noncomputable def ancepsref28_CheckWithin.l4 (p0 : (List (Int × Int))) (p1 : Int) (p2 : Int) (p3 : Int) (p4 : (List (List Int))) (p5 : (List Bool)) (p6 : Int) (p7 : Int) (p8 : (List (List Int))) (p9 : (List Bool)) : Option (Bool × Unit) := Go.Proofs.R.loopAt Go.Proofs.C28.ctx (Go.Proofs.R.Einf Go.Proofs.C28.ctx) 29 4 (.mk [(2, (.one (.v (.sl (.pair (.int .i64) (.int .i64))) p0))), (3, (.one (.ref 7 0))), (4, (.one (.ref 15 0))), (7, (.one (.v (.int .i64) p1)))] [(7, (.box 25 [(.v (.int .i64) p2), (.v (.int .i64) p3), (.v (.sl (.sl (.int .i64))) p4), (.v (.sl .bool) p5)])), (15, (.box 25 [(.v (.int .i64) p6), (.v (.int .i64) p7), (.v (.sl (.sl (.int .i64))) p8), (.v (.sl .bool) p9)]))])
noncomputable def ancepsref28_Few.l7 (p0 : Int) (p1 : Int) (p2 : Int) (p3 : Int) (p4 : (List (List Int))) (p5 : (List Bool)) (p6 : Int) (p7 : Int) (p8 : (List (List Int))) (p9 : (List Bool)) : Option (Bool × Unit) := Go.Proofs.R.loopAt Go.Proofs.C28.ctx (Go.Proofs.R.Einf Go.Proofs.C28.ctx) 12 7 (.mk [(2, (.one (.ref 7 0))), (3, (.one (.ref 15 0))), (5, (.one (.v (.int .i64) p0))), (7, (.one (.v (.int .i64) p1)))] [(7, (.box 25 [(.v (.int .i64) p2), (.v (.int .i64) p3), (.v (.sl (.sl (.int .i64))) p4), (.v (.sl .bool) p5)])), (15, (.box 25 [(.v (.int .i64) p6), (.v (.int .i64) p7), (.v (.sl (.sl (.int .i64))) p8), (.v (.sl .bool) p9)]))])
noncomputable def difference_side.f1 (p0 : Int) (p1 : Int) (p2 : (List (List Int))) (p3 : (List Bool)) (p4 : Int) (p5 : Int) (p6 : (List (List Int))) (p7 : (List Bool)) : Option ((List ((Int × Int) × (Int × Int))) × Unit) := (Go.Proofs.R.Einf Go.Proofs.C28.ctx).call 54 [(.agg [(.v (.int .i64) p0), (.v (.int .i64) p1), (.v (.sl (.sl (.int .i64))) p2), (.v (.sl .bool) p3)]), (.agg [(.v (.int .i64) p4), (.v (.int .i64) p5), (.v (.sl (.sl (.int .i64))) p6), (.v (.sl .bool) p7)]), (.one (.clo 41 []))]
noncomputable def difference_apart.l3 (p0 : Int) (p1 : Int) (p2 : Int) (p3 : Int) (p4 : (List (List Int))) (p5 : (List Bool)) (p6 : Int) (p7 : Int) (p8 : (List (List Int))) (p9 : (List Bool)) (p10 : (List ((Int × Int) × (Int × Int)))) : Option ((List Int) × (Int × Unit)) := Go.Proofs.R.loopAt Go.Proofs.C28.ctx (Go.Proofs.R.Einf Go.Proofs.C28.ctx) 39 3 (.mk [(2, (.one (.ref 7 0))), (3, (.one (.ref 15 0))), (6, (.one (.row 23))), (15, (.one (.row 23))), (16, (.one (.v (.int .i64) p0))), (17, (.one (.v (.int .i64) p1)))] [(7, (.box 25 [(.v (.int .i64) p2), (.v (.int .i64) p3), (.v (.sl (.sl (.int .i64))) p4), (.v (.sl .bool) p5)])), (15, (.box 25 [(.v (.int .i64) p6), (.v (.int .i64) p7), (.v (.sl (.sl (.int .i64))) p8), (.v (.sl .bool) p9)])), (23, (.row 79 (.pair (.pair (.int .i64) (.int .i64)) (.pair (.int .i64) (.int .i64))) p10 false))])
noncomputable def ancepsref06_Valid.f (p0 : Int) (p1 : Int) (p2 : (List (List Int))) (p3 : (List Bool)) : Option (Int × Unit) := (Go.Proofs.R.Einf Go.Proofs.C28.ctx).call 69 [(.agg [(.v (.int .i64) p0), (.v (.int .i64) p1), (.v (.sl (.sl (.int .i64))) p2), (.v (.sl .bool) p3)])]
noncomputable def ancepsref28_tells.l3 (p0 : Int) (p1 : Int) (p2 : Int) (p3 : (List (List Int))) (p4 : (List Bool)) (p5 : Int) (p6 : Int) (p7 : (List (List Int))) (p8 : (List Bool)) (p9 : (List (Int × Int))) (p10 : (List (List Int))) : Option ((List Int) × (Int × Unit)) := Go.Proofs.R.loopAt Go.Proofs.C28.ctx (Go.Proofs.R.Einf Go.Proofs.C28.ctx) 45 3 (.mk [(2, (.one (.ref 7 0))), (3, (.one (.ref 15 0))), (6, (.one (.ref 23 0))), (7, (.one (.v (.int .i64) p0)))] [(7, (.box 25 [(.v (.int .i64) p1), (.v (.int .i64) p2), (.v (.sl (.sl (.int .i64))) p3), (.v (.sl .bool) p4)])), (15, (.box 25 [(.v (.int .i64) p5), (.v (.int .i64) p6), (.v (.sl (.sl (.int .i64))) p7), (.v (.sl .bool) p8)])), (23, (.box 72 [(.v (.sl (.pair (.int .i64) (.int .i64))) p9), (.v (.sl (.sl (.int .i64))) p10)]))])
noncomputable def difference_visit.f1 (p0 : (List ((Int × Int) × (Int × Int)))) (p1 : Int) (p2 : Int) (p3 : (List (List Int))) (p4 : (List Bool)) (p5 : Int) (p6 : Int) (p7 : (List (List Int))) (p8 : (List Bool)) : Option (Bool × Unit) := (Go.Proofs.R.Einf Go.Proofs.C28.ctx).call 53 [(.one (.v (.sl (.pair (.pair (.int .i64) (.int .i64)) (.pair (.int .i64) (.int .i64)))) p0)), (.one (.clo 68 [(.pref [(.v (.int .i64) p1), (.v (.int .i64) p2), (.v (.sl (.sl (.int .i64))) p3), (.v (.sl .bool) p4)] 0), (.pref [(.v (.int .i64) p5), (.v (.int .i64) p6), (.v (.sl (.sl (.int .i64))) p7), (.v (.sl .bool) p8)] 0)]))]
noncomputable def ancepsref28_within.l3 (p0 : (List (Int × Int))) (p1 : Int) (p2 : Int) (p3 : Int) (p4 : (List (List Int))) (p5 : (List Bool)) (p6 : Int) (p7 : Int) (p8 : (List (List Int))) (p9 : (List Bool)) : Option (Bool × Unit) := Go.Proofs.R.loopAt Go.Proofs.C28.ctx (Go.Proofs.R.Einf Go.Proofs.C28.ctx) 46 3 (.mk [(2, (.one (.ref 7 0))), (3, (.one (.ref 15 0))), (5, (.one (.v (.sl (.pair (.int .i64) (.int .i64))) p0))), (6, (.one (.v (.int .i64) p1)))] [(7, (.box 25 [(.v (.int .i64) p2), (.v (.int .i64) p3), (.v (.sl (.sl (.int .i64))) p4), (.v (.sl .bool) p5)])), (15, (.box 25 [(.v (.int .i64) p6), (.v (.int .i64) p7), (.v (.sl (.sl (.int .i64))) p8), (.v (.sl .bool) p9)]))])
noncomputable def difference_left.f (p0 : Int) (p1 : Int) : Option (Bool × Unit) := (Go.Proofs.R.Einf Go.Proofs.C28.ctx).call 55 [(.agg [(.v (.int .i64) p0), (.v (.int .i64) p1)])]
noncomputable def difference_side.l7 (p0 : Int) (p1 : Int) (p2 : Int) (p3 : (List (List Int))) (p4 : (List Bool)) (p5 : Int) (p6 : Int) (p7 : (List (List Int))) (p8 : (List Bool)) (p9 : (List ((Int × Int) × (Int × Int)))) (p10 : (List ((Int × Int) × Bool))) : Option ((List ((Int × Int) × (Int × Int))) × Unit) := Go.Proofs.R.loopAt Go.Proofs.C28.ctx (Go.Proofs.R.Einf Go.Proofs.C28.ctx) 54 7 (.mk [(2, (.one (.clo 55 []))), (3, (.one (.ref 7 0))), (4, (.one (.ref 15 0))), (8, (.one (.row 23))), (9, (.one (.mp 31))), (10, (.one (.v (.int .i64) p0)))] [(7, (.box 25 [(.v (.int .i64) p1), (.v (.int .i64) p2), (.v (.sl (.sl (.int .i64))) p3), (.v (.sl .bool) p4)])), (15, (.box 25 [(.v (.int .i64) p5), (.v (.int .i64) p6), (.v (.sl (.sl (.int .i64))) p7), (.v (.sl .bool) p8)])), (23, (.row 79 (.pair (.pair (.int .i64) (.int .i64)) (.pair (.int .i64) (.int .i64))) p9 false)), (31, (.mp 53 4 (.pair (.int .i64) (.int .i64)) .bool p10))])
noncomputable def difference_visit_70.f (p0 : (List ((Int × Int) × (Int × Int)))) (p1 : Int) (p2 : Int) (p3 : (List (List Int))) (p4 : (List Bool)) (p5 : Int) (p6 : Int) (p7 : (List (List Int))) (p8 : (List Bool)) : Option (Int × Unit) := (Go.Proofs.R.Einf Go.Proofs.C28.ctx).call 70 [(.one (.v (.sl (.pair (.pair (.int .i64) (.int .i64)) (.pair (.int .i64) (.int .i64)))) p0)), (.one (.clo 56 [(.pref [(.v (.int .i64) p1), (.v (.int .i64) p2), (.v (.sl (.sl (.int .i64))) p3), (.v (.sl .bool) p4)] 0), (.pref [(.v (.int .i64) p5), (.v (.int .i64) p6), (.v (.sl (.sl (.int .i64))) p7), (.v (.sl .bool) p8)] 0)]))]
noncomputable def ancepsref28_reach.l6 (p0 : Int) (p1 : Int) (p2 : Int) (p3 : (List (List Int))) (p4 : (List Bool)) (p5 : Int) (p6 : Int) (p7 : (List (List Int))) (p8 : (List Bool)) (p9 : (List (Int × Int))) (p10 : (List (List Int))) (p11 : (List (Int × Int))) (p12 : (List (List Int))) : Option ((List (Int × Int)) × ((List (List Int)) × Unit)) := Go.Proofs.R.loopAt Go.Proofs.C28.ctx (Go.Proofs.R.Einf Go.Proofs.C28.ctx) 47 6 (.mk [(2, (.one (.ref 7 0))), (3, (.one (.ref 15 0))), (4, (.one (.ref 23 0))), (5, (.one (.ref 31 0))), (6, (.one (.v (.int .i64) p0)))] [(7, (.box 25 [(.v (.int .i64) p1), (.v (.int .i64) p2), (.v (.sl (.sl (.int .i64))) p3), (.v (.sl .bool) p4)])), (15, (.box 25 [(.v (.int .i64) p5), (.v (.int .i64) p6), (.v (.sl (.sl (.int .i64))) p7), (.v (.sl .bool) p8)])), (23, (.box 72 [(.row 39), (.row 47)])), (31, (.box 72 [(.row 55), (.row 63)])), (39, (.row 53 (.pair (.int .i64) (.int .i64)) p9 false)), (47, (.row 28 (.sl (.int .i64)) p10 false)), (55, (.row 53 (.pair (.int .i64) (.int .i64)) p11 false)), (63, (.row 28 (.sl (.int .i64)) p12 false))])
noncomputable def ancepsref28_accepts.f (p0 : Int) (p1 : Int) (p2 : (List (List Int))) (p3 : (List Bool)) (p4 : Int) : Option (Bool × Unit) := (Go.Proofs.R.Einf Go.Proofs.C28.ctx).call 48 [(.agg [(.v (.int .i64) p0), (.v (.int .i64) p1), (.v (.sl (.sl (.int .i64))) p2), (.v (.sl .bool) p3)]), (.one (.v (.int .i64) p4))]
noncomputable def automaton_Valid.l7 (p0 : (List (List Int))) (p1 : Int) (p2 : Int) (p3 : Int) (p4 : Int) (p5 : (List (List Int))) (p6 : (List Bool)) (p7 : Int) : Option (Int × Unit) := Go.Proofs.R.loopAt Go.Proofs.C28.ctx (Go.Proofs.R.Einf Go.Proofs.C28.ctx) 57 7 (.mk [(1, (.one (.ref 7 0))), (3, (.one (.ref 15 0))), (47, (.one (.v (.sl (.sl (.int .i64))) p0))), (48, (.one (.v (.int .i64) p1))), (49, (.one (.v (.int .i64) p2)))] [(7, (.box 25 [(.v (.int .i64) p3), (.v (.int .i64) p4), (.v (.sl (.sl (.int .i64))) p5), (.v (.sl .bool) p6)])), (15, (.box 3 [(.v (.int .i64) p7)]))])
noncomputable def automaton_Run.l5 (p0 : Int) (p1 : (List Int)) (p2 : Int) (p3 : Int) (p4 : Int) (p5 : Int) (p6 : (List (List Int))) (p7 : (List Bool)) : Option (Int × Unit) := Go.Proofs.R.loopAt Go.Proofs.C28.ctx (Go.Proofs.R.Einf Go.Proofs.C28.ctx) 59 5 (.mk [(2, (.one (.ref 7 0))), (5, (.one (.v (.int .i64) p0))), (13, (.one (.v (.sl (.int .i64)) p1))), (14, (.one (.v (.int .i64) p2))), (15, (.one (.v (.int .i64) p3)))] [(7, (.box 25 [(.v (.int .i64) p4), (.v (.int .i64) p5), (.v (.sl (.sl (.int .i64))) p6), (.v (.sl .bool) p7)]))])
noncomputable def difference_Compare.l17 (p0 : Int) (p1 : Int) (p2 : Int) (p3 : Int) (p4 : Int) (p5 : Int) (p6 : Int) (p7 : (List (List Int))) (p8 : (List Bool)) (p9 : Int) (p10 : Int) (p11 : (List (List Int))) (p12 : (List Bool)) (p13 : Bool) (p14 : Bool) (p15 : Bool) (p16 : Bool) (p17 : Bool) (p18 : Bool) (p19 : (List ((Int × Int) × Int))) (p20 : Nat) (p21 : (List Nat)) (p22 : (List Int)) (p23 : (List Int)) (p24 : (List Int)) (p25 : (List Int)) (p26 : (List Int)) (p27 : (List Int)) (p28 : (List Int)) (p29 : (List Int)) (p30 : (List ((Int × Int) × Int))) : Option (Bool × (Bool × (Bool × ((List Int) × ((List Int) × ((List Int) × ((List Int) × (Int × Unit)))))))) := Go.Proofs.R.loopAt Go.Proofs.C28.ctx (Go.Proofs.R.Einf Go.Proofs.C28.ctx) 13 17 (.mk [(3, (.one (.ref 7 0))), (4, (.one (.ref 15 0))), (6, (.one (.ref 23 0))), (11, (.one (.ref 31 0))), (14, (.one (.v (.int .i64) p0))), (15, (.one (.v (.int .i64) p1))), (16, (.one (.v (.int .i64) p2))), (17, (.one (.mp 39))), (65, (.one (.v (.int .i64) p3))), (66, (.one (.v (.int .i64) p4))), (70, (.one (.ref 47 0)))] [(7, (.box 25 [(.v (.int .i64) p5), (.v (.int .i64) p6), (.v (.sl (.sl (.int .i64))) p7), (.v (.sl .bool) p8)])), (15, (.box 25 [(.v (.int .i64) p9), (.v (.int .i64) p10), (.v (.sl (.sl (.int .i64))) p11), (.v (.sl .bool) p12)])), (23, (.box 31 [(.v .bool p13), (.v .bool p14), (.v .bool p15), (.row 55), (.row 63), (.row 71), (.row 79)])), (31, (.box 31 [(.v .bool p16), (.v .bool p17), (.v .bool p18), (.row 87), (.row 95), (.row 103), (.row 111)])), (39, (.mp 53 2 (.pair (.int .i64) (.int .i64)) (.int .i64) p19)), (47, (.miter (.mp 119) p20 p21)), (55, (.row 3 (.int .i64) p22 false)), (63, (.row 2 (.int .i64) p23 false)), (71, (.row 2 (.int .i64) p24 false)), (79, (.row 2 (.int .i64) p25 false)), (87, (.row 3 (.int .i64) p26 false)), (95, (.row 2 (.int .i64) p27 false)), (103, (.row 2 (.int .i64) p28 false)), (111, (.row 2 (.int .i64) p29 false)), (119, (.mp 53 2 (.pair (.int .i64) (.int .i64)) (.int .i64) p30))])
noncomputable def ancepsref28_Compare.l18 (p0 : Int) (p1 : (List (Int × Int))) (p2 : Int) (p3 : Int) (p4 : Int) (p5 : Int) (p6 : Int) (p7 : Int) (p8 : Int) (p9 : (List (List Int))) (p10 : (List Bool)) (p11 : Int) (p12 : Int) (p13 : (List (List Int))) (p14 : (List Bool)) (p15 : Bool) (p16 : Bool) (p17 : Bool) (p18 : Bool) (p19 : Bool) (p20 : Bool) (p21 : (List Int)) (p22 : (List Int)) (p23 : (List Int)) (p24 : (List Int)) (p25 : (List Int)) (p26 : (List Int)) (p27 : (List Int)) (p28 : (List Int)) (p29 : (List Int)) (p30 : (List Int)) : Option (Bool × (Bool × (Bool × ((List Int) × ((List Int) × ((List Int) × ((List Int) × (Int × Unit)))))))) := Go.Proofs.R.loopAt Go.Proofs.C28.ctx (Go.Proofs.R.Einf Go.Proofs.C28.ctx) 14 18 (.mk [(2, (.one (.v (.int .i64) p0))), (3, (.one (.ref 7 0))), (4, (.one (.ref 15 0))), (6, (.one (.ref 23 0))), (11, (.one (.ref 31 0))), (12, (.one (.v (.sl (.pair (.int .i64) (.int .i64))) p1))), (13, (.one (.row 39))), (14, (.one (.v (.int .i64) p2))), (15, (.one (.v (.int .i64) p3))), (16, (.one (.v (.int .i64) p4))), (17, (.one (.v (.int .i64) p5))), (18, (.one (.row 47))), (19, (.one (.v (.int .i64) p6)))] [(7, (.box 25 [(.v (.int .i64) p7), (.v (.int .i64) p8), (.v (.sl (.sl (.int .i64))) p9), (.v (.sl .bool) p10)])), (15, (.box 25 [(.v (.int .i64) p11), (.v (.int .i64) p12), (.v (.sl (.sl (.int .i64))) p13), (.v (.sl .bool) p14)])), (23, (.box 31 [(.v .bool p15), (.v .bool p16), (.v .bool p17), (.row 55), (.row 63), (.row 71), (.row 79)])), (31, (.box 31 [(.v .bool p18), (.v .bool p19), (.v .bool p20), (.v (.sl (.int .i64)) p21), (.row 87), (.row 95), (.row 103)])), (39, (.row 2 (.int .i64) p22 false)), (47, (.row 2 (.int .i64) p23 false)), (55, (.row 3 (.int .i64) p24 false)), (63, (.row 2 (.int .i64) p25 false)), (71, (.row 2 (.int .i64) p26 false)), (79, (.row 2 (.int .i64) p27 false)), (87, (.row 2 (.int .i64) p28 false)), (95, (.row 2 (.int .i64) p29 false)), (103, (.row 2 (.int .i64) p30 false))])
noncomputable def ancepsref06_Equal.l4 (p0 : (List Int)) (p1 : (List Int)) (p2 : Int) : Option (Bool × Unit) := Go.Proofs.R.loopAt Go.Proofs.C28.ctx (Go.Proofs.R.Einf Go.Proofs.C28.ctx) 51 4 (.mk [(0, (.one (.v (.sl (.int .i64)) p0))), (1, (.one (.v (.sl (.int .i64)) p1))), (5, (.one (.v (.int .i64) p2)))] [])
noncomputable def ancepsref28_numbers.l4 (p0 : (List Int)) (p1 : (List Int)) (p2 : Int) : Option (Bool × Unit) := Go.Proofs.R.loopAt Go.Proofs.C28.ctx (Go.Proofs.R.Einf Go.Proofs.C28.ctx) 52 4 (.mk [(0, (.one (.v (.sl (.int .i64)) p0))), (1, (.one (.v (.sl (.int .i64)) p1))), (5, (.one (.v (.int .i64) p2)))] [])
noncomputable def ancepsref06_Made.l8 (p0 : Int) (p1 : Int) (p2 : Int) (p3 : Int) (p4 : (List Int)) (p5 : Int) (p6 : Int) (p7 : Int) (p8 : Int) (p9 : Int) (p10 : (List Int)) (p11 : (List (List Int))) (p12 : (List Bool)) (p13 : (List (List Int))) (p14 : (List Bool)) : Option (Int × (Int × ((List (List Int)) × ((List Bool) × Unit)))) := Go.Proofs.R.loopAt Go.Proofs.C28.ctx (Go.Proofs.R.Einf Go.Proofs.C28.ctx) 16 8 (.mk [(1, (.one (.ref 7 0))), (2, (.one (.ref 15 0))), (3, (.one (.ref 23 0))), (4, (.one (.v (.int .i64) p0))), (5, (.one (.v (.int .i64) p1))), (6, (.one (.row 31))), (7, (.one (.v (.int .i64) p2)))] [(7, (.box 40 [(.v (.int .u8) p3), (.v (.sl (.int .u8)) p4), (.v (.int .u16) p5)])), (15, (.box 25 [(.v (.int .i64) p6), (.v (.int .i64) p7), (.row 39), (.row 47)])), (23, (.box 25 [(.v (.int .i64) p8), (.v (.int .i64) p9), (.row 55), (.row 63)])), (31, (.row 3 (.int .i64) p10 false)), (39, (.row 28 (.sl (.int .i64)) p11 false)), (47, (.row 4 .bool p12 false)), (55, (.row 28 (.sl (.int .i64)) p13 false)), (63, (.row 4 .bool p14 false))])
noncomputable def difference_order.f (p0 : Int) (p1 : Int) (p2 : Int) (p3 : Int) : Option (Int × Unit) := (Go.Proofs.R.Einf Go.Proofs.C28.ctx).call 62 [(.agg [(.v (.int .i64) p0), (.v (.int .i64) p1)]), (.agg [(.v (.int .i64) p2), (.v (.int .i64) p3)])]
noncomputable def difference_CheckWithin.l11 (p0 : (List (Int × Int))) (p1 : Int) (p2 : Int) (p3 : Int) (p4 : Int) (p5 : (List (List Int))) (p6 : (List Bool)) (p7 : Int) (p8 : Int) (p9 : (List (List Int))) (p10 : (List Bool)) (p11 : (List (Int × Int))) : Option (Bool × Unit) := Go.Proofs.R.loopAt Go.Proofs.C28.ctx (Go.Proofs.R.Einf Go.Proofs.C28.ctx) 27 11 (.mk [(3, (.one (.ref 7 0))), (4, (.one (.ref 15 0))), (7, (.one (.clo 60 [(.ref 23 0)]))), (65, (.one (.v (.sl (.pair (.int .i64) (.int .i64))) p0))), (66, (.one (.v (.int .i64) p1))), (67, (.one (.v (.int .i64) p2)))] [(7, (.box 25 [(.v (.int .i64) p3), (.v (.int .i64) p4), (.v (.sl (.sl (.int .i64))) p5), (.v (.sl .bool) p6)])), (15, (.box 25 [(.v (.int .i64) p7), (.v (.int .i64) p8), (.v (.sl (.sl (.int .i64))) p9), (.v (.sl .bool) p10)])), (23, (.box 49 [(.v (.sl (.pair (.int .i64) (.int .i64))) p11)]))])
noncomputable def ancepsref28_index.l2 (p0 : (List (Int × Int))) (p1 : Int) (p2 : Int) (p3 : Int) : Option (Int × Unit) := Go.Proofs.R.loopAt Go.Proofs.C28.ctx (Go.Proofs.R.Einf Go.Proofs.C28.ctx) 49 2 (.mk [(0, (.one (.v (.sl (.pair (.int .i64) (.int .i64))) p0))), (3, (.one (.ref 7 0))), (5, (.one (.v (.int .i64) p1)))] [(7, (.box 53 [(.v (.int .i64) p2), (.v (.int .i64) p3)]))])
noncomputable def ancepsref28_less.f (p0 : Int) (p1 : Int) (p2 : Int) (p3 : Int) : Option (Bool × Unit) := (Go.Proofs.R.Einf Go.Proofs.C28.ctx).call 63 [(.agg [(.v (.int .i64) p0), (.v (.int .i64) p1)]), (.agg [(.v (.int .i64) p2), (.v (.int .i64) p3)])]
noncomputable def ancepsref28_CheckWithin.l10 (p0 : (List (Int × Int))) (p1 : Int) (p2 : Int) (p3 : Int) (p4 : Int) (p5 : (List (List Int))) (p6 : (List Bool)) (p7 : Int) (p8 : Int) (p9 : (List (List Int))) (p10 : (List Bool)) (p11 : Int) (p12 : Int) : Option (Bool × Unit) := Go.Proofs.R.loopAt Go.Proofs.C28.ctx (Go.Proofs.R.Einf Go.Proofs.C28.ctx) 29 10 (.mk [(2, (.one (.v (.sl (.pair (.int .i64) (.int .i64))) p0))), (3, (.one (.ref 7 0))), (4, (.one (.ref 15 0))), (7, (.one (.v (.int .i64) p1))), (8, (.one (.ref 23 0))), (9, (.one (.v (.int .i64) p2)))] [(7, (.box 25 [(.v (.int .i64) p3), (.v (.int .i64) p4), (.v (.sl (.sl (.int .i64))) p5), (.v (.sl .bool) p6)])), (15, (.box 25 [(.v (.int .i64) p7), (.v (.int .i64) p8), (.v (.sl (.sl (.int .i64))) p9), (.v (.sl .bool) p10)])), (23, (.box 53 [(.v (.int .i64) p11), (.v (.int .i64) p12)]))])
noncomputable def difference_side.l7_1 (p0 : Int) (p1 : Int) (p2 : Int) (p3 : (List (List Int))) (p4 : (List Bool)) (p5 : Int) (p6 : Int) (p7 : (List (List Int))) (p8 : (List Bool)) (p9 : (List ((Int × Int) × (Int × Int)))) (p10 : (List ((Int × Int) × Bool))) : Option ((List ((Int × Int) × (Int × Int))) × Unit) := Go.Proofs.R.loopAt Go.Proofs.C28.ctx (Go.Proofs.R.Einf Go.Proofs.C28.ctx) 54 7 (.mk [(2, (.one (.clo 41 []))), (3, (.one (.ref 7 0))), (4, (.one (.ref 15 0))), (8, (.one (.row 23))), (9, (.one (.mp 31))), (10, (.one (.v (.int .i64) p0)))] [(7, (.box 25 [(.v (.int .i64) p1), (.v (.int .i64) p2), (.v (.sl (.sl (.int .i64))) p3), (.v (.sl .bool) p4)])), (15, (.box 25 [(.v (.int .i64) p5), (.v (.int .i64) p6), (.v (.sl (.sl (.int .i64))) p7), (.v (.sl .bool) p8)])), (23, (.row 79 (.pair (.pair (.int .i64) (.int .i64)) (.pair (.int .i64) (.int .i64))) p9 false)), (31, (.mp 53 4 (.pair (.int .i64) (.int .i64)) .bool p10))])
noncomputable def difference_accepts.f (p0 : Int) (p1 : Int) (p2 : (List (List Int))) (p3 : (List Bool)) (p4 : Int) : Option (Bool × Unit) := (Go.Proofs.R.Einf Go.Proofs.C28.ctx).call 42 [(.agg [(.v (.int .i64) p0), (.v (.int .i64) p1), (.v (.sl (.sl (.int .i64))) p2), (.v (.sl .bool) p3)]), (.one (.v (.int .i64) p4))]
noncomputable def difference_apart.l9 (p0 : Bool) (p1 : Int) (p2 : (List ((Int × Int) × (Int × Int)))) (p3 : (List Int)) : Option ((List Int) × (Int × Unit)) := Go.Proofs.R.loopAt Go.Proofs.C28.ctx (Go.Proofs.R.Einf Go.Proofs.C28.ctx) 39 9 (.mk [(6, (.one (.row 7))), (9, (.one (.v .bool p0))), (10, (.one (.row 15))), (11, (.one (.v (.int .i64) p1)))] [(7, (.row 79 (.pair (.pair (.int .i64) (.int .i64)) (.pair (.int .i64) (.int .i64))) p2 false)), (15, (.row 3 (.int .i64) p3 false))])
noncomputable def ancepsref06_Valid.l7 (p0 : Int) (p1 : Int) (p2 : Int) (p3 : Int) (p4 : (List (List Int))) (p5 : (List Bool)) : Option (Int × Unit) := Go.Proofs.R.loopAt Go.Proofs.C28.ctx (Go.Proofs.R.Einf Go.Proofs.C28.ctx) 69 7 (.mk [(1, (.one (.ref 7 0))), (3, (.one (.v (.int .i64) p0))), (4, (.one (.v (.int .i64) p1)))] [(7, (.box 25 [(.v (.int .i64) p2), (.v (.int .i64) p3), (.v (.sl (.sl (.int .i64))) p4), (.v (.sl .bool) p5)]))])
noncomputable def difference_visit_70.f1 (p0 : (List ((Int × Int) × (Int × Int)))) (p1 : Int) (p2 : Int) (p3 : (List (List Int))) (p4 : (List Bool)) (p5 : Int) (p6 : Int) (p7 : (List (List Int))) (p8 : (List Bool)) : Option (Int × Unit) := (Go.Proofs.R.Einf Go.Proofs.C28.ctx).call 70 [(.one (.v (.sl (.pair (.pair (.int .i64) (.int .i64)) (.pair (.int .i64) (.int .i64)))) p0)), (.one (.clo 68 [(.pref [(.v (.int .i64) p1), (.v (.int .i64) p2), (.v (.sl (.sl (.int .i64))) p3), (.v (.sl .bool) p4)] 0), (.pref [(.v (.int .i64) p5), (.v (.int .i64) p6), (.v (.sl (.sl (.int .i64))) p7), (.v (.sl .bool) p8)] 0)]))]
noncomputable def difference_side.l10 (p0 : Int) (p1 : Int) (p2 : Int) (p3 : Int) (p4 : Int) (p5 : (List (List Int))) (p6 : (List Bool)) (p7 : Int) (p8 : Int) (p9 : (List (List Int))) (p10 : (List Bool)) (p11 : (List ((Int × Int) × (Int × Int)))) (p12 : (List ((Int × Int) × Bool))) : Option ((List ((Int × Int) × (Int × Int))) × Unit) := Go.Proofs.R.loopAt Go.Proofs.C28.ctx (Go.Proofs.R.Einf Go.Proofs.C28.ctx) 54 10 (.mk [(2, (.one (.clo 55 []))), (3, (.one (.ref 7 0))), (4, (.one (.ref 15 0))), (8, (.one (.row 23))), (9, (.one (.mp 31))), (10, (.one (.v (.int .i64) p0))), (35, (.one (.v (.int .i64) p1))), (36, (.one (.v (.int .i64) p2)))] [(7, (.box 25 [(.v (.int .i64) p3), (.v (.int .i64) p4), (.v (.sl (.sl (.int .i64))) p5), (.v (.sl .bool) p6)])), (15, (.box 25 [(.v (.int .i64) p7), (.v (.int .i64) p8), (.v (.sl (.sl (.int .i64))) p9), (.v (.sl .bool) p10)])), (23, (.row 79 (.pair (.pair (.int .i64) (.int .i64)) (.pair (.int .i64) (.int .i64))) p11 false)), (31, (.mp 53 4 (.pair (.int .i64) (.int .i64)) .bool p12))])
noncomputable def difference_visit_70.l2 (p0 : (List ((Int × Int) × (Int × Int)))) (p1 : Int) (p2 : Int) (p3 : (List (List Int))) (p4 : (List Bool)) (p5 : Int) (p6 : Int) (p7 : (List (List Int))) (p8 : (List Bool)) (p9 : Int) (p10 : Int) : Option (Int × Unit) := Go.Proofs.R.loopAt Go.Proofs.C28.ctx (Go.Proofs.R.Einf Go.Proofs.C28.ctx) 70 2 (.mk [(0, (.one (.v (.sl (.pair (.pair (.int .i64) (.int .i64)) (.pair (.int .i64) (.int .i64)))) p0))), (1, (.one (.clo 56 [(.pref [(.v (.int .i64) p1), (.v (.int .i64) p2), (.v (.sl (.sl (.int .i64))) p3), (.v (.sl .bool) p4)] 0), (.pref [(.v (.int .i64) p5), (.v (.int .i64) p6), (.v (.sl (.sl (.int .i64))) p7), (.v (.sl .bool) p8)] 0)]))), (7, (.one (.v (.int .i64) p9))), (8, (.one (.v (.int .i64) p10)))] [])
noncomputable def ancepsref28_reach.l9 (p0 : Int) (p1 : Int) (p2 : Int) (p3 : Int) (p4 : (List (List Int))) (p5 : (List Bool)) (p6 : Int) (p7 : Int) (p8 : (List (List Int))) (p9 : (List Bool)) (p10 : (List (Int × Int))) (p11 : (List (List Int))) (p12 : (List (Int × Int))) (p13 : (List (List Int))) : Option ((List (Int × Int)) × ((List (List Int)) × Unit)) := Go.Proofs.R.loopAt Go.Proofs.C28.ctx (Go.Proofs.R.Einf Go.Proofs.C28.ctx) 47 9 (.mk [(2, (.one (.ref 7 0))), (3, (.one (.ref 15 0))), (4, (.one (.ref 23 0))), (5, (.one (.ref 31 0))), (6, (.one (.v (.int .i64) p0))), (7, (.one (.v (.int .i64) p1)))] [(7, (.box 25 [(.v (.int .i64) p2), (.v (.int .i64) p3), (.v (.sl (.sl (.int .i64))) p4), (.v (.sl .bool) p5)])), (15, (.box 25 [(.v (.int .i64) p6), (.v (.int .i64) p7), (.v (.sl (.sl (.int .i64))) p8), (.v (.sl .bool) p9)])), (23, (.box 72 [(.row 39), (.row 47)])), (31, (.box 72 [(.row 55), (.row 63)])), (39, (.row 53 (.pair (.int .i64) (.int .i64)) p10 false)), (47, (.row 28 (.sl (.int .i64)) p11 false)), (55, (.row 53 (.pair (.int .i64) (.int .i64)) p12 false)), (63, (.row 28 (.sl (.int .i64)) p13 false))])
noncomputable def slices_ContainsFunc_int_int.f (p0 : (List Int)) (p1 : Int) : Option (Bool × Unit) := (Go.Proofs.R.Einf Go.Proofs.C28.ctx).call 71 [(.one (.v (.sl (.int .i64)) p0)), (.one (.clo 72 [(.pref [(.v (.int .i64) p1)] 0)]))]
noncomputable def automaton_next.f (p0 : Int) (p1 : Int) (p2 : (List (List Int))) (p3 : (List Bool)) (p4 : Int) (p5 : Int) : Option (Int × Unit) := (Go.Proofs.R.Einf Go.Proofs.C28.ctx).call 73 [(.agg [(.v (.int .i64) p0), (.v (.int .i64) p1), (.v (.sl (.sl (.int .i64))) p2), (.v (.sl .bool) p3)]), (.one (.v (.int .i64) p4)), (.one (.v (.int .i64) p5))]
noncomputable def difference_Compare.l27 (p0 : Int) (p1 : Int) (p2 : Int) (p3 : Int) (p4 : Int) (p5 : Int) (p6 : Int) (p7 : Int) (p8 : Int) (p9 : Int) (p10 : (List (List Int))) (p11 : (List Bool)) (p12 : Int) (p13 : Int) (p14 : (List (List Int))) (p15 : (List Bool)) (p16 : Bool) (p17 : Bool) (p18 : Bool) (p19 : Bool) (p20 : Bool) (p21 : Bool) (p22 : (List ((Int × Int) × Int))) (p23 : Int) (p24 : Int) (p25 : Nat) (p26 : (List Nat)) (p27 : (List Int)) (p28 : (List Int)) (p29 : (List Int)) (p30 : (List Int)) (p31 : (List Int)) (p32 : (List Int)) (p33 : (List Int)) (p34 : (List Int)) (p35 : (List ((Int × Int) × Int))) : Option (Bool × (Bool × (Bool × ((List Int) × ((List Int) × ((List Int) × ((List Int) × (Int × Unit)))))))) := Go.Proofs.R.loopAt Go.Proofs.C28.ctx (Go.Proofs.R.Einf Go.Proofs.C28.ctx) 13 27 (.mk [(3, (.one (.ref 7 0))), (4, (.one (.ref 15 0))), (6, (.one (.ref 23 0))), (11, (.one (.ref 31 0))), (14, (.one (.v (.int .i64) p0))), (15, (.one (.v (.int .i64) p1))), (16, (.one (.v (.int .i64) p2))), (17, (.one (.mp 39))), (18, (.one (.ref 47 0))), (19, (.one (.v (.int .i64) p3))), (65, (.one (.v (.int .i64) p4))), (66, (.one (.v (.int .i64) p5))), (70, (.one (.ref 55 0))), (103, (.one (.v (.int .i64) p6))), (104, (.one (.v (.int .i64) p7)))] [(7, (.box 25 [(.v (.int .i64) p8), (.v (.int .i64) p9), (.v (.sl (.sl (.int .i64))) p10), (.v (.sl .bool) p11)])), (15, (.box 25 [(.v (.int .i64) p12), (.v (.int .i64) p13), (.v (.sl (.sl (.int .i64))) p14), (.v (.sl .bool) p15)])), (23, (.box 31 [(.v .bool p16), (.v .bool p17), (.v .bool p18), (.row 63), (.row 71), (.row 79), (.row 87)])), (31, (.box 31 [(.v .bool p19), (.v .bool p20), (.v .bool p21), (.row 95), (.row 103), (.row 111), (.row 119)])), (39, (.mp 53 2 (.pair (.int .i64) (.int .i64)) (.int .i64) p22)), (47, (.box 53 [(.v (.int .i64) p23), (.v (.int .i64) p24)])), (55, (.miter (.mp 127) p25 p26)), (63, (.row 3 (.int .i64) p27 false)), (71, (.row 2 (.int .i64) p28 false)), (79, (.row 2 (.int .i64) p29 false)), (87, (.row 2 (.int .i64) p30 false)), (95, (.row 3 (.int .i64) p31 false)), (103, (.row 2 (.int .i64) p32 false)), (111, (.row 2 (.int .i64) p33 false)), (119, (.row 2 (.int .i64) p34 false)), (127, (.mp 53 2 (.pair (.int .i64) (.int .i64)) (.int .i64) p35))])
noncomputable def ancepsref28_Compare.l28 (p0 : Int) (p1 : (List (Int × Int))) (p2 : Int) (p3 : Int) (p4 : Int) (p5 : Int) (p6 : Int) (p7 : Int) (p8 : Int) (p9 : Int) (p10 : (List (List Int))) (p11 : (List Bool)) (p12 : Int) (p13 : Int) (p14 : (List (List Int))) (p15 : (List Bool)) (p16 : Bool) (p17 : Bool) (p18 : Bool) (p19 : Bool) (p20 : Bool) (p21 : Bool) (p22 : (List Int)) (p23 : (List Int)) (p24 : (List Int)) (p25 : (List Int)) (p26 : (List Int)) (p27 : (List Int)) (p28 : (List Int)) (p29 : (List Int)) (p30 : (List Int)) (p31 : (List Int)) : Option (Bool × (Bool × (Bool × ((List Int) × ((List Int) × ((List Int) × ((List Int) × (Int × Unit)))))))) := Go.Proofs.R.loopAt Go.Proofs.C28.ctx (Go.Proofs.R.Einf Go.Proofs.C28.ctx) 14 28 (.mk [(2, (.one (.v (.int .i64) p0))), (3, (.one (.ref 7 0))), (4, (.one (.ref 15 0))), (6, (.one (.ref 23 0))), (11, (.one (.ref 31 0))), (12, (.one (.v (.sl (.pair (.int .i64) (.int .i64))) p1))), (13, (.one (.row 39))), (14, (.one (.v (.int .i64) p2))), (15, (.one (.v (.int .i64) p3))), (16, (.one (.v (.int .i64) p4))), (17, (.one (.v (.int .i64) p5))), (18, (.one (.row 47))), (19, (.one (.v (.int .i64) p6))), (22, (.one (.v (.int .i64) p7)))] [(7, (.box 25 [(.v (.int .i64) p8), (.v (.int .i64) p9), (.v (.sl (.sl (.int .i64))) p10), (.v (.sl .bool) p11)])), (15, (.box 25 [(.v (.int .i64) p12), (.v (.int .i64) p13), (.v (.sl (.sl (.int .i64))) p14), (.v (.sl .bool) p15)])), (23, (.box 31 [(.v .bool p16), (.v .bool p17), (.v .bool p18), (.row 55), (.row 63), (.row 71), (.row 79)])), (31, (.box 31 [(.v .bool p19), (.v .bool p20), (.v .bool p21), (.v (.sl (.int .i64)) p22), (.row 87), (.row 95), (.row 103)])), (39, (.row 2 (.int .i64) p23 false)), (47, (.row 2 (.int .i64) p24 false)), (55, (.row 3 (.int .i64) p25 false)), (63, (.row 2 (.int .i64) p26 false)), (71, (.row 2 (.int .i64) p27 false)), (79, (.row 2 (.int .i64) p28 false)), (87, (.row 2 (.int .i64) p29 false)), (95, (.row 2 (.int .i64) p30 false)), (103, (.row 2 (.int .i64) p31 false))])
noncomputable def cmp_Compare_int.f (p0 : Int) (p1 : Int) : Option (Int × Unit) := (Go.Proofs.R.Einf Go.Proofs.C28.ctx).call 75 [(.one (.v (.int .i64) p0)), (.one (.v (.int .i64) p1))]
noncomputable def cmp_Or_int.f (p0 : (List Int)) : Option (Int × Unit) := (Go.Proofs.R.Einf Go.Proofs.C28.ctx).call 74 [(.one (.v (.sl (.int .i64)) p0))]
noncomputable def difference_CheckWithin.l16 (p0 : (List (Int × Int))) (p1 : Int) (p2 : Int) (p3 : Int) (p4 : Int) (p5 : Int) (p6 : Int) (p7 : (List (List Int))) (p8 : (List Bool)) (p9 : Int) (p10 : Int) (p11 : (List (List Int))) (p12 : (List Bool)) (p13 : (List (Int × Int))) (p14 : Int) (p15 : Int) : Option (Bool × Unit) := Go.Proofs.R.loopAt Go.Proofs.C28.ctx (Go.Proofs.R.Einf Go.Proofs.C28.ctx) 27 16 (.mk [(3, (.one (.ref 7 0))), (4, (.one (.ref 15 0))), (7, (.one (.clo 60 [(.ref 23 0)]))), (11, (.one (.ref 31 0))), (65, (.one (.v (.sl (.pair (.int .i64) (.int .i64))) p0))), (66, (.one (.v (.int .i64) p1))), (67, (.one (.v (.int .i64) p2))), (83, (.one (.v (.int .i64) p3))), (84, (.one (.v (.int .i64) p4)))] [(7, (.box 25 [(.v (.int .i64) p5), (.v (.int .i64) p6), (.v (.sl (.sl (.int .i64))) p7), (.v (.sl .bool) p8)])), (15, (.box 25 [(.v (.int .i64) p9), (.v (.int .i64) p10), (.v (.sl (.sl (.int .i64))) p11), (.v (.sl .bool) p12)])), (23, (.box 49 [(.v (.sl (.pair (.int .i64) (.int .i64))) p13)])), (31, (.box 53 [(.v (.int .i64) p14), (.v (.int .i64) p15)]))])
noncomputable def difference_CheckWithin_1.f (p0 : Int) (p1 : Int) (p2 : (List (Int × Int))) : Option (Bool × Unit) := (Go.Proofs.R.Einf Go.Proofs.C28.ctx).call 60 [(.agg [(.v (.int .i64) p0), (.v (.int .i64) p1)]), (.one (.pref [(.v (.sl (.pair (.int .i64) (.int .i64))) p2)] 0))]
noncomputable def ancepsref28_next.f (p0 : Int) (p1 : Int) (p2 : (List (List Int))) (p3 : (List Bool)) (p4 : Int) (p5 : Int) : Option (Int × Unit) := (Go.Proofs.R.Einf Go.Proofs.C28.ctx).call 50 [(.agg [(.v (.int .i64) p0), (.v (.int .i64) p1), (.v (.sl (.sl (.int .i64))) p2), (.v (.sl .bool) p3)]), (.one (.v (.int .i64) p4)), (.one (.v (.int .i64) p5))]
noncomputable def difference_side.l10_1 (p0 : Int) (p1 : Int) (p2 : Int) (p3 : Int) (p4 : Int) (p5 : (List (List Int))) (p6 : (List Bool)) (p7 : Int) (p8 : Int) (p9 : (List (List Int))) (p10 : (List Bool)) (p11 : (List ((Int × Int) × (Int × Int)))) (p12 : (List ((Int × Int) × Bool))) : Option ((List ((Int × Int) × (Int × Int))) × Unit) := Go.Proofs.R.loopAt Go.Proofs.C28.ctx (Go.Proofs.R.Einf Go.Proofs.C28.ctx) 54 10 (.mk [(2, (.one (.clo 41 []))), (3, (.one (.ref 7 0))), (4, (.one (.ref 15 0))), (8, (.one (.row 23))), (9, (.one (.mp 31))), (10, (.one (.v (.int .i64) p0))), (35, (.one (.v (.int .i64) p1))), (36, (.one (.v (.int .i64) p2)))] [(7, (.box 25 [(.v (.int .i64) p3), (.v (.int .i64) p4), (.v (.sl (.sl (.int .i64))) p5), (.v (.sl .bool) p6)])), (15, (.box 25 [(.v (.int .i64) p7), (.v (.int .i64) p8), (.v (.sl (.sl (.int .i64))) p9), (.v (.sl .bool) p10)])), (23, (.row 79 (.pair (.pair (.int .i64) (.int .i64)) (.pair (.int .i64) (.int .i64))) p11 false)), (31, (.mp 53 4 (.pair (.int .i64) (.int .i64)) .bool p12))])
noncomputable def ancepsref06_Valid.l12 (p0 : Int) (p1 : Int) (p2 : Int) (p3 : Int) (p4 : Int) (p5 : (List (List Int))) (p6 : (List Bool)) : Option (Int × Unit) := Go.Proofs.R.loopAt Go.Proofs.C28.ctx (Go.Proofs.R.Einf Go.Proofs.C28.ctx) 69 12 (.mk [(1, (.one (.ref 7 0))), (3, (.one (.v (.int .i64) p0))), (4, (.one (.v (.int .i64) p1))), (5, (.one (.v (.int .i64) p2)))] [(7, (.box 25 [(.v (.int .i64) p3), (.v (.int .i64) p4), (.v (.sl (.sl (.int .i64))) p5), (.v (.sl .bool) p6)]))])
noncomputable def difference_visit_70.l2_1 (p0 : (List ((Int × Int) × (Int × Int)))) (p1 : Int) (p2 : Int) (p3 : (List (List Int))) (p4 : (List Bool)) (p5 : Int) (p6 : Int) (p7 : (List (List Int))) (p8 : (List Bool)) (p9 : Int) (p10 : Int) : Option (Int × Unit) := Go.Proofs.R.loopAt Go.Proofs.C28.ctx (Go.Proofs.R.Einf Go.Proofs.C28.ctx) 70 2 (.mk [(0, (.one (.v (.sl (.pair (.pair (.int .i64) (.int .i64)) (.pair (.int .i64) (.int .i64)))) p0))), (1, (.one (.clo 68 [(.pref [(.v (.int .i64) p1), (.v (.int .i64) p2), (.v (.sl (.sl (.int .i64))) p3), (.v (.sl .bool) p4)] 0), (.pref [(.v (.int .i64) p5), (.v (.int .i64) p6), (.v (.sl (.sl (.int .i64))) p7), (.v (.sl .bool) p8)] 0)]))), (7, (.one (.v (.int .i64) p9))), (8, (.one (.v (.int .i64) p10)))] [])
noncomputable def difference_step.f (p0 : Int) (p1 : Int) (p2 : (List (List Int))) (p3 : (List Bool)) (p4 : Int) (p5 : Int) : Option (Int × Unit) := (Go.Proofs.R.Einf Go.Proofs.C28.ctx).call 43 [(.agg [(.v (.int .i64) p0), (.v (.int .i64) p1), (.v (.sl (.sl (.int .i64))) p2), (.v (.sl .bool) p3)]), (.one (.v (.int .i64) p4)), (.one (.v (.int .i64) p5))]
noncomputable def difference_Disjoint_1.f (p0 : Int) (p1 : Int) (p2 : Int) (p3 : Int) (p4 : Int) (p5 : Int) (p6 : (List (List Int))) (p7 : (List Bool)) (p8 : Int) (p9 : Int) (p10 : (List (List Int))) (p11 : (List Bool)) : Option (Bool × Unit) := (Go.Proofs.R.Einf Go.Proofs.C28.ctx).call 56 [(.agg [(.v (.int .i64) p0), (.v (.int .i64) p1), (.v (.int .i64) p2), (.v (.int .i64) p3)]), (.one (.pref [(.v (.int .i64) p4), (.v (.int .i64) p5), (.v (.sl (.sl (.int .i64))) p6), (.v (.sl .bool) p7)] 0)), (.one (.pref [(.v (.int .i64) p8), (.v (.int .i64) p9), (.v (.sl (.sl (.int .i64))) p10), (.v (.sl .bool) p11)] 0))]
noncomputable def slices_IndexFunc_int_int.f (p0 : (List Int)) (p1 : Int) : Option (Int × Unit) := (Go.Proofs.R.Einf Go.Proofs.C28.ctx).call 82 [(.one (.v (.sl (.int .i64)) p0)), (.one (.clo 72 [(.pref [(.v (.int .i64) p1)] 0)]))]
noncomputable def cmp_isNaN_int.f (p0 : Int) : Option (Bool × Unit) := (Go.Proofs.R.Einf Go.Proofs.C28.ctx).call 83 [(.one (.v (.int .i64) p0))]
noncomputable def cmp_Or_int.l3 (p0 : Int) (p1 : (List Int)) (p2 : Int) (p3 : Int) : Option (Int × Unit) := Go.Proofs.R.loopAt Go.Proofs.C28.ctx (Go.Proofs.R.Einf Go.Proofs.C28.ctx) 74 3 (.mk [(3, (.one (.v (.int .i64) p0))), (6, (.one (.v (.sl (.int .i64)) p1))), (7, (.one (.v (.int .i64) p2))), (8, (.one (.v (.int .i64) p3)))] [])
noncomputable def api_Pair_61.f (p0 : (List (Int × Int))) (p1 : Int) (p2 : Int) : Option (Int × (Bool × Unit)) := (Go.Proofs.R.Einf Go.Proofs.C28.ctx).call 61 [(.one (.v (.sl (.pair (.int .i64) (.int .i64))) p0)), (.agg [(.v (.int .i64) p1), (.v (.int .i64) p2)]), (.one (.clo 62 []))]
noncomputable def difference_within_1.f (p0 : Int) (p1 : Int) (p2 : Int) (p3 : Int) (p4 : Int) (p5 : Int) (p6 : (List (List Int))) (p7 : (List Bool)) (p8 : Int) (p9 : Int) (p10 : (List (List Int))) (p11 : (List Bool)) : Option (Bool × Unit) := (Go.Proofs.R.Einf Go.Proofs.C28.ctx).call 68 [(.agg [(.v (.int .i64) p0), (.v (.int .i64) p1), (.v (.int .i64) p2), (.v (.int .i64) p3)]), (.one (.pref [(.v (.int .i64) p4), (.v (.int .i64) p5), (.v (.sl (.sl (.int .i64))) p6), (.v (.sl .bool) p7)] 0)), (.one (.pref [(.v (.int .i64) p8), (.v (.int .i64) p9), (.v (.sl (.sl (.int .i64))) p10), (.v (.sl .bool) p11)] 0))]
noncomputable def slices_IndexFunc_int_int.l2 (p0 : (List Int)) (p1 : Int) (p2 : Int) (p3 : Int) : Option (Int × Unit) := Go.Proofs.R.loopAt Go.Proofs.C28.ctx (Go.Proofs.R.Einf Go.Proofs.C28.ctx) 82 2 (.mk [(0, (.one (.v (.sl (.int .i64)) p0))), (1, (.one (.clo 72 [(.pref [(.v (.int .i64) p1)] 0)]))), (7, (.one (.v (.int .i64) p2))), (8, (.one (.v (.int .i64) p3)))] [])
noncomputable def api_Pair_61.l3 (p0 : (List (Int × Int))) (p1 : Int) (p2 : Int) (p3 : Int) (p4 : Int) (p5 : Int) : Option (Int × (Bool × Unit)) := Go.Proofs.R.loopAt Go.Proofs.C28.ctx (Go.Proofs.R.Einf Go.Proofs.C28.ctx) 61 3 (.mk [(0, (.one (.v (.sl (.pair (.int .i64) (.int .i64))) p0))), (2, (.one (.clo 62 []))), (4, (.one (.ref 7 0))), (8, (.one (.v (.int .i64) p1))), (9, (.one (.v (.int .i64) p2))), (10, (.one (.v (.int .i64) p3)))] [(7, (.box 53 [(.v (.int .i64) p4), (.v (.int .i64) p5)]))])
noncomputable def automaton_Valid_1.f (p0 : Int) (p1 : Int) : Option (Bool × Unit) := (Go.Proofs.R.Einf Go.Proofs.C28.ctx).call 72 [(.one (.v (.int .i64) p0)), (.one (.pref [(.v (.int .i64) p1)] 0))]

theorem ancepslaw28_DifferenceSame.f_eq (p0 : Int) (p1 : Int) (p2 : (List (List Int))) (p3 : (List Bool)) (p4 : Int) (p5 : Int) (p6 : (List (List Int))) (p7 : (List Bool)) : ancepslaw28_DifferenceSame.f p0 p1 p2 p3 p4 p5 p6 p7 =
  bindD (ancepslaw28_awake.f) fun t0 =>
  ifB (!t0.1)
   (bindD (ancepslaw28_awake.f) fun t1 =>
   some (t1.1, ()))
  (bindD (ancepsref28_Few.f p0 p1 p2 p3 p4 p5 p6 p7) fun t2 =>
   ifB (!t2.1)
    (bindD (ancepslaw28_awake.f) fun t3 =>
    some (t3.1, ()))
   (bindD (difference_Same.f p0 p1 p2 p3 p4 p5 p6 p7) fun t4 =>
    bindD (ancepsref28_Same.f p0 p1 p2 p3 p4 p5 p6 p7) fun t5 =>
    bindD (difference_Within.f p0 p1 p2 p3 p4 p5 p6 p7) fun t6 =>
    bindD (ancepsref28_Within.f p0 p1 p2 p3 p4 p5 p6 p7) fun t7 =>
    bindD (difference_Disjoint.f p0 p1 p2 p3 p4 p5 p6 p7) fun t8 =>
    bindD (ancepsref28_Disjoint.f p0 p1 p2 p3 p4 p5 p6 p7) fun t9 =>
    ifB (t4.1 == t5.1)
     (ifB (t4.2.1 == t5.2.1)
      (ifB (t6.1 == t7.1)
       (ifB (t6.2.1 == t7.2.1)
        (ifB (t8.1 == t9.1)
         (some ((t8.2.1 == t9.2.1), ()))
        (some (false, ())))
       (some (false, ())))
      (some (false, ())))
     (some (false, ())))
    (some (false, ())))) := (Einf_call Go.Proofs.C28.ctx 5 _).trans (by kernel_rfl)
theorem ancepslaw28_DifferenceTells.f_eq (p0 : Int) (p1 : Int) (p2 : (List (List Int))) (p3 : (List Bool)) (p4 : Int) (p5 : Int) (p6 : (List (List Int))) (p7 : (List Bool)) : ancepslaw28_DifferenceTells.f p0 p1 p2 p3 p4 p5 p6 p7 =
  bindD (ancepslaw28_awake.f) fun t10 =>
  ifB (!t10.1)
   (bindD (ancepslaw28_awake.f) fun t11 =>
   some (t11.1, ()))
  (bindD (ancepsref28_Few.f p0 p1 p2 p3 p4 p5 p6 p7) fun t12 =>
   ifB (!t12.1)
    (bindD (ancepslaw28_awake.f) fun t13 =>
    some (t13.1, ()))
   (bindD (difference_Tells.f p0 p1 p2 p3 p4 p5 p6 p7) fun t14 =>
    bindD (ancepsref28_Tells.f p0 p1 p2 p3 p4 p5 p6 p7) fun t15 =>
    ifB (t14.2.2.1 != t15.2.2.1)
     (ifB (t14.2.2.1 == t15.2.2.1)
      (ifB (t14.2.1 == t15.2.1)
       (bindD (slices_Equal_int_int.f t14.1 t15.1) fun t16 =>
       some (t16.1, ()))
      (some (false, ())))
     (some (false, ())))
    (ifB (t14.2.1 != t15.2.1)
      (ifB (t14.2.2.1 == t15.2.2.1)
       (ifB (t14.2.1 == t15.2.1)
        (bindD (slices_Equal_int_int.f t14.1 t15.1) fun t17 =>
        some (t17.1, ()))
       (some (false, ())))
      (some (false, ())))
     (bindD (slices_Equal_int_int.f t14.1 t15.1) fun t18 =>
      ifB (!t18.1)
       (ifB (t14.2.2.1 == t15.2.2.1)
        (ifB (t14.2.1 == t15.2.1)
         (bindD (slices_Equal_int_int.f t14.1 t15.1) fun t19 =>
         some (t19.1, ()))
        (some (false, ())))
       (some (false, ())))
      (ifB (t14.2.2.1 != (0 : Int))
        (ifB (t14.2.2.1 == t15.2.2.1)
         (ifB (t14.2.1 == t15.2.1)
          (bindD (slices_Equal_int_int.f t14.1 t15.1) fun t20 =>
          some (t20.1, ()))
         (some (false, ())))
        (some (false, ())))
       (bindD (automaton_Accepts.f p0 p1 p2 p3 t14.1) fun t21 =>
        ifB (t21.1 == (t14.2.1 == (1 : Int)))
         (bindD (automaton_Accepts.f p4 p5 p6 p7 t14.1) fun t22 =>
         some ((t22.1 == (t14.2.1 == (2 : Int))), ()))
        (some (false, ())))))))) := (Einf_call Go.Proofs.C28.ctx 6 _).trans (by kernel_rfl)
theorem ancepslaw28_DifferenceCompare.f_eq (p0 : Int) (p1 : Int) (p2 : (List (List Int))) (p3 : (List Bool)) (p4 : Int) (p5 : Int) (p6 : (List (List Int))) (p7 : (List Bool)) (p8 : Int) : ancepslaw28_DifferenceCompare.f p0 p1 p2 p3 p4 p5 p6 p7 p8 =
  bindD (ancepslaw28_awake.f) fun t23 =>
  ifB (!t23.1)
   (bindD (ancepslaw28_awake.f) fun t24 =>
   some (t24.1, ()))
  (bindD (ancepsref28_Few.f p0 p1 p2 p3 p4 p5 p6 p7) fun t25 =>
   ifB (!t25.1)
    (bindD (ancepslaw28_awake.f) fun t26 =>
    some (t26.1, ()))
   (bindD (difference_Compare.f p0 p1 p2 p3 p4 p5 p6 p7 p8) fun t27 =>
    bindD (ancepsref28_Compare.f p0 p1 p2 p3 p4 p5 p6 p7 p8) fun t28 =>
    ifB (t27.2.2.2.2.2.2.2.1 == t28.2.2.2.2.2.2.2.1)
     (bindD (ancepsref28_SameComparison.f t27.1 t27.2.1 t27.2.2.1 t27.2.2.2.1 t27.2.2.2.2.1 t27.2.2.2.2.2.1 t27.2.2.2.2.2.2.1 t28.1 t28.2.1 t28.2.2.1 t28.2.2.2.1 t28.2.2.2.2.1 t28.2.2.2.2.2.1 t28.2.2.2.2.2.2.1) fun t29 =>
     some (t29.1, ()))
    (some (false, ())))) := (Einf_call Go.Proofs.C28.ctx 3 _).trans (by kernel_rfl)
theorem ancepslaw28_DifferenceOrder.f_eq (p0 : Int) (p1 : (List Int)) (p2 : Int) (p3 : Int) (p4 : (List Int)) (p5 : Int) (p6 : Int) (p7 : (List Int)) (p8 : Int) : ancepslaw28_DifferenceOrder.f p0 p1 p2 p3 p4 p5 p6 p7 p8 =
  bindD (ancepslaw28_awake.f) fun t30 =>
  ifB (!t30.1)
   (bindD (ancepslaw28_awake.f) fun t31 =>
   some (t31.1, ()))
  (ifB (decide ((((List.length p1) : Nat) : Int) > (60 : Int)))
    (bindD (ancepslaw28_awake.f) fun t32 =>
    some (t32.1, ()))
   (ifB (decide ((((List.length p4) : Nat) : Int) > (60 : Int)))
     (bindD (ancepslaw28_awake.f) fun t33 =>
     some (t33.1, ()))
    (ifB (decide ((((List.length p7) : Nat) : Int) > (60 : Int)))
      (bindD (ancepslaw28_awake.f) fun t34 =>
      some (t34.1, ()))
     (bindD (ancepsref06_Made.f p0 p1 p2) fun t35 =>
      bindD (ancepsref06_Made.f p0 p4 p5) fun t36 =>
      bindD (ancepsref06_Made.f p0 p7 p8) fun t37 =>
      bindD (difference_Within.f t35.1 t35.2.1 t35.2.2.1 t35.2.2.2.1 t35.1 t35.2.1 t35.2.2.1 t35.2.2.2.1) fun t38 =>
      bindD (difference_Within.f t35.1 t35.2.1 t35.2.2.1 t35.2.2.2.1 t36.1 t36.2.1 t36.2.2.1 t36.2.2.2.1) fun t39 =>
      bindD (difference_Within.f t36.1 t36.2.1 t36.2.2.1 t36.2.2.2.1 t35.1 t35.2.1 t35.2.2.1 t35.2.2.2.1) fun t40 =>
      bindD (difference_Within.f t36.1 t36.2.1 t36.2.2.1 t36.2.2.2.1 t37.1 t37.2.1 t37.2.2.1 t37.2.2.2.1) fun t41 =>
      bindD (difference_Within.f t35.1 t35.2.1 t35.2.2.1 t35.2.2.2.1 t37.1 t37.2.1 t37.2.2.1 t37.2.2.2.1) fun t42 =>
      bindD (difference_Same.f t35.1 t35.2.1 t35.2.2.1 t35.2.2.2.1 t36.1 t36.2.1 t36.2.2.1 t36.2.2.2.1) fun t43 =>
      ifB (t38.2.1 != (0 : Int))
       (some (false, ()))
      (ifB (t39.2.1 != (0 : Int))
        (some (false, ()))
       (ifB (t40.2.1 != (0 : Int))
         (some (false, ()))
        (ifB (t41.2.1 != (0 : Int))
          (some (false, ()))
         (ifB (t42.2.1 != (0 : Int))
           (some (false, ()))
          (ifB (t43.2.1 != (0 : Int))
            (some (false, ()))
           (ifB t38.1
             (ifB (!t39.1)
              (ifB t39.1
               (some ((t43.1 == t40.1), ()))
              (some ((t43.1 == false), ())))
             (ifB (!t41.1)
               (ifB t39.1
                (some ((t43.1 == t40.1), ()))
               (some ((t43.1 == false), ())))
              (ifB t42.1
                (ifB t39.1
                 (some ((t43.1 == t40.1), ()))
                (some ((t43.1 == false), ())))
               (some (false, ())))))
            (some (false, ())))))))))))) := (Einf_call Go.Proofs.C28.ctx 4 _).trans (by kernel_rfl)
theorem ancepslaw28_DifferenceCheck.f_eq (p0 : Int) (p1 : Int) (p2 : (List (List Int))) (p3 : (List Bool)) (p4 : Int) (p5 : Int) (p6 : (List (List Int))) (p7 : (List Bool)) (p8 : (List (Int × Int))) : ancepslaw28_DifferenceCheck.f p0 p1 p2 p3 p4 p5 p6 p7 p8 =
  bindD (ancepslaw28_awake.f) fun t44 =>
  ifB (!t44.1)
   (bindD (ancepslaw28_awake.f) fun t45 =>
   some (t45.1, ()))
  (bindD (ancepsref28_Few.f p0 p1 p2 p3 p4 p5 p6 p7) fun t46 =>
   ifB (!t46.1)
    (bindD (ancepslaw28_awake.f) fun t47 =>
    some (t47.1, ()))
   (ifB (decide ((((List.length p8) : Nat) : Int) > (400 : Int)))
     (bindD (ancepslaw28_awake.f) fun t48 =>
     some (t48.1, ()))
    (bindD (api_Pair.f p8) fun t49 =>
     bindD (difference_CheckWithin.f p0 p1 p2 p3 p4 p5 p6 p7 t49.1) fun t50 =>
     bindD (ancepsref28_CheckWithin.f p0 p1 p2 p3 p4 p5 p6 p7 p8) fun t51 =>
     ifB (!(t50.1 == t51.1))
      (some (false, ()))
     (bindD (difference_Within.f p0 p1 p2 p3 p4 p5 p6 p7) fun t52 =>
      ifB (!t50.1)
       (some (true, ()))
      (ifB (t52.2.1 == (0 : Int))
        (some (t52.1, ()))
       (some (false, ()))))))) := (Einf_call Go.Proofs.C28.ctx 7 _).trans (by kernel_rfl)
theorem ancepslaw28_awake.f_eq : ancepslaw28_awake.f =
  bindD (ancepslaw28_of.f (false :: (false :: (true :: ([] : (List Bool))))) (((-(1 : Int)) :: ((1 : Int) :: ([] : (List Int)))) :: (((2 : Int) :: ((2 : Int) :: ([] : (List Int)))) :: (((-(1 : Int)) :: ((-(1 : Int)) :: ([] : (List Int)))) :: ([] : (List (List Int))))))) fun t53 =>
  bindD (ancepslaw28_of.f (false :: (false :: (true :: ([] : (List Bool))))) (((-(1 : Int)) :: ((1 : Int) :: ([] : (List Int)))) :: (((-(1 : Int)) :: ((2 : Int) :: ([] : (List Int)))) :: (((-(1 : Int)) :: ((-(1 : Int)) :: ([] : (List Int)))) :: ([] : (List (List Int))))))) fun t54 =>
  bindD (difference_Within.f t54.1 t54.2.1 t54.2.2.1 t54.2.2.2.1 t53.1 t53.2.1 t53.2.2.1 t53.2.2.2.1) fun t55 =>
  bindD (difference_Within.f t53.1 t53.2.1 t53.2.2.1 t53.2.2.2.1 t54.1 t54.2.1 t54.2.2.1 t54.2.2.2.1) fun t56 =>
  bindD (difference_Tells.f t53.1 t53.2.1 t53.2.2.1 t53.2.2.2.1 t54.1 t54.2.1 t54.2.2.1 t54.2.2.2.1) fun t57 =>
  bindD (difference_Compare.f t53.1 t53.2.1 t53.2.2.1 t53.2.2.2.1 t54.1 t54.2.1 t54.2.2.1 t54.2.2.2.1 (2 : Int)) fun t58 =>
  ifB (t55.2.1 != (0 : Int))
   (some (false, ()))
  (ifB (t56.2.1 != (0 : Int))
    (some (false, ()))
   (ifB (t57.2.2.1 != (0 : Int))
     (some (false, ()))
    (ifB (t58.2.2.2.2.2.2.2.1 != (0 : Int))
      (some (false, ()))
     (ifB (!t55.1)
       (some (false, ()))
      (ifB t56.1
        (some (false, ()))
       (bindD (slices_Equal_int_int.f t57.1 ((1 : Int) :: ((0 : Int) :: ([] : (List Int))))) fun t59 =>
        ifB (!t59.1)
         (some (false, ()))
        (ifB (t57.2.1 != (1 : Int))
          (some (false, ()))
         (ifB ((((List.length t58.2.2.2.2.1) : Nat) : Int) == (3 : Int))
           (bindD ((ixAt t58.2.2.2.2.1 (2 : Int))) fun t60 =>
           ifB (t60 == (1 : Int))
            (bindD ((ixAt t58.2.2.2.2.2.1 (2 : Int))) fun t61 =>
            ifB (t61 == (1 : Int))
             (bindD ((ixAt t58.2.2.2.2.2.2.1 (2 : Int))) fun t62 =>
             ifB (t62 == (0 : Int))
              (some (t58.2.2.1, ()))
             (some (false, ())))
            (some (false, ())))
           (some (false, ())))
          (some (false, ())))))))))) := (Einf_call Go.Proofs.C28.ctx 11 _).trans (by kernel_rfl)
theorem ancepsref28_Few.f_eq (p0 : Int) (p1 : Int) (p2 : (List (List Int))) (p3 : (List Bool)) (p4 : Int) (p5 : Int) (p6 : (List (List Int))) (p7 : (List Bool)) : ancepsref28_Few.f p0 p1 p2 p3 p4 p5 p6 p7 =
  ancepsref28_Few.l3 (0 : Int) (0 : Int) p0 p1 p2 p3 p4 p5 p6 p7 := (Einf_call Go.Proofs.C28.ctx 12 _).trans (by kernel_rfl)
theorem difference_Same.f_eq (p0 : Int) (p1 : Int) (p2 : (List (List Int))) (p3 : (List Bool)) (p4 : Int) (p5 : Int) (p6 : (List (List Int))) (p7 : (List Bool)) : difference_Same.f p0 p1 p2 p3 p4 p5 p6 p7 =
  bindD (difference_valid.f p0 p1 p2 p3 p4 p5 p6 p7) fun t63 =>
  ifB (t63.1 != (0 : Int))
   (some (false, (t63.1, ())))
  (bindD (difference_apart.f p0 p1 p2 p3 p4 p5 p6 p7) fun t64 =>
   some ((t64.2.1 == (0 : Int)), ((0 : Int), ()))) := (Einf_call Go.Proofs.C28.ctx 18 _).trans (by kernel_rfl)
theorem ancepsref28_Same.f_eq (p0 : Int) (p1 : Int) (p2 : (List (List Int))) (p3 : (List Bool)) (p4 : Int) (p5 : Int) (p6 : (List (List Int))) (p7 : (List Bool)) : ancepsref28_Same.f p0 p1 p2 p3 p4 p5 p6 p7 =
  bindD (ancepsref28_valid.f p0 p1 p2 p3 p4 p5 p6 p7) fun t65 =>
  ifB (t65.1 != (0 : Int))
   (some (false, (t65.1, ())))
  (bindD (ancepsref28_tells.f p0 p1 p2 p3 p4 p5 p6 p7) fun t66 =>
   some ((t66.2.1 == (0 : Int)), ((0 : Int), ()))) := (Einf_call Go.Proofs.C28.ctx 19 _).trans (by kernel_rfl)
theorem difference_Within.f_eq (p0 : Int) (p1 : Int) (p2 : (List (List Int))) (p3 : (List Bool)) (p4 : Int) (p5 : Int) (p6 : (List (List Int))) (p7 : (List Bool)) : difference_Within.f p0 p1 p2 p3 p4 p5 p6 p7 =
  bindD (difference_valid.f p0 p1 p2 p3 p4 p5 p6 p7) fun t67 =>
  ifB (t67.1 != (0 : Int))
   (some (false, (t67.1, ())))
  (bindD (difference_within.f p0 p1 p2 p3 p4 p5 p6 p7) fun t68 =>
   some (t68.1, ((0 : Int), ()))) := (Einf_call Go.Proofs.C28.ctx 17 _).trans (by kernel_rfl)
theorem ancepsref28_Within.f_eq (p0 : Int) (p1 : Int) (p2 : (List (List Int))) (p3 : (List Bool)) (p4 : Int) (p5 : Int) (p6 : (List (List Int))) (p7 : (List Bool)) : ancepsref28_Within.f p0 p1 p2 p3 p4 p5 p6 p7 =
  bindD (ancepsref28_valid.f p0 p1 p2 p3 p4 p5 p6 p7) fun t69 =>
  ifB (t69.1 != (0 : Int))
   (some (false, (t69.1, ())))
  (bindD (ancepsref28_within.f p0 p1 p2 p3 p4 p5 p6 p7) fun t70 =>
   some (t70.1, ((0 : Int), ()))) := (Einf_call Go.Proofs.C28.ctx 20 _).trans (by kernel_rfl)
theorem difference_Disjoint.f_eq (p0 : Int) (p1 : Int) (p2 : (List (List Int))) (p3 : (List Bool)) (p4 : Int) (p5 : Int) (p6 : (List (List Int))) (p7 : (List Bool)) : difference_Disjoint.f p0 p1 p2 p3 p4 p5 p6 p7 =
  bindD (difference_valid.f p0 p1 p2 p3 p4 p5 p6 p7) fun t71 =>
  ifB (t71.1 != (0 : Int))
   (some (false, (t71.1, ())))
  (bindD (difference_side.f p0 p1 p2 p3 p4 p5 p6 p7) fun t72 =>
   bindD (difference_visit.f t72.1 p0 p1 p2 p3 p4 p5 p6 p7) fun t73 =>
   some ((!t73.1), ((0 : Int), ()))) := (Einf_call Go.Proofs.C28.ctx 21 _).trans (by kernel_rfl)
theorem ancepsref28_Disjoint.f_eq (p0 : Int) (p1 : Int) (p2 : (List (List Int))) (p3 : (List Bool)) (p4 : Int) (p5 : Int) (p6 : (List (List Int))) (p7 : (List Bool)) : ancepsref28_Disjoint.f p0 p1 p2 p3 p4 p5 p6 p7 =
  bindD (ancepsref28_valid.f p0 p1 p2 p3 p4 p5 p6 p7) fun t74 =>
  ifB (t74.1 != (0 : Int))
   (some (false, (t74.1, ())))
  (bindD (ancepsref28_reach.f p0 p1 p2 p3 p4 p5 p6 p7) fun t75 =>
   ancepsref28_Disjoint.l6 t75.1 (0 : Int) p0 p1 p2 p3 p4 p5 p6 p7) := (Einf_call Go.Proofs.C28.ctx 22 _).trans (by kernel_rfl)
theorem difference_Tells.f_eq (p0 : Int) (p1 : Int) (p2 : (List (List Int))) (p3 : (List Bool)) (p4 : Int) (p5 : Int) (p6 : (List (List Int))) (p7 : (List Bool)) : difference_Tells.f p0 p1 p2 p3 p4 p5 p6 p7 =
  bindD (difference_valid.f p0 p1 p2 p3 p4 p5 p6 p7) fun t76 =>
  ifB (t76.1 != (0 : Int))
   (some (([] : (List Int)), ((0 : Int), (t76.1, ()))))
  (bindD (difference_apart.f p0 p1 p2 p3 p4 p5 p6 p7) fun t77 =>
   ifB (t77.2.1 == (0 : Int))
    (some (([] : (List Int)), ((0 : Int), ((10 : Int), ()))))
   (some (t77.1, (t77.2.1, ((0 : Int), ()))))) := (Einf_call Go.Proofs.C28.ctx 23 _).trans (by kernel_rfl)
theorem ancepsref28_Tells.f_eq (p0 : Int) (p1 : Int) (p2 : (List (List Int))) (p3 : (List Bool)) (p4 : Int) (p5 : Int) (p6 : (List (List Int))) (p7 : (List Bool)) : ancepsref28_Tells.f p0 p1 p2 p3 p4 p5 p6 p7 =
  bindD (ancepsref28_valid.f p0 p1 p2 p3 p4 p5 p6 p7) fun t78 =>
  ifB (t78.1 != (0 : Int))
   (some (([] : (List Int)), ((0 : Int), (t78.1, ()))))
  (bindD (ancepsref28_tells.f p0 p1 p2 p3 p4 p5 p6 p7) fun t79 =>
   ifB (t79.2.1 == (0 : Int))
    (some (([] : (List Int)), ((0 : Int), ((10 : Int), ()))))
   (some (t79.1, (t79.2.1, ((0 : Int), ()))))) := (Einf_call Go.Proofs.C28.ctx 24 _).trans (by kernel_rfl)
theorem slices_Equal_int_int.f_eq (p0 : (List Int)) (p1 : (List Int)) : slices_Equal_int_int.f p0 p1 =
  ifB ((((List.length p0) : Nat) : Int) != (((List.length p1) : Nat) : Int))
   (some (false, ()))
  (slices_Equal_int_int.l4 p0 p1 (((List.length p0) : Nat) : Int) (0 : Int)) := (Einf_call Go.Proofs.C28.ctx 25 _).trans (by kernel_rfl)
theorem automaton_Accepts.f_eq (p0 : Int) (p1 : Int) (p2 : (List (List Int))) (p3 : (List Bool)) (p4 : (List Int)) : automaton_Accepts.f p0 p1 p2 p3 p4 =
  bindD (automaton_Valid.f p0 p1 p2 p3) fun t80 =>
  ifB (t80.1 == (0 : Int))
   (bindD (automaton_Run.f p0 p1 p2 p3 p4) fun t81 =>
   bindD (automaton_ends.f p0 p1 p2 p3 t81.1) fun t82 =>
   some (t82.1, ()))
  (some (false, ())) := (Einf_call Go.Proofs.C28.ctx 26 _).trans (by kernel_rfl)
theorem difference_Compare.f_eq (p0 : Int) (p1 : Int) (p2 : (List (List Int))) (p3 : (List Bool)) (p4 : Int) (p5 : Int) (p6 : (List (List Int))) (p7 : (List Bool)) (p8 : Int) : difference_Compare.f p0 p1 p2 p3 p4 p5 p6 p7 p8 =
  bindD (difference_valid.f p0 p1 p2 p3 p4 p5 p6 p7) fun t83 =>
  ifB (t83.1 != (0 : Int))
   (some (false, (false, (false, (([] : (List Int)), (([] : (List Int)), (([] : (List Int)), (([] : (List Int)), (t83.1, ())))))))))
  (ifB (decide (p8 < (0 : Int)))
    (some (false, (false, (false, (([] : (List Int)), (([] : (List Int)), (([] : (List Int)), (([] : (List Int)), ((6 : Int), ())))))))))
   (ifB (decide (p8 > (20 : Int)))
     (some (false, (false, (false, (([] : (List Int)), (([] : (List Int)), (([] : (List Int)), (([] : (List Int)), ((6 : Int), ())))))))))
    (bindD (difference_apart.f p0 p1 p2 p3 p4 p5 p6 p7) fun t84 =>
     bindD (difference_within.f p0 p1 p2 p3 p4 p5 p6 p7) fun t85 =>
     bindD (difference_within.f p4 p5 p6 p7 p0 p1 p2 p3) fun t86 =>
     bindD (difference_either.f p1 p5) fun t87 =>
     ifB t87.1
      (difference_Compare.l13 (Go.IntKind.wrap Go.IntKind.i64 (p8 + (1 : Int))) (0 : Int) p0 p1 p2 p3 p4 p5 p6 p7 false false false (t84.2.1 == (0 : Int)) t85.1 t86.1 (Go.Proofs.R.mput (Go.Proofs.R.Ty.pair (Go.Proofs.R.Ty.int Go.IntKind.i64) (Go.Proofs.R.Ty.int Go.IntKind.i64)) (p1, p5) (1 : Int) ([] : (List ((Int × Int) × Int)))) ([] : (List Int)) ([] : (List Int)) ([] : (List Int)) ([] : (List Int)) t84.1 ([] : (List Int)) ([] : (List Int)) ([] : (List Int)))
     (difference_Compare.l13 (Go.IntKind.wrap Go.IntKind.i64 (p8 + (1 : Int))) (0 : Int) p0 p1 p2 p3 p4 p5 p6 p7 false false false (t84.2.1 == (0 : Int)) t85.1 t86.1 ([] : (List ((Int × Int) × Int))) ([] : (List Int)) ([] : (List Int)) ([] : (List Int)) ([] : (List Int)) t84.1 ([] : (List Int)) ([] : (List Int)) ([] : (List Int)))))) := (Einf_call Go.Proofs.C28.ctx 13 _).trans (by kernel_rfl)
theorem ancepsref28_Compare.f_eq (p0 : Int) (p1 : Int) (p2 : (List (List Int))) (p3 : (List Bool)) (p4 : Int) (p5 : Int) (p6 : (List (List Int))) (p7 : (List Bool)) (p8 : Int) : ancepsref28_Compare.f p0 p1 p2 p3 p4 p5 p6 p7 p8 =
  bindD (ancepsref28_valid.f p0 p1 p2 p3 p4 p5 p6 p7) fun t88 =>
  ifB (t88.1 != (0 : Int))
   (some (false, (false, (false, (([] : (List Int)), (([] : (List Int)), (([] : (List Int)), (([] : (List Int)), (t88.1, ())))))))))
  (ifB (decide (p8 < (0 : Int)))
    (some (false, (false, (false, (([] : (List Int)), (([] : (List Int)), (([] : (List Int)), (([] : (List Int)), ((6 : Int), ())))))))))
   (ifB (decide (p8 > (20 : Int)))
     (some (false, (false, (false, (([] : (List Int)), (([] : (List Int)), (([] : (List Int)), (([] : (List Int)), ((6 : Int), ())))))))))
    (bindD (ancepsref28_tells.f p0 p1 p2 p3 p4 p5 p6 p7) fun t89 =>
     bindD (ancepsref28_within.f p0 p1 p2 p3 p4 p5 p6 p7) fun t90 =>
     bindD (ancepsref28_within.f p4 p5 p6 p7 p0 p1 p2 p3) fun t91 =>
     bindD (ancepsref28_reach.f p0 p1 p2 p3 p4 p5 p6 p7) fun t92 =>
     bindD ((Go.Proofs.R.mkLen (((List.length t92.1) : Nat) : Int) (((List.length t92.1) : Nat) : Int))) fun t93 =>
     ifB (decide ((((List.length t92.1) : Nat) : Int) > (0 : Int)))
      (bindD ((ixAt (List.replicate t93 (0 : Int)) (0 : Int))) fun t94 =>
      bindD ((ixAt (List.replicate t93 (0 : Int)) (0 : Int))) fun t95 =>
      ancepsref28_Compare.l13 p8 t92.1 (0 : Int) p0 p1 p2 p3 p4 p5 p6 p7 false false false (t89.2.1 == (0 : Int)) t90.1 t91.1 t89.1 (setRow (List.replicate t93 (0 : Int)) (0 : Int) (1 : Int)) ([] : (List Int)) ([] : (List Int)) ([] : (List Int)) ([] : (List Int)) ([] : (List Int)) ([] : (List Int)) ([] : (List Int)))
     (ancepsref28_Compare.l13 p8 t92.1 (0 : Int) p0 p1 p2 p3 p4 p5 p6 p7 false false false (t89.2.1 == (0 : Int)) t90.1 t91.1 t89.1 (List.replicate t93 (0 : Int)) ([] : (List Int)) ([] : (List Int)) ([] : (List Int)) ([] : (List Int)) ([] : (List Int)) ([] : (List Int)) ([] : (List Int)))))) := (Einf_call Go.Proofs.C28.ctx 14 _).trans (by kernel_rfl)
theorem ancepsref28_SameComparison.f_eq (p0 : Bool) (p1 : Bool) (p2 : Bool) (p3 : (List Int)) (p4 : (List Int)) (p5 : (List Int)) (p6 : (List Int)) (p7 : Bool) (p8 : Bool) (p9 : Bool) (p10 : (List Int)) (p11 : (List Int)) (p12 : (List Int)) (p13 : (List Int)) : ancepsref28_SameComparison.f p0 p1 p2 p3 p4 p5 p6 p7 p8 p9 p10 p11 p12 p13 =
  ifB (!(p0 == p7))
   (some (false, ()))
  (ifB (!(p1 == p8))
    (some (false, ()))
   (ifB (!(p2 == p9))
     (some (false, ()))
    (bindD (ancepsref06_Equal.f p3 p10) fun t96 =>
     ifB (!t96.1)
      (some (false, ()))
     (bindD (ancepsref28_numbers.f p4 p11) fun t97 =>
      ifB t97.1
       (bindD (ancepsref28_numbers.f p5 p12) fun t98 =>
       ifB t98.1
        (bindD (ancepsref28_numbers.f p6 p13) fun t99 =>
        some (t99.1, ()))
       (some (false, ())))
      (some (false, ())))))) := (Einf_call Go.Proofs.C28.ctx 15 _).trans (by kernel_rfl)
theorem ancepsref06_Made.f_eq (p0 : Int) (p1 : (List Int)) (p2 : Int) : ancepsref06_Made.f p0 p1 p2 =
  ifB ((Go.IntKind.wrap Go.IntKind.i64 ((1 : Int) + (Go.IntKind.wrap Go.IntKind.i64 (Int.tmod p0 (4 : Int))))) == (0 : Int))
   (none)
  (ancepsref06_Made.l4 (if ((12 : Int) < (Go.IntKind.wrap Go.IntKind.i64 (Int.tdiv (((List.length p1) : Nat) : Int) (Go.IntKind.wrap Go.IntKind.i64 ((1 : Int) + (Go.IntKind.wrap Go.IntKind.i64 (Int.tmod p0 (4 : Int)))))))) then (12 : Int) else (Go.IntKind.wrap Go.IntKind.i64 (Int.tdiv (((List.length p1) : Nat) : Int) (Go.IntKind.wrap Go.IntKind.i64 ((1 : Int) + (Go.IntKind.wrap Go.IntKind.i64 (Int.tmod p0 (4 : Int)))))))) (0 : Int) p0 p1 p2 (0 : Int) (0 : Int) (Go.IntKind.wrap Go.IntKind.i64 ((1 : Int) + (Go.IntKind.wrap Go.IntKind.i64 (Int.tmod p0 (4 : Int))))) (-(1 : Int)) ([] : (List (List Int))) ([] : (List Bool)) ([] : (List (List Int))) ([] : (List Bool))) := (Einf_call Go.Proofs.C28.ctx 16 _).trans (by kernel_rfl)
theorem api_Pair.f_eq (p0 : (List (Int × Int))) : api_Pair.f p0 =
  bindD ((Go.Proofs.R.grow (List.length p0))) fun t100 =>
  some (p0, ()) := (Einf_call Go.Proofs.C28.ctx 28 _).trans (by kernel_rfl)
theorem difference_CheckWithin.f_eq (p0 : Int) (p1 : Int) (p2 : (List (List Int))) (p3 : (List Bool)) (p4 : Int) (p5 : Int) (p6 : (List (List Int))) (p7 : (List Bool)) (p8 : (List (Int × Int))) : difference_CheckWithin.f p0 p1 p2 p3 p4 p5 p6 p7 p8 =
  bindD (difference_valid.f p0 p1 p2 p3 p4 p5 p6 p7) fun t101 =>
  ifB (t101.1 != (0 : Int))
   (some (false, ()))
  (difference_CheckWithin.l5 p8 (((List.length p8) : Nat) : Int) (0 : Int) p0 p1 p2 p3 p4 p5 p6 p7 p8) := (Einf_call Go.Proofs.C28.ctx 27 _).trans (by kernel_rfl)
theorem ancepsref28_CheckWithin.f_eq (p0 : Int) (p1 : Int) (p2 : (List (List Int))) (p3 : (List Bool)) (p4 : Int) (p5 : Int) (p6 : (List (List Int))) (p7 : (List Bool)) (p8 : (List (Int × Int))) : ancepsref28_CheckWithin.f p0 p1 p2 p3 p4 p5 p6 p7 p8 =
  bindD (ancepsref28_valid.f p0 p1 p2 p3 p4 p5 p6 p7) fun t102 =>
  ifB (t102.1 != (0 : Int))
   (some (false, ()))
  (ifB (decide (p1 ≥ (0 : Int)))
    (bindD (ancepsref28_index.f p8 p1 p5) fun t103 =>
    ifB (decide (t103.1 < (0 : Int)))
     (some (false, ()))
    (ancepsref28_CheckWithin.l4 p8 (0 : Int) p0 p1 p2 p3 p4 p5 p6 p7))
   (ancepsref28_CheckWithin.l4 p8 (0 : Int) p0 p1 p2 p3 p4 p5 p6 p7)) := (Einf_call Go.Proofs.C28.ctx 29 _).trans (by kernel_rfl)
theorem ancepslaw28_of.f_eq (p0 : (List Bool)) (p1 : (List (List Int))) : ancepslaw28_of.f p0 p1 =
  some ((2 : Int), ((0 : Int), (p1, (p0, ())))) := (Einf_call Go.Proofs.C28.ctx 37 _).trans (by kernel_rfl)
theorem ancepsref28_Few.l3_eq (p0 : Int) (p1 : Int) (p2 : Int) (p3 : Int) (p4 : (List (List Int))) (p5 : (List Bool)) (p6 : Int) (p7 : Int) (p8 : (List (List Int))) (p9 : (List Bool)) : ancepsref28_Few.l3 p0 p1 p2 p3 p4 p5 p6 p7 p8 p9 =
  ifB (decide (p1 < (((List.length p4) : Nat) : Int)))
   (ifB (decide (p1 < (61 : Int)))
    (bindD ((ixAt p4 p1)) fun t104 =>
    ancepsref28_Few.l3 (Go.IntKind.wrap Go.IntKind.i64 (p0 + (((List.length t104) : Nat) : Int))) (Go.IntKind.wrap Go.IntKind.i64 (p1 + (1 : Int))) p2 p3 p4 p5 p6 p7 p8 p9)
   (ancepsref28_Few.l7 p0 (0 : Int) p2 p3 p4 p5 p6 p7 p8 p9))
  (ancepsref28_Few.l7 p0 (0 : Int) p2 p3 p4 p5 p6 p7 p8 p9) := (loopAt_step Go.Proofs.C28.ctx 12 3 _).trans (by kernel_rfl)
theorem difference_valid.f_eq (p0 : Int) (p1 : Int) (p2 : (List (List Int))) (p3 : (List Bool)) (p4 : Int) (p5 : Int) (p6 : (List (List Int))) (p7 : (List Bool)) : difference_valid.f p0 p1 p2 p3 p4 p5 p6 p7 =
  bindD (automaton_Valid.f p0 p1 p2 p3) fun t105 =>
  ifB (t105.1 != (0 : Int))
   (some ((1 : Int), ()))
  (bindD (automaton_Valid.f p4 p5 p6 p7) fun t106 =>
   ifB (t106.1 != (0 : Int))
    (some ((1 : Int), ()))
   (ifB (p0 != p4)
     (some ((1 : Int), ()))
    (some ((0 : Int), ())))) := (Einf_call Go.Proofs.C28.ctx 38 _).trans (by kernel_rfl)
theorem difference_apart.f_eq (p0 : Int) (p1 : Int) (p2 : (List (List Int))) (p3 : (List Bool)) (p4 : Int) (p5 : Int) (p6 : (List (List Int))) (p7 : (List Bool)) : difference_apart.f p0 p1 p2 p3 p4 p5 p6 p7 =
  bindD (difference_side.f1 p0 p1 p2 p3 p4 p5 p6 p7) fun t107 =>
  difference_apart.l3 (((List.length t107.1) : Nat) : Int) (0 : Int) p0 p1 p2 p3 p4 p5 p6 p7 t107.1 := (Einf_call Go.Proofs.C28.ctx 39 _).trans (by kernel_rfl)
theorem ancepsref28_valid.f_eq (p0 : Int) (p1 : Int) (p2 : (List (List Int))) (p3 : (List Bool)) (p4 : Int) (p5 : Int) (p6 : (List (List Int))) (p7 : (List Bool)) : ancepsref28_valid.f p0 p1 p2 p3 p4 p5 p6 p7 =
  bindD (ancepsref06_Valid.f p0 p1 p2 p3) fun t108 =>
  ifB (t108.1 != (0 : Int))
   (some ((1 : Int), ()))
  (bindD (ancepsref06_Valid.f p4 p5 p6 p7) fun t109 =>
   ifB (t109.1 != (0 : Int))
    (some ((1 : Int), ()))
   (ifB (p0 != p4)
     (some ((1 : Int), ()))
    (some ((0 : Int), ())))) := (Einf_call Go.Proofs.C28.ctx 44 _).trans (by kernel_rfl)
theorem ancepsref28_tells.f_eq (p0 : Int) (p1 : Int) (p2 : (List (List Int))) (p3 : (List Bool)) (p4 : Int) (p5 : Int) (p6 : (List (List Int))) (p7 : (List Bool)) : ancepsref28_tells.f p0 p1 p2 p3 p4 p5 p6 p7 =
  bindD (ancepsref28_reach.f p0 p1 p2 p3 p4 p5 p6 p7) fun t110 =>
  ancepsref28_tells.l3 (0 : Int) p0 p1 p2 p3 p4 p5 p6 p7 t110.1 t110.2.1 := (Einf_call Go.Proofs.C28.ctx 45 _).trans (by kernel_rfl)
theorem difference_within.f_eq (p0 : Int) (p1 : Int) (p2 : (List (List Int))) (p3 : (List Bool)) (p4 : Int) (p5 : Int) (p6 : (List (List Int))) (p7 : (List Bool)) : difference_within.f p0 p1 p2 p3 p4 p5 p6 p7 =
  bindD (difference_side.f p0 p1 p2 p3 p4 p5 p6 p7) fun t111 =>
  bindD (difference_visit.f1 t111.1 p0 p1 p2 p3 p4 p5 p6 p7) fun t112 =>
  some ((!t112.1), ()) := (Einf_call Go.Proofs.C28.ctx 40 _).trans (by kernel_rfl)
theorem ancepsref28_within.f_eq (p0 : Int) (p1 : Int) (p2 : (List (List Int))) (p3 : (List Bool)) (p4 : Int) (p5 : Int) (p6 : (List (List Int))) (p7 : (List Bool)) : ancepsref28_within.f p0 p1 p2 p3 p4 p5 p6 p7 =
  bindD (ancepsref28_reach.f p0 p1 p2 p3 p4 p5 p6 p7) fun t113 =>
  ancepsref28_within.l3 t113.1 (0 : Int) p0 p1 p2 p3 p4 p5 p6 p7 := (Einf_call Go.Proofs.C28.ctx 46 _).trans (by kernel_rfl)
theorem difference_side.f_eq (p0 : Int) (p1 : Int) (p2 : (List (List Int))) (p3 : (List Bool)) (p4 : Int) (p5 : Int) (p6 : (List (List Int))) (p7 : (List Bool)) : difference_side.f p0 p1 p2 p3 p4 p5 p6 p7 =
  bindD (difference_left.f p1 p5) fun t114 =>
  ifB (!t114.1)
   (some (([] : (List ((Int × Int) × (Int × Int)))), ()))
  (difference_side.l7 (0 : Int) p0 p1 p2 p3 p4 p5 p6 p7 (((p1, p5), ((-(1 : Int)), (-(1 : Int)))) :: ([] : (List ((Int × Int) × (Int × Int))))) (Go.Proofs.R.mput (Go.Proofs.R.Ty.pair (Go.Proofs.R.Ty.int Go.IntKind.i64) (Go.Proofs.R.Ty.int Go.IntKind.i64)) (p1, p5) true ([] : (List ((Int × Int) × Bool))))) := (Einf_call Go.Proofs.C28.ctx 54 _).trans (by kernel_rfl)
theorem difference_visit.f_eq (p0 : (List ((Int × Int) × (Int × Int)))) (p1 : Int) (p2 : Int) (p3 : (List (List Int))) (p4 : (List Bool)) (p5 : Int) (p6 : Int) (p7 : (List (List Int))) (p8 : (List Bool)) : difference_visit.f p0 p1 p2 p3 p4 p5 p6 p7 p8 =
  bindD (difference_visit_70.f p0 p1 p2 p3 p4 p5 p6 p7 p8) fun t115 =>
  some ((decide (t115.1 ≥ (0 : Int))), ()) := (Einf_call Go.Proofs.C28.ctx 53 _).trans (by kernel_rfl)
theorem ancepsref28_reach.f_eq (p0 : Int) (p1 : Int) (p2 : (List (List Int))) (p3 : (List Bool)) (p4 : Int) (p5 : Int) (p6 : (List (List Int))) (p7 : (List Bool)) : ancepsref28_reach.f p0 p1 p2 p3 p4 p5 p6 p7 =
  ifB (decide (p1 < (0 : Int)))
   (ifB (decide (p5 < (0 : Int)))
    (some (([] : (List (Int × Int))), (([] : (List (List Int))), ())))
   (ancepsref28_reach.l6 (0 : Int) p0 p1 p2 p3 p4 p5 p6 p7 ([] : (List (Int × Int))) ([] : (List (List Int))) ((p1, p5) :: ([] : (List (Int × Int)))) (([] : (List Int)) :: ([] : (List (List Int))))))
  (ancepsref28_reach.l6 (0 : Int) p0 p1 p2 p3 p4 p5 p6 p7 ([] : (List (Int × Int))) ([] : (List (List Int))) ((p1, p5) :: ([] : (List (Int × Int)))) (([] : (List Int)) :: ([] : (List (List Int))))) := (Einf_call Go.Proofs.C28.ctx 47 _).trans (by kernel_rfl)
theorem ancepsref28_Disjoint.l6_eq (p0 : (List (Int × Int))) (p1 : Int) (p2 : Int) (p3 : Int) (p4 : (List (List Int))) (p5 : (List Bool)) (p6 : Int) (p7 : Int) (p8 : (List (List Int))) (p9 : (List Bool)) : ancepsref28_Disjoint.l6 p0 p1 p2 p3 p4 p5 p6 p7 p8 p9 =
  ifB (decide (p1 < (((List.length p0) : Nat) : Int)))
   (bindD ((ixAt p0 p1)) fun t116 =>
   bindD (ancepsref28_accepts.f p2 p3 p4 p5 t116.1) fun t117 =>
   ifB t117.1
    (bindD ((ixAt p0 p1)) fun t118 =>
    bindD (ancepsref28_accepts.f p6 p7 p8 p9 t118.2) fun t119 =>
    ifB t119.1
     (some (false, ((0 : Int), ())))
    (ancepsref28_Disjoint.l6 p0 (Go.IntKind.wrap Go.IntKind.i64 (p1 + (1 : Int))) p2 p3 p4 p5 p6 p7 p8 p9))
   (ancepsref28_Disjoint.l6 p0 (Go.IntKind.wrap Go.IntKind.i64 (p1 + (1 : Int))) p2 p3 p4 p5 p6 p7 p8 p9))
  (some (true, ((0 : Int), ()))) := (loopAt_step Go.Proofs.C28.ctx 22 6 _).trans (by kernel_rfl)
theorem slices_Equal_int_int.l4_eq (p0 : (List Int)) (p1 : (List Int)) (p2 : Int) (p3 : Int) : slices_Equal_int_int.l4 p0 p1 p2 p3 =
  ifB (decide (p3 < p2))
   (bindD ((ixAt p0 p3)) fun t120 =>
   bindD ((ixAt p1 p3)) fun t121 =>
   ifB (t120 != t121)
    (some (false, ()))
   (slices_Equal_int_int.l4 p0 p1 p2 (Go.IntKind.wrap Go.IntKind.i64 (p3 + (1 : Int)))))
  (some (true, ())) := (loopAt_step Go.Proofs.C28.ctx 25 4 _).trans (by kernel_rfl)
theorem automaton_Valid.f_eq (p0 : Int) (p1 : Int) (p2 : (List (List Int))) (p3 : (List Bool)) : automaton_Valid.f p0 p1 p2 p3 =
  ifB (decide (p0 < (1 : Int)))
   (some ((1 : Int), ()))
  (ifB (decide (p0 > (8 : Int)))
    (some ((1 : Int), ()))
   (ifB (decide ((((List.length p2) : Nat) : Int) > (400 : Int)))
     (some ((1 : Int), ()))
    (ifB ((((List.length p3) : Nat) : Int) != (((List.length p2) : Nat) : Int))
      (some ((1 : Int), ()))
     (ifB (decide (p1 < (0 : Int)))
       (ifB (decide ((((List.length p2) : Nat) : Int) > (0 : Int)))
        (some ((1 : Int), ()))
       (ifB (p1 != (-(1 : Int)))
         (some ((1 : Int), ()))
        (ifB (decide (p1 ≥ (((List.length p2) : Nat) : Int)))
          (some ((1 : Int), ()))
         (automaton_Valid.l7 p2 (((List.length p2) : Nat) : Int) (0 : Int) p0 p1 p2 p3 (((List.length p2) : Nat) : Int)))))
      (ifB (decide (p1 ≥ (((List.length p2) : Nat) : Int)))
        (some ((1 : Int), ()))
       (automaton_Valid.l7 p2 (((List.length p2) : Nat) : Int) (0 : Int) p0 p1 p2 p3 (((List.length p2) : Nat) : Int))))))) := (Einf_call Go.Proofs.C28.ctx 57 _).trans (by kernel_rfl)
theorem automaton_Run.f_eq (p0 : Int) (p1 : Int) (p2 : (List (List Int))) (p3 : (List Bool)) (p4 : (List Int)) : automaton_Run.f p0 p1 p2 p3 p4 =
  bindD (automaton_Valid.f p0 p1 p2 p3) fun t122 =>
  ifB (t122.1 != (0 : Int))
   (some ((-(1 : Int)), ()))
  (automaton_Run.l5 p1 p4 (((List.length p4) : Nat) : Int) (0 : Int) p0 p1 p2 p3) := (Einf_call Go.Proofs.C28.ctx 59 _).trans (by kernel_rfl)
theorem automaton_ends.f_eq (p0 : Int) (p1 : Int) (p2 : (List (List Int))) (p3 : (List Bool)) (p4 : Int) : automaton_ends.f p0 p1 p2 p3 p4 =
  ifB (decide (p4 ≥ (0 : Int)))
   (bindD ((ixAt p3 p4)) fun t123 =>
   some (t123, ()))
  (some (false, ())) := (Einf_call Go.Proofs.C28.ctx 58 _).trans (by kernel_rfl)
theorem difference_either.f_eq (p0 : Int) (p1 : Int) : difference_either.f p0 p1 =
  ifB (decide (p0 ≥ (0 : Int)))
   (some (true, ()))
  (some ((decide (p1 ≥ (0 : Int))), ())) := (Einf_call Go.Proofs.C28.ctx 41 _).trans (by kernel_rfl)
theorem difference_Compare.l13_eq (p0 : Int) (p1 : Int) (p2 : Int) (p3 : Int) (p4 : (List (List Int))) (p5 : (List Bool)) (p6 : Int) (p7 : Int) (p8 : (List (List Int))) (p9 : (List Bool)) (p10 : Bool) (p11 : Bool) (p12 : Bool) (p13 : Bool) (p14 : Bool) (p15 : Bool) (p16 : (List ((Int × Int) × Int))) (p17 : (List Int)) (p18 : (List Int)) (p19 : (List Int)) (p20 : (List Int)) (p21 : (List Int)) (p22 : (List Int)) (p23 : (List Int)) (p24 : (List Int)) : difference_Compare.l13 p0 p1 p2 p3 p4 p5 p6 p7 p8 p9 p10 p11 p12 p13 p14 p15 p16 p17 p18 p19 p20 p21 p22 p23 p24 =
  ifB (decide (p1 < p0))
   (difference_Compare.l17 (0 : Int) (0 : Int) (0 : Int) p0 p1 p2 p3 p4 p5 p6 p7 p8 p9 p10 p11 p12 p13 p14 p15 ([] : (List ((Int × Int) × Int))) (List.length p16) ([] : (List Nat)) p17 p18 p19 p20 p21 p22 p23 p24 p16)
  (some (p13, (p14, (p15, (p21, (p22, (p23, (p24, ((0 : Int), ()))))))))) := (loopAt_step Go.Proofs.C28.ctx 13 13 _).trans (by kernel_rfl)
theorem ancepsref28_Compare.l13_eq (p0 : Int) (p1 : (List (Int × Int))) (p2 : Int) (p3 : Int) (p4 : Int) (p5 : (List (List Int))) (p6 : (List Bool)) (p7 : Int) (p8 : Int) (p9 : (List (List Int))) (p10 : (List Bool)) (p11 : Bool) (p12 : Bool) (p13 : Bool) (p14 : Bool) (p15 : Bool) (p16 : Bool) (p17 : (List Int)) (p18 : (List Int)) (p19 : (List Int)) (p20 : (List Int)) (p21 : (List Int)) (p22 : (List Int)) (p23 : (List Int)) (p24 : (List Int)) (p25 : (List Int)) : ancepsref28_Compare.l13 p0 p1 p2 p3 p4 p5 p6 p7 p8 p9 p10 p11 p12 p13 p14 p15 p16 p17 p18 p19 p20 p21 p22 p23 p24 p25 =
  ifB (decide (p2 ≤ p0))
   (bindD ((Go.Proofs.R.mkLen (((List.length p1) : Nat) : Int) (((List.length p1) : Nat) : Int))) fun t124 =>
   ancepsref28_Compare.l18 p0 p1 p2 (0 : Int) (0 : Int) (0 : Int) (0 : Int) p3 p4 p5 p6 p7 p8 p9 p10 p11 p12 p13 p14 p15 p16 p17 p18 (List.replicate t124 (0 : Int)) p19 p20 p21 p22 p23 p24 p25)
  (some (p14, (p15, (p16, (p17, (p23, (p24, (p25, ((0 : Int), ()))))))))) := (loopAt_step Go.Proofs.C28.ctx 14 13 _).trans (by kernel_rfl)
theorem ancepsref06_Equal.f_eq (p0 : (List Int)) (p1 : (List Int)) : ancepsref06_Equal.f p0 p1 =
  ifB ((((List.length p0) : Nat) : Int) != (((List.length p1) : Nat) : Int))
   (some (false, ()))
  (ancepsref06_Equal.l4 p0 p1 (0 : Int)) := (Einf_call Go.Proofs.C28.ctx 51 _).trans (by kernel_rfl)
theorem ancepsref28_numbers.f_eq (p0 : (List Int)) (p1 : (List Int)) : ancepsref28_numbers.f p0 p1 =
  ifB ((((List.length p0) : Nat) : Int) != (((List.length p1) : Nat) : Int))
   (some (false, ()))
  (ancepsref28_numbers.l4 p0 p1 (0 : Int)) := (Einf_call Go.Proofs.C28.ctx 52 _).trans (by kernel_rfl)
theorem ancepsref06_Made.l4_eq (p0 : Int) (p1 : Int) (p2 : Int) (p3 : (List Int)) (p4 : Int) (p5 : Int) (p6 : Int) (p7 : Int) (p8 : Int) (p9 : (List (List Int))) (p10 : (List Bool)) (p11 : (List (List Int))) (p12 : (List Bool)) : ancepsref06_Made.l4 p0 p1 p2 p3 p4 p5 p6 p7 p8 p9 p10 p11 p12 =
  ifB (decide (p1 < p0))
   (ancepsref06_Made.l8 p0 p1 (0 : Int) p2 p3 p4 p5 p6 p7 p8 ([] : (List Int)) p9 p10 p11 p12)
  (some (p7, (p8, (p11, (p12, ()))))) := (loopAt_step Go.Proofs.C28.ctx 16 4 _).trans (by kernel_rfl)
theorem difference_CheckWithin.l5_eq (p0 : (List (Int × Int))) (p1 : Int) (p2 : Int) (p3 : Int) (p4 : Int) (p5 : (List (List Int))) (p6 : (List Bool)) (p7 : Int) (p8 : Int) (p9 : (List (List Int))) (p10 : (List Bool)) (p11 : (List (Int × Int))) : difference_CheckWithin.l5 p0 p1 p2 p3 p4 p5 p6 p7 p8 p9 p10 p11 =
  ifB (decide (p2 < p1))
   (bindD ((ixAt p0 p2)) fun t125 =>
   ifB (decide (p2 > (0 : Int)))
    (bindD ((ixAt p11 (Go.IntKind.wrap Go.IntKind.i64 (p2 - (1 : Int))))) fun t126 =>
    bindD (difference_order.f t126.1 t126.2 t125.1 t125.2) fun t127 =>
    ifB (decide (t127.1 ≥ (0 : Int)))
     (some (false, ()))
    (ifB (decide (t125.1 < (0 : Int)))
      (some (false, ()))
     (ifB (decide (t125.1 ≥ (((List.length p5) : Nat) : Int)))
       (some (false, ()))
      (ifB (decide (t125.2 < (-(1 : Int))))
        (some (false, ()))
       (ifB (decide (t125.2 ≥ (((List.length p9) : Nat) : Int)))
         (some (false, ()))
        (difference_CheckWithin.l5 p0 p1 (Go.IntKind.wrap Go.IntKind.i64 (p2 + (1 : Int))) p3 p4 p5 p6 p7 p8 p9 p10 p11))))))
   (ifB (decide (t125.1 < (0 : Int)))
     (some (false, ()))
    (ifB (decide (t125.1 ≥ (((List.length p5) : Nat) : Int)))
      (some (false, ()))
     (ifB (decide (t125.2 < (-(1 : Int))))
       (some (false, ()))
      (ifB (decide (t125.2 ≥ (((List.length p9) : Nat) : Int)))
        (some (false, ()))
       (difference_CheckWithin.l5 p0 p1 (Go.IntKind.wrap Go.IntKind.i64 (p2 + (1 : Int))) p3 p4 p5 p6 p7 p8 p9 p10 p11))))))
  (difference_CheckWithin.l11 p11 (((List.length p11) : Nat) : Int) (0 : Int) p3 p4 p5 p6 p7 p8 p9 p10 p11) := (loopAt_step Go.Proofs.C28.ctx 27 5 _).trans (by kernel_rfl)
theorem ancepsref28_index.f_eq (p0 : (List (Int × Int))) (p1 : Int) (p2 : Int) : ancepsref28_index.f p0 p1 p2 =
  ancepsref28_index.l2 p0 (0 : Int) p1 p2 := (Einf_call Go.Proofs.C28.ctx 49 _).trans (by kernel_rfl)
theorem ancepsref28_CheckWithin.l4_eq (p0 : (List (Int × Int))) (p1 : Int) (p2 : Int) (p3 : Int) (p4 : (List (List Int))) (p5 : (List Bool)) (p6 : Int) (p7 : Int) (p8 : (List (List Int))) (p9 : (List Bool)) : ancepsref28_CheckWithin.l4 p0 p1 p2 p3 p4 p5 p6 p7 p8 p9 =
  ifB (decide (p1 < (((List.length p0) : Nat) : Int)))
   (bindD ((ixAt p0 p1)) fun t128 =>
   ifB (decide (t128.1 < (0 : Int)))
    (some (false, ()))
   (ifB (decide (t128.1 ≥ (((List.length p4) : Nat) : Int)))
     (some (false, ()))
    (ifB (decide (t128.2 < (-(1 : Int))))
      (some (false, ()))
     (ifB (decide (t128.2 ≥ (((List.length p8) : Nat) : Int)))
       (some (false, ()))
      (ifB (decide (p1 > (0 : Int)))
        (bindD ((ixAt p0 (Go.IntKind.wrap Go.IntKind.i64 (p1 - (1 : Int))))) fun t129 =>
        bindD (ancepsref28_less.f t129.1 t129.2 t128.1 t128.2) fun t130 =>
        ifB (!t130.1)
         (some (false, ()))
        (bindD (ancepsref28_accepts.f p2 p3 p4 p5 t128.1) fun t131 =>
         ifB t131.1
          (bindD (ancepsref28_accepts.f p6 p7 p8 p9 t128.2) fun t132 =>
          ifB (!t132.1)
           (some (false, ()))
          (ancepsref28_CheckWithin.l10 p0 p1 (0 : Int) p2 p3 p4 p5 p6 p7 p8 p9 t128.1 t128.2))
         (ancepsref28_CheckWithin.l10 p0 p1 (0 : Int) p2 p3 p4 p5 p6 p7 p8 p9 t128.1 t128.2)))
       (bindD (ancepsref28_accepts.f p2 p3 p4 p5 t128.1) fun t133 =>
        ifB t133.1
         (bindD (ancepsref28_accepts.f p6 p7 p8 p9 t128.2) fun t134 =>
         ifB (!t134.1)
          (some (false, ()))
         (ancepsref28_CheckWithin.l10 p0 p1 (0 : Int) p2 p3 p4 p5 p6 p7 p8 p9 t128.1 t128.2))
        (ancepsref28_CheckWithin.l10 p0 p1 (0 : Int) p2 p3 p4 p5 p6 p7 p8 p9 t128.1 t128.2)))))))
  (some (true, ())) := (loopAt_step Go.Proofs.C28.ctx 29 4 _).trans (by kernel_rfl)
theorem ancepsref28_Few.l7_eq (p0 : Int) (p1 : Int) (p2 : Int) (p3 : Int) (p4 : (List (List Int))) (p5 : (List Bool)) (p6 : Int) (p7 : Int) (p8 : (List (List Int))) (p9 : (List Bool)) : ancepsref28_Few.l7 p0 p1 p2 p3 p4 p5 p6 p7 p8 p9 =
  ifB (decide (p1 < (((List.length p8) : Nat) : Int)))
   (ifB (decide (p1 < (61 : Int)))
    (bindD ((ixAt p8 p1)) fun t135 =>
    ancepsref28_Few.l7 (Go.IntKind.wrap Go.IntKind.i64 (p0 + (((List.length t135) : Nat) : Int))) (Go.IntKind.wrap Go.IntKind.i64 (p1 + (1 : Int))) p2 p3 p4 p5 p6 p7 p8 p9)
   (ifB (decide ((Go.IntKind.wrap Go.IntKind.i64 ((((List.length p4) : Nat) : Int) + (((List.length p8) : Nat) : Int))) ≤ (60 : Int)))
     (ifB (decide (p0 ≤ (500 : Int)))
      (ifB (decide ((((List.length p5) : Nat) : Int) ≤ (70 : Int)))
       (some ((decide ((((List.length p9) : Nat) : Int) ≤ (70 : Int))), ()))
      (some (false, ())))
     (some (false, ())))
    (some (false, ()))))
  (ifB (decide ((Go.IntKind.wrap Go.IntKind.i64 ((((List.length p4) : Nat) : Int) + (((List.length p8) : Nat) : Int))) ≤ (60 : Int)))
    (ifB (decide (p0 ≤ (500 : Int)))
     (ifB (decide ((((List.length p5) : Nat) : Int) ≤ (70 : Int)))
      (some ((decide ((((List.length p9) : Nat) : Int) ≤ (70 : Int))), ()))
     (some (false, ())))
    (some (false, ())))
   (some (false, ()))) := (loopAt_step Go.Proofs.C28.ctx 12 7 _).trans (by kernel_rfl)
theorem difference_side.f1_eq (p0 : Int) (p1 : Int) (p2 : (List (List Int))) (p3 : (List Bool)) (p4 : Int) (p5 : Int) (p6 : (List (List Int))) (p7 : (List Bool)) : difference_side.f1 p0 p1 p2 p3 p4 p5 p6 p7 =
  bindD (difference_either.f p1 p5) fun t136 =>
  ifB (!t136.1)
   (some (([] : (List ((Int × Int) × (Int × Int)))), ()))
  (difference_side.l7_1 (0 : Int) p0 p1 p2 p3 p4 p5 p6 p7 (((p1, p5), ((-(1 : Int)), (-(1 : Int)))) :: ([] : (List ((Int × Int) × (Int × Int))))) (Go.Proofs.R.mput (Go.Proofs.R.Ty.pair (Go.Proofs.R.Ty.int Go.IntKind.i64) (Go.Proofs.R.Ty.int Go.IntKind.i64)) (p1, p5) true ([] : (List ((Int × Int) × Bool))))) := (Einf_call Go.Proofs.C28.ctx 54 _).trans (by kernel_rfl)
theorem difference_apart.l3_eq (p0 : Int) (p1 : Int) (p2 : Int) (p3 : Int) (p4 : (List (List Int))) (p5 : (List Bool)) (p6 : Int) (p7 : Int) (p8 : (List (List Int))) (p9 : (List Bool)) (p10 : (List ((Int × Int) × (Int × Int)))) : difference_apart.l3 p0 p1 p2 p3 p4 p5 p6 p7 p8 p9 p10 =
  ifB (decide (p1 < p0))
   (bindD ((ixAt p10 p1)) fun t137 =>
   bindD ((ixAt p10 p1)) fun t138 =>
   bindD (difference_accepts.f p2 p3 p4 p5 t138.1.1) fun t139 =>
   bindD (difference_accepts.f p6 p7 p8 p9 t138.1.2) fun t140 =>
   ifB (t139.1 == t140.1)
    (difference_apart.l3 p0 (Go.IntKind.wrap Go.IntKind.i64 (p1 + (1 : Int))) p2 p3 p4 p5 p6 p7 p8 p9 p10)
   (difference_apart.l9 t139.1 p1 p10 ([] : (List Int))))
  (some (([] : (List Int)), ((0 : Int), ()))) := (loopAt_step Go.Proofs.C28.ctx 39 3 _).trans (by kernel_rfl)
theorem ancepsref06_Valid.f_eq (p0 : Int) (p1 : Int) (p2 : (List (List Int))) (p3 : (List Bool)) : ancepsref06_Valid.f p0 p1 p2 p3 =
  ifB (decide (p0 < (1 : Int)))
   (some ((1 : Int), ()))
  (ifB (decide (p0 > (8 : Int)))
    (some ((1 : Int), ()))
   (ifB (decide ((((List.length p2) : Nat) : Int) > (400 : Int)))
     (some ((1 : Int), ()))
    (ifB ((((List.length p3) : Nat) : Int) != (((List.length p2) : Nat) : Int))
      (some ((1 : Int), ()))
     (ifB ((((List.length p2) : Nat) : Int) == (0 : Int))
       (ifB (p1 != (-(1 : Int)))
        (some ((1 : Int), ()))
       (ifB (decide ((((List.length p2) : Nat) : Int) > (0 : Int)))
         (ifB (decide (p1 < (0 : Int)))
          (some ((1 : Int), ()))
         (ifB (decide (p1 ≥ (((List.length p2) : Nat) : Int)))
           (some ((1 : Int), ()))
          (ancepsref06_Valid.l7 (((List.length p2) : Nat) : Int) (0 : Int) p0 p1 p2 p3)))
        (ancepsref06_Valid.l7 (((List.length p2) : Nat) : Int) (0 : Int) p0 p1 p2 p3)))
      (ifB (decide ((((List.length p2) : Nat) : Int) > (0 : Int)))
        (ifB (decide (p1 < (0 : Int)))
         (some ((1 : Int), ()))
        (ifB (decide (p1 ≥ (((List.length p2) : Nat) : Int)))
          (some ((1 : Int), ()))
         (ancepsref06_Valid.l7 (((List.length p2) : Nat) : Int) (0 : Int) p0 p1 p2 p3)))
       (ancepsref06_Valid.l7 (((List.length p2) : Nat) : Int) (0 : Int) p0 p1 p2 p3)))))) := (Einf_call Go.Proofs.C28.ctx 69 _).trans (by kernel_rfl)
theorem ancepsref28_tells.l3_eq (p0 : Int) (p1 : Int) (p2 : Int) (p3 : (List (List Int))) (p4 : (List Bool)) (p5 : Int) (p6 : Int) (p7 : (List (List Int))) (p8 : (List Bool)) (p9 : (List (Int × Int))) (p10 : (List (List Int))) : ancepsref28_tells.l3 p0 p1 p2 p3 p4 p5 p6 p7 p8 p9 p10 =
  ifB (decide (p0 < (((List.length p9) : Nat) : Int)))
   (bindD ((ixAt p9 p0)) fun t141 =>
   bindD (ancepsref28_accepts.f p1 p2 p3 p4 t141.1) fun t142 =>
   bindD ((ixAt p9 p0)) fun t143 =>
   bindD (ancepsref28_accepts.f p5 p6 p7 p8 t143.2) fun t144 =>
   ifB t142.1
    (ifB (!t144.1)
     (bindD ((ixAt p10 p0)) fun t145 =>
     some (t145, ((1 : Int), ())))
    (ifB t144.1
      (ifB (!t142.1)
       (bindD ((ixAt p10 p0)) fun t146 =>
       some (t146, ((2 : Int), ())))
      (ancepsref28_tells.l3 (Go.IntKind.wrap Go.IntKind.i64 (p0 + (1 : Int))) p1 p2 p3 p4 p5 p6 p7 p8 p9 p10))
     (ancepsref28_tells.l3 (Go.IntKind.wrap Go.IntKind.i64 (p0 + (1 : Int))) p1 p2 p3 p4 p5 p6 p7 p8 p9 p10)))
   (ifB t144.1
     (ifB (!t142.1)
      (bindD ((ixAt p10 p0)) fun t147 =>
      some (t147, ((2 : Int), ())))
     (ancepsref28_tells.l3 (Go.IntKind.wrap Go.IntKind.i64 (p0 + (1 : Int))) p1 p2 p3 p4 p5 p6 p7 p8 p9 p10))
    (ancepsref28_tells.l3 (Go.IntKind.wrap Go.IntKind.i64 (p0 + (1 : Int))) p1 p2 p3 p4 p5 p6 p7 p8 p9 p10)))
  (some (([] : (List Int)), ((0 : Int), ()))) := (loopAt_step Go.Proofs.C28.ctx 45 3 _).trans (by kernel_rfl)
theorem difference_visit.f1_eq (p0 : (List ((Int × Int) × (Int × Int)))) (p1 : Int) (p2 : Int) (p3 : (List (List Int))) (p4 : (List Bool)) (p5 : Int) (p6 : Int) (p7 : (List (List Int))) (p8 : (List Bool)) : difference_visit.f1 p0 p1 p2 p3 p4 p5 p6 p7 p8 =
  bindD (difference_visit_70.f1 p0 p1 p2 p3 p4 p5 p6 p7 p8) fun t148 =>
  some ((decide (t148.1 ≥ (0 : Int))), ()) := (Einf_call Go.Proofs.C28.ctx 53 _).trans (by kernel_rfl)
theorem ancepsref28_within.l3_eq (p0 : (List (Int × Int))) (p1 : Int) (p2 : Int) (p3 : Int) (p4 : (List (List Int))) (p5 : (List Bool)) (p6 : Int) (p7 : Int) (p8 : (List (List Int))) (p9 : (List Bool)) : ancepsref28_within.l3 p0 p1 p2 p3 p4 p5 p6 p7 p8 p9 =
  ifB (decide (p1 < (((List.length p0) : Nat) : Int)))
   (bindD ((ixAt p0 p1)) fun t149 =>
   bindD (ancepsref28_accepts.f p2 p3 p4 p5 t149.1) fun t150 =>
   ifB t150.1
    (bindD ((ixAt p0 p1)) fun t151 =>
    bindD (ancepsref28_accepts.f p6 p7 p8 p9 t151.2) fun t152 =>
    ifB (!t152.1)
     (some (false, ()))
    (ancepsref28_within.l3 p0 (Go.IntKind.wrap Go.IntKind.i64 (p1 + (1 : Int))) p2 p3 p4 p5 p6 p7 p8 p9))
   (ancepsref28_within.l3 p0 (Go.IntKind.wrap Go.IntKind.i64 (p1 + (1 : Int))) p2 p3 p4 p5 p6 p7 p8 p9))
  (some (true, ())) := (loopAt_step Go.Proofs.C28.ctx 46 3 _).trans (by kernel_rfl)
theorem difference_left.f_eq (p0 : Int) (p1 : Int) : difference_left.f p0 p1 =
  some ((decide (p0 ≥ (0 : Int))), ()) := (Einf_call Go.Proofs.C28.ctx 55 _).trans (by kernel_rfl)
theorem difference_side.l7_eq (p0 : Int) (p1 : Int) (p2 : Int) (p3 : (List (List Int))) (p4 : (List Bool)) (p5 : Int) (p6 : Int) (p7 : (List (List Int))) (p8 : (List Bool)) (p9 : (List ((Int × Int) × (Int × Int)))) (p10 : (List ((Int × Int) × Bool))) : difference_side.l7 p0 p1 p2 p3 p4 p5 p6 p7 p8 p9 p10 =
  ifB (decide (p0 < (((List.length p9) : Nat) : Int)))
   (difference_side.l10 p0 p1 (0 : Int) p1 p2 p3 p4 p5 p6 p7 p8 p9 p10)
  (some (p9, ())) := (loopAt_step Go.Proofs.C28.ctx 54 7 _).trans (by kernel_rfl)
theorem difference_visit_70.f_eq (p0 : (List ((Int × Int) × (Int × Int)))) (p1 : Int) (p2 : Int) (p3 : (List (List Int))) (p4 : (List Bool)) (p5 : Int) (p6 : Int) (p7 : (List (List Int))) (p8 : (List Bool)) : difference_visit_70.f p0 p1 p2 p3 p4 p5 p6 p7 p8 =
  difference_visit_70.l2 p0 p1 p2 p3 p4 p5 p6 p7 p8 (((List.length p0) : Nat) : Int) (0 : Int) := (Einf_call Go.Proofs.C28.ctx 70 _).trans (by kernel_rfl)
theorem ancepsref28_reach.l6_eq (p0 : Int) (p1 : Int) (p2 : Int) (p3 : (List (List Int))) (p4 : (List Bool)) (p5 : Int) (p6 : Int) (p7 : (List (List Int))) (p8 : (List Bool)) (p9 : (List (Int × Int))) (p10 : (List (List Int))) (p11 : (List (Int × Int))) (p12 : (List (List Int))) : ancepsref28_reach.l6 p0 p1 p2 p3 p4 p5 p6 p7 p8 p9 p10 p11 p12 =
  ifB (decide (p0 < (((List.length p11) : Nat) : Int)))
   (ancepsref28_reach.l9 p0 (0 : Int) p1 p2 p3 p4 p5 p6 p7 p8 p9 p10 p11 p12)
  (some (p11, (p12, ()))) := (loopAt_step Go.Proofs.C28.ctx 47 6 _).trans (by kernel_rfl)
theorem ancepsref28_accepts.f_eq (p0 : Int) (p1 : Int) (p2 : (List (List Int))) (p3 : (List Bool)) (p4 : Int) : ancepsref28_accepts.f p0 p1 p2 p3 p4 =
  ifB (decide (p4 ≥ (0 : Int)))
   (bindD ((ixAt p3 p4)) fun t153 =>
   some (t153, ()))
  (some (false, ())) := (Einf_call Go.Proofs.C28.ctx 48 _).trans (by kernel_rfl)
theorem automaton_Valid.l7_eq (p0 : (List (List Int))) (p1 : Int) (p2 : Int) (p3 : Int) (p4 : Int) (p5 : (List (List Int))) (p6 : (List Bool)) (p7 : Int) : automaton_Valid.l7 p0 p1 p2 p3 p4 p5 p6 p7 =
  ifB (decide (p2 < p1))
   (bindD ((ixAt p0 p2)) fun t154 =>
   ifB ((((List.length t154) : Nat) : Int) != p3)
    (some ((1 : Int), ()))
   (bindD (slices_ContainsFunc_int_int.f t154 p7) fun t155 =>
    ifB t155.1
     (some ((1 : Int), ()))
    (automaton_Valid.l7 p0 p1 (Go.IntKind.wrap Go.IntKind.i64 (p2 + (1 : Int))) p3 p4 p5 p6 p7)))
  (some ((0 : Int), ())) := (loopAt_step Go.Proofs.C28.ctx 57 7 _).trans (by kernel_rfl)
theorem automaton_Run.l5_eq (p0 : Int) (p1 : (List Int)) (p2 : Int) (p3 : Int) (p4 : Int) (p5 : Int) (p6 : (List (List Int))) (p7 : (List Bool)) : automaton_Run.l5 p0 p1 p2 p3 p4 p5 p6 p7 =
  ifB (decide (p3 < p2))
   (bindD ((ixAt p1 p3)) fun t156 =>
   bindD (automaton_next.f p4 p5 p6 p7 p0 t156) fun t157 =>
   automaton_Run.l5 t157.1 p1 p2 (Go.IntKind.wrap Go.IntKind.i64 (p3 + (1 : Int))) p4 p5 p6 p7)
  (some (p0, ())) := (loopAt_step Go.Proofs.C28.ctx 59 5 _).trans (by kernel_rfl)
theorem difference_Compare.l17_eq (p0 : Int) (p1 : Int) (p2 : Int) (p3 : Int) (p4 : Int) (p5 : Int) (p6 : Int) (p7 : (List (List Int))) (p8 : (List Bool)) (p9 : Int) (p10 : Int) (p11 : (List (List Int))) (p12 : (List Bool)) (p13 : Bool) (p14 : Bool) (p15 : Bool) (p16 : Bool) (p17 : Bool) (p18 : Bool) (p19 : (List ((Int × Int) × Int))) (p20 : Nat) (p21 : (List Nat)) (p22 : (List Int)) (p23 : (List Int)) (p24 : (List Int)) (p25 : (List Int)) (p26 : (List Int)) (p27 : (List Int)) (p28 : (List Int)) (p29 : (List Int)) (p30 : (List ((Int × Int) × Int))) : difference_Compare.l17 p0 p1 p2 p3 p4 p5 p6 p7 p8 p9 p10 p11 p12 p13 p14 p15 p16 p17 p18 p19 p20 p21 p22 p23 p24 p25 p26 p27 p28 p29 p30 =
  eachB p30 p20 p21
   (bindD ((Go.Proofs.R.grow ((List.length p27) + (List.length (p0 :: ([] : (List Int))))))) fun t158 =>
   bindD ((Go.Proofs.R.grow ((List.length p28) + (List.length (p1 :: ([] : (List Int))))))) fun t159 =>
   bindD ((Go.Proofs.R.grow ((List.length p29) + (List.length (p2 :: ([] : (List Int))))))) fun t160 =>
   difference_Compare.l13 p3 (Go.IntKind.wrap Go.IntKind.i64 (p4 + (1 : Int))) p5 p6 p7 p8 p9 p10 p11 p12 p13 p14 p15 p16 p17 p18 p19 p22 p23 p24 p25 p26 (p27 ++ (p0 :: ([] : (List Int)))) (p28 ++ (p1 :: ([] : (List Int)))) (p29 ++ (p2 :: ([] : (List Int))))) fun t161 t162 =>
   bindD ((Go.Proofs.R.entryAt p30 p20 (Go.Proofs.R.seenAdd p21 t161))) fun t163 =>
   bindD (difference_accepts.f p5 p6 p7 p8 t163.1.1) fun t164 =>
   bindD (difference_accepts.f p9 p10 p11 p12 t163.1.2) fun t165 =>
   ifB t164.1
    (ifB t165.1
     (difference_Compare.l27 (Go.IntKind.wrap Go.IntKind.i64 (p0 + t163.2)) p1 p2 t163.2 p3 p4 p5 (0 : Int) p5 p6 p7 p8 p9 p10 p11 p12 p13 p14 p15 p16 p17 p18 p19 t163.1.1 t163.1.2 p20 (Go.Proofs.R.seenAdd p21 t161) p22 p23 p24 p25 p26 p27 p28 p29 p30)
    (ifB t164.1
      (difference_Compare.l27 p0 (Go.IntKind.wrap Go.IntKind.i64 (p1 + t163.2)) p2 t163.2 p3 p4 p5 (0 : Int) p5 p6 p7 p8 p9 p10 p11 p12 p13 p14 p15 p16 p17 p18 p19 t163.1.1 t163.1.2 p20 (Go.Proofs.R.seenAdd p21 t161) p22 p23 p24 p25 p26 p27 p28 p29 p30)
     (ifB t165.1
       (difference_Compare.l27 p0 p1 (Go.IntKind.wrap Go.IntKind.i64 (p2 + t163.2)) t163.2 p3 p4 p5 (0 : Int) p5 p6 p7 p8 p9 p10 p11 p12 p13 p14 p15 p16 p17 p18 p19 t163.1.1 t163.1.2 p20 (Go.Proofs.R.seenAdd p21 t161) p22 p23 p24 p25 p26 p27 p28 p29 p30)
      (difference_Compare.l27 p0 p1 p2 t163.2 p3 p4 p5 (0 : Int) p5 p6 p7 p8 p9 p10 p11 p12 p13 p14 p15 p16 p17 p18 p19 t163.1.1 t163.1.2 p20 (Go.Proofs.R.seenAdd p21 t161) p22 p23 p24 p25 p26 p27 p28 p29 p30))))
   (ifB t164.1
     (difference_Compare.l27 p0 (Go.IntKind.wrap Go.IntKind.i64 (p1 + t163.2)) p2 t163.2 p3 p4 p5 (0 : Int) p5 p6 p7 p8 p9 p10 p11 p12 p13 p14 p15 p16 p17 p18 p19 t163.1.1 t163.1.2 p20 (Go.Proofs.R.seenAdd p21 t161) p22 p23 p24 p25 p26 p27 p28 p29 p30)
    (ifB t165.1
      (difference_Compare.l27 p0 p1 (Go.IntKind.wrap Go.IntKind.i64 (p2 + t163.2)) t163.2 p3 p4 p5 (0 : Int) p5 p6 p7 p8 p9 p10 p11 p12 p13 p14 p15 p16 p17 p18 p19 t163.1.1 t163.1.2 p20 (Go.Proofs.R.seenAdd p21 t161) p22 p23 p24 p25 p26 p27 p28 p29 p30)
     (difference_Compare.l27 p0 p1 p2 t163.2 p3 p4 p5 (0 : Int) p5 p6 p7 p8 p9 p10 p11 p12 p13 p14 p15 p16 p17 p18 p19 t163.1.1 t163.1.2 p20 (Go.Proofs.R.seenAdd p21 t161) p22 p23 p24 p25 p26 p27 p28 p29 p30))) := (loopAt_step Go.Proofs.C28.ctx 13 17 _).trans (by kernel_rfl)
theorem ancepsref28_Compare.l18_eq (p0 : Int) (p1 : (List (Int × Int))) (p2 : Int) (p3 : Int) (p4 : Int) (p5 : Int) (p6 : Int) (p7 : Int) (p8 : Int) (p9 : (List (List Int))) (p10 : (List Bool)) (p11 : Int) (p12 : Int) (p13 : (List (List Int))) (p14 : (List Bool)) (p15 : Bool) (p16 : Bool) (p17 : Bool) (p18 : Bool) (p19 : Bool) (p20 : Bool) (p21 : (List Int)) (p22 : (List Int)) (p23 : (List Int)) (p24 : (List Int)) (p25 : (List Int)) (p26 : (List Int)) (p27 : (List Int)) (p28 : (List Int)) (p29 : (List Int)) (p30 : (List Int)) : ancepsref28_Compare.l18 p0 p1 p2 p3 p4 p5 p6 p7 p8 p9 p10 p11 p12 p13 p14 p15 p16 p17 p18 p19 p20 p21 p22 p23 p24 p25 p26 p27 p28 p29 p30 =
  ifB (decide (p6 < (((List.length p1) : Nat) : Int)))
   (bindD ((ixAt p1 p6)) fun t166 =>
   bindD (ancepsref28_accepts.f p7 p8 p9 p10 t166.1) fun t167 =>
   bindD ((ixAt p1 p6)) fun t168 =>
   bindD (ancepsref28_accepts.f p11 p12 p13 p14 t168.2) fun t169 =>
   ifB t167.1
    (ifB t169.1
     (bindD ((ixAt p22 p6)) fun t170 =>
     bindD ((ixAt p22 p6)) fun t171 =>
     ifB t167.1
      (ifB (!t169.1)
       (bindD ((ixAt p22 p6)) fun t172 =>
       bindD ((ixAt p22 p6)) fun t173 =>
       ifB t169.1
        (ifB (!t167.1)
         (bindD ((ixAt p22 p6)) fun t174 =>
         bindD ((ixAt p22 p6)) fun t175 =>
         ancepsref28_Compare.l28 p0 p1 p2 (Go.IntKind.wrap Go.IntKind.i64 (p3 + t171)) (Go.IntKind.wrap Go.IntKind.i64 (p4 + t173)) (Go.IntKind.wrap Go.IntKind.i64 (p5 + t175)) p6 (0 : Int) p7 p8 p9 p10 p11 p12 p13 p14 p15 p16 p17 p18 p19 p20 p21 p22 p23 p24 p25 p26 p27 p28 p29 p30)
        (ancepsref28_Compare.l28 p0 p1 p2 (Go.IntKind.wrap Go.IntKind.i64 (p3 + t171)) (Go.IntKind.wrap Go.IntKind.i64 (p4 + t173)) p5 p6 (0 : Int) p7 p8 p9 p10 p11 p12 p13 p14 p15 p16 p17 p18 p19 p20 p21 p22 p23 p24 p25 p26 p27 p28 p29 p30))
       (ancepsref28_Compare.l28 p0 p1 p2 (Go.IntKind.wrap Go.IntKind.i64 (p3 + t171)) (Go.IntKind.wrap Go.IntKind.i64 (p4 + t173)) p5 p6 (0 : Int) p7 p8 p9 p10 p11 p12 p13 p14 p15 p16 p17 p18 p19 p20 p21 p22 p23 p24 p25 p26 p27 p28 p29 p30))
      (ifB t169.1
        (ifB (!t167.1)
         (bindD ((ixAt p22 p6)) fun t176 =>
         bindD ((ixAt p22 p6)) fun t177 =>
         ancepsref28_Compare.l28 p0 p1 p2 (Go.IntKind.wrap Go.IntKind.i64 (p3 + t171)) p4 (Go.IntKind.wrap Go.IntKind.i64 (p5 + t177)) p6 (0 : Int) p7 p8 p9 p10 p11 p12 p13 p14 p15 p16 p17 p18 p19 p20 p21 p22 p23 p24 p25 p26 p27 p28 p29 p30)
        (ancepsref28_Compare.l28 p0 p1 p2 (Go.IntKind.wrap Go.IntKind.i64 (p3 + t171)) p4 p5 p6 (0 : Int) p7 p8 p9 p10 p11 p12 p13 p14 p15 p16 p17 p18 p19 p20 p21 p22 p23 p24 p25 p26 p27 p28 p29 p30))
       (ancepsref28_Compare.l28 p0 p1 p2 (Go.IntKind.wrap Go.IntKind.i64 (p3 + t171)) p4 p5 p6 (0 : Int) p7 p8 p9 p10 p11 p12 p13 p14 p15 p16 p17 p18 p19 p20 p21 p22 p23 p24 p25 p26 p27 p28 p29 p30)))
     (ifB t169.1
       (ifB (!t167.1)
        (bindD ((ixAt p22 p6)) fun t178 =>
        bindD ((ixAt p22 p6)) fun t179 =>
        ancepsref28_Compare.l28 p0 p1 p2 (Go.IntKind.wrap Go.IntKind.i64 (p3 + t171)) p4 (Go.IntKind.wrap Go.IntKind.i64 (p5 + t179)) p6 (0 : Int) p7 p8 p9 p10 p11 p12 p13 p14 p15 p16 p17 p18 p19 p20 p21 p22 p23 p24 p25 p26 p27 p28 p29 p30)
       (ancepsref28_Compare.l28 p0 p1 p2 (Go.IntKind.wrap Go.IntKind.i64 (p3 + t171)) p4 p5 p6 (0 : Int) p7 p8 p9 p10 p11 p12 p13 p14 p15 p16 p17 p18 p19 p20 p21 p22 p23 p24 p25 p26 p27 p28 p29 p30))
      (ancepsref28_Compare.l28 p0 p1 p2 (Go.IntKind.wrap Go.IntKind.i64 (p3 + t171)) p4 p5 p6 (0 : Int) p7 p8 p9 p10 p11 p12 p13 p14 p15 p16 p17 p18 p19 p20 p21 p22 p23 p24 p25 p26 p27 p28 p29 p30)))
    (ifB t167.1
      (ifB (!t169.1)
       (bindD ((ixAt p22 p6)) fun t180 =>
       bindD ((ixAt p22 p6)) fun t181 =>
       ifB t169.1
        (ifB (!t167.1)
         (bindD ((ixAt p22 p6)) fun t182 =>
         bindD ((ixAt p22 p6)) fun t183 =>
         ancepsref28_Compare.l28 p0 p1 p2 p3 (Go.IntKind.wrap Go.IntKind.i64 (p4 + t181)) (Go.IntKind.wrap Go.IntKind.i64 (p5 + t183)) p6 (0 : Int) p7 p8 p9 p10 p11 p12 p13 p14 p15 p16 p17 p18 p19 p20 p21 p22 p23 p24 p25 p26 p27 p28 p29 p30)
        (ancepsref28_Compare.l28 p0 p1 p2 p3 (Go.IntKind.wrap Go.IntKind.i64 (p4 + t181)) p5 p6 (0 : Int) p7 p8 p9 p10 p11 p12 p13 p14 p15 p16 p17 p18 p19 p20 p21 p22 p23 p24 p25 p26 p27 p28 p29 p30))
       (ancepsref28_Compare.l28 p0 p1 p2 p3 (Go.IntKind.wrap Go.IntKind.i64 (p4 + t181)) p5 p6 (0 : Int) p7 p8 p9 p10 p11 p12 p13 p14 p15 p16 p17 p18 p19 p20 p21 p22 p23 p24 p25 p26 p27 p28 p29 p30))
      (ifB t169.1
        (ifB (!t167.1)
         (bindD ((ixAt p22 p6)) fun t184 =>
         bindD ((ixAt p22 p6)) fun t185 =>
         ancepsref28_Compare.l28 p0 p1 p2 p3 p4 (Go.IntKind.wrap Go.IntKind.i64 (p5 + t185)) p6 (0 : Int) p7 p8 p9 p10 p11 p12 p13 p14 p15 p16 p17 p18 p19 p20 p21 p22 p23 p24 p25 p26 p27 p28 p29 p30)
        (ancepsref28_Compare.l28 p0 p1 p2 p3 p4 p5 p6 (0 : Int) p7 p8 p9 p10 p11 p12 p13 p14 p15 p16 p17 p18 p19 p20 p21 p22 p23 p24 p25 p26 p27 p28 p29 p30))
       (ancepsref28_Compare.l28 p0 p1 p2 p3 p4 p5 p6 (0 : Int) p7 p8 p9 p10 p11 p12 p13 p14 p15 p16 p17 p18 p19 p20 p21 p22 p23 p24 p25 p26 p27 p28 p29 p30)))
     (ifB t169.1
       (ifB (!t167.1)
        (bindD ((ixAt p22 p6)) fun t186 =>
        bindD ((ixAt p22 p6)) fun t187 =>
        ancepsref28_Compare.l28 p0 p1 p2 p3 p4 (Go.IntKind.wrap Go.IntKind.i64 (p5 + t187)) p6 (0 : Int) p7 p8 p9 p10 p11 p12 p13 p14 p15 p16 p17 p18 p19 p20 p21 p22 p23 p24 p25 p26 p27 p28 p29 p30)
       (ancepsref28_Compare.l28 p0 p1 p2 p3 p4 p5 p6 (0 : Int) p7 p8 p9 p10 p11 p12 p13 p14 p15 p16 p17 p18 p19 p20 p21 p22 p23 p24 p25 p26 p27 p28 p29 p30))
      (ancepsref28_Compare.l28 p0 p1 p2 p3 p4 p5 p6 (0 : Int) p7 p8 p9 p10 p11 p12 p13 p14 p15 p16 p17 p18 p19 p20 p21 p22 p23 p24 p25 p26 p27 p28 p29 p30))))
   (ifB t167.1
     (ifB (!t169.1)
      (bindD ((ixAt p22 p6)) fun t188 =>
      bindD ((ixAt p22 p6)) fun t189 =>
      ifB t169.1
       (ifB (!t167.1)
        (bindD ((ixAt p22 p6)) fun t190 =>
        bindD ((ixAt p22 p6)) fun t191 =>
        ancepsref28_Compare.l28 p0 p1 p2 p3 (Go.IntKind.wrap Go.IntKind.i64 (p4 + t189)) (Go.IntKind.wrap Go.IntKind.i64 (p5 + t191)) p6 (0 : Int) p7 p8 p9 p10 p11 p12 p13 p14 p15 p16 p17 p18 p19 p20 p21 p22 p23 p24 p25 p26 p27 p28 p29 p30)
       (ancepsref28_Compare.l28 p0 p1 p2 p3 (Go.IntKind.wrap Go.IntKind.i64 (p4 + t189)) p5 p6 (0 : Int) p7 p8 p9 p10 p11 p12 p13 p14 p15 p16 p17 p18 p19 p20 p21 p22 p23 p24 p25 p26 p27 p28 p29 p30))
      (ancepsref28_Compare.l28 p0 p1 p2 p3 (Go.IntKind.wrap Go.IntKind.i64 (p4 + t189)) p5 p6 (0 : Int) p7 p8 p9 p10 p11 p12 p13 p14 p15 p16 p17 p18 p19 p20 p21 p22 p23 p24 p25 p26 p27 p28 p29 p30))
     (ifB t169.1
       (ifB (!t167.1)
        (bindD ((ixAt p22 p6)) fun t192 =>
        bindD ((ixAt p22 p6)) fun t193 =>
        ancepsref28_Compare.l28 p0 p1 p2 p3 p4 (Go.IntKind.wrap Go.IntKind.i64 (p5 + t193)) p6 (0 : Int) p7 p8 p9 p10 p11 p12 p13 p14 p15 p16 p17 p18 p19 p20 p21 p22 p23 p24 p25 p26 p27 p28 p29 p30)
       (ancepsref28_Compare.l28 p0 p1 p2 p3 p4 p5 p6 (0 : Int) p7 p8 p9 p10 p11 p12 p13 p14 p15 p16 p17 p18 p19 p20 p21 p22 p23 p24 p25 p26 p27 p28 p29 p30))
      (ancepsref28_Compare.l28 p0 p1 p2 p3 p4 p5 p6 (0 : Int) p7 p8 p9 p10 p11 p12 p13 p14 p15 p16 p17 p18 p19 p20 p21 p22 p23 p24 p25 p26 p27 p28 p29 p30)))
    (ifB t169.1
      (ifB (!t167.1)
       (bindD ((ixAt p22 p6)) fun t194 =>
       bindD ((ixAt p22 p6)) fun t195 =>
       ancepsref28_Compare.l28 p0 p1 p2 p3 p4 (Go.IntKind.wrap Go.IntKind.i64 (p5 + t195)) p6 (0 : Int) p7 p8 p9 p10 p11 p12 p13 p14 p15 p16 p17 p18 p19 p20 p21 p22 p23 p24 p25 p26 p27 p28 p29 p30)
      (ancepsref28_Compare.l28 p0 p1 p2 p3 p4 p5 p6 (0 : Int) p7 p8 p9 p10 p11 p12 p13 p14 p15 p16 p17 p18 p19 p20 p21 p22 p23 p24 p25 p26 p27 p28 p29 p30))
     (ancepsref28_Compare.l28 p0 p1 p2 p3 p4 p5 p6 (0 : Int) p7 p8 p9 p10 p11 p12 p13 p14 p15 p16 p17 p18 p19 p20 p21 p22 p23 p24 p25 p26 p27 p28 p29 p30))))
  (bindD ((Go.Proofs.R.grow ((List.length p28) + (List.length (p3 :: ([] : (List Int))))))) fun t196 =>
   bindD ((Go.Proofs.R.grow ((List.length p29) + (List.length (p4 :: ([] : (List Int))))))) fun t197 =>
   bindD ((Go.Proofs.R.grow ((List.length p30) + (List.length (p5 :: ([] : (List Int))))))) fun t198 =>
   ancepsref28_Compare.l13 p0 p1 (Go.IntKind.wrap Go.IntKind.i64 (p2 + (1 : Int))) p7 p8 p9 p10 p11 p12 p13 p14 p15 p16 p17 p18 p19 p20 p21 p23 p24 p25 p26 p27 (p28 ++ (p3 :: ([] : (List Int)))) (p29 ++ (p4 :: ([] : (List Int)))) (p30 ++ (p5 :: ([] : (List Int))))) := (loopAt_step Go.Proofs.C28.ctx 14 18 _).trans (by kernel_rfl)
theorem ancepsref06_Equal.l4_eq (p0 : (List Int)) (p1 : (List Int)) (p2 : Int) : ancepsref06_Equal.l4 p0 p1 p2 =
  ifB (decide (p2 < (((List.length p0) : Nat) : Int)))
   (bindD ((ixAt p0 p2)) fun t199 =>
   bindD ((ixAt p1 p2)) fun t200 =>
   ifB (t199 != t200)
    (some (false, ()))
   (ancepsref06_Equal.l4 p0 p1 (Go.IntKind.wrap Go.IntKind.i64 (p2 + (1 : Int)))))
  (some (true, ())) := (loopAt_step Go.Proofs.C28.ctx 51 4 _).trans (by kernel_rfl)
theorem ancepsref28_numbers.l4_eq (p0 : (List Int)) (p1 : (List Int)) (p2 : Int) : ancepsref28_numbers.l4 p0 p1 p2 =
  ifB (decide (p2 < (((List.length p0) : Nat) : Int)))
   (bindD ((ixAt p0 p2)) fun t201 =>
   bindD ((ixAt p1 p2)) fun t202 =>
   ifB (t201 != t202)
    (some (false, ()))
   (ancepsref28_numbers.l4 p0 p1 (Go.IntKind.wrap Go.IntKind.i64 (p2 + (1 : Int)))))
  (some (true, ())) := (loopAt_step Go.Proofs.C28.ctx 52 4 _).trans (by kernel_rfl)
theorem ancepsref06_Made.l8_eq (p0 : Int) (p1 : Int) (p2 : Int) (p3 : Int) (p4 : (List Int)) (p5 : Int) (p6 : Int) (p7 : Int) (p8 : Int) (p9 : Int) (p10 : (List Int)) (p11 : (List (List Int))) (p12 : (List Bool)) (p13 : (List (List Int))) (p14 : (List Bool)) : ancepsref06_Made.l8 p0 p1 p2 p3 p4 p5 p6 p7 p8 p9 p10 p11 p12 p13 p14 =
  ifB (decide (p2 < p8))
   (bindD ((ixAt p4 (Go.IntKind.wrap Go.IntKind.i64 ((Go.IntKind.wrap Go.IntKind.i64 (p1 * p8)) + p2)))) fun t203 =>
   ifB ((Go.IntKind.wrap Go.IntKind.i64 (p0 + (1 : Int))) == (0 : Int))
    (none)
   (bindD ((Go.Proofs.R.grow ((List.length p10) + (List.length ((Go.IntKind.wrap Go.IntKind.i64 ((Int.tmod (Go.IntKind.wrap Go.IntKind.i64 t203) (Go.IntKind.wrap Go.IntKind.i64 (p0 + (1 : Int)))) - (1 : Int))) :: ([] : (List Int))))))) fun t204 =>
    ancepsref06_Made.l8 p0 p1 (Go.IntKind.wrap Go.IntKind.i64 (p2 + (1 : Int))) p3 p4 p5 p6 p7 p8 p9 (p10 ++ ((Go.IntKind.wrap Go.IntKind.i64 ((Int.tmod (Go.IntKind.wrap Go.IntKind.i64 t203) (Go.IntKind.wrap Go.IntKind.i64 (p0 + (1 : Int)))) - (1 : Int))) :: ([] : (List Int)))) p11 p12 p13 p14))
  (bindD ((Go.Proofs.R.grow ((List.length p13) + (List.length (p10 :: ([] : (List (List Int)))))))) fun t205 =>
   ifB (decide (p1 < (0 : Int)))
    (none)
   (bindD ((Go.Proofs.R.grow ((List.length p14) + (List.length (((Go.Proofs.R.bitsOp Go.BinOp.and Go.IntKind.u16 (Go.Proofs.R.shrInt Go.IntKind.u16 p5 p1) (1 : Int)) == (1 : Int)) :: ([] : (List Bool))))))) fun t206 =>
    ancepsref06_Made.l4 p0 (Go.IntKind.wrap Go.IntKind.i64 (p1 + (1 : Int))) p3 p4 p5 p6 p7 p8 (0 : Int) p11 p12 (p13 ++ (p10 :: ([] : (List (List Int))))) (p14 ++ (((Go.Proofs.R.bitsOp Go.BinOp.and Go.IntKind.u16 (Go.Proofs.R.shrInt Go.IntKind.u16 p5 p1) (1 : Int)) == (1 : Int)) :: ([] : (List Bool)))))) := (loopAt_step Go.Proofs.C28.ctx 16 8 _).trans (by kernel_rfl)
theorem difference_order.f_eq (p0 : Int) (p1 : Int) (p2 : Int) (p3 : Int) : difference_order.f p0 p1 p2 p3 =
  bindD (cmp_Compare_int.f p0 p2) fun t207 =>
  bindD (cmp_Compare_int.f p1 p3) fun t208 =>
  bindD (cmp_Or_int.f (t207.1 :: (t208.1 :: ([] : (List Int))))) fun t209 =>
  some (t209.1, ()) := (Einf_call Go.Proofs.C28.ctx 62 _).trans (by kernel_rfl)
theorem difference_CheckWithin.l11_eq (p0 : (List (Int × Int))) (p1 : Int) (p2 : Int) (p3 : Int) (p4 : Int) (p5 : (List (List Int))) (p6 : (List Bool)) (p7 : Int) (p8 : Int) (p9 : (List (List Int))) (p10 : (List Bool)) (p11 : (List (Int × Int))) : difference_CheckWithin.l11 p0 p1 p2 p3 p4 p5 p6 p7 p8 p9 p10 p11 =
  ifB (decide (p2 < p1))
   (bindD ((ixAt p0 p2)) fun t210 =>
   bindD (difference_accepts.f p3 p4 p5 p6 t210.1) fun t211 =>
   ifB t211.1
    (bindD (difference_accepts.f p7 p8 p9 p10 t210.2) fun t212 =>
    ifB (!t212.1)
     (some (false, ()))
    (difference_CheckWithin.l16 p0 p1 p2 p3 (0 : Int) p3 p4 p5 p6 p7 p8 p9 p10 p11 t210.1 t210.2))
   (difference_CheckWithin.l16 p0 p1 p2 p3 (0 : Int) p3 p4 p5 p6 p7 p8 p9 p10 p11 t210.1 t210.2))
  (ifB (decide (p4 < (0 : Int)))
    (some (true, ()))
   (bindD (difference_CheckWithin_1.f p4 p8 p11) fun t213 =>
    some (t213.1, ()))) := (loopAt_step Go.Proofs.C28.ctx 27 11 _).trans (by kernel_rfl)
theorem ancepsref28_index.l2_eq (p0 : (List (Int × Int))) (p1 : Int) (p2 : Int) (p3 : Int) : ancepsref28_index.l2 p0 p1 p2 p3 =
  ifB (decide (p1 < (((List.length p0) : Nat) : Int)))
   (bindD ((ixAt p0 p1)) fun t214 =>
   ifB ((t214.1 == p2) && (t214.2 == p3))
    (some (p1, ()))
   (ancepsref28_index.l2 p0 (Go.IntKind.wrap Go.IntKind.i64 (p1 + (1 : Int))) p2 p3))
  (some ((-(1 : Int)), ())) := (loopAt_step Go.Proofs.C28.ctx 49 2 _).trans (by kernel_rfl)
theorem ancepsref28_less.f_eq (p0 : Int) (p1 : Int) (p2 : Int) (p3 : Int) : ancepsref28_less.f p0 p1 p2 p3 =
  ifB (decide (p0 < p2))
   (some (true, ()))
  (ifB (p0 == p2)
    (some ((decide (p1 < p3)), ()))
   (some (false, ()))) := (Einf_call Go.Proofs.C28.ctx 63 _).trans (by kernel_rfl)
theorem ancepsref28_CheckWithin.l10_eq (p0 : (List (Int × Int))) (p1 : Int) (p2 : Int) (p3 : Int) (p4 : Int) (p5 : (List (List Int))) (p6 : (List Bool)) (p7 : Int) (p8 : Int) (p9 : (List (List Int))) (p10 : (List Bool)) (p11 : Int) (p12 : Int) : ancepsref28_CheckWithin.l10 p0 p1 p2 p3 p4 p5 p6 p7 p8 p9 p10 p11 p12 =
  ifB (decide (p2 < p3))
   (bindD (ancepsref28_next.f p3 p4 p5 p6 p11 p2) fun t215 =>
   bindD (ancepsref28_next.f p7 p8 p9 p10 p12 p2) fun t216 =>
   ifB (decide (t215.1 ≥ (0 : Int)))
    (bindD (ancepsref28_index.f p0 t215.1 t216.1) fun t217 =>
    ifB (decide (t217.1 < (0 : Int)))
     (some (false, ()))
    (ancepsref28_CheckWithin.l10 p0 p1 (Go.IntKind.wrap Go.IntKind.i64 (p2 + (1 : Int))) p3 p4 p5 p6 p7 p8 p9 p10 p11 p12))
   (ancepsref28_CheckWithin.l10 p0 p1 (Go.IntKind.wrap Go.IntKind.i64 (p2 + (1 : Int))) p3 p4 p5 p6 p7 p8 p9 p10 p11 p12))
  (ancepsref28_CheckWithin.l4 p0 (Go.IntKind.wrap Go.IntKind.i64 (p1 + (1 : Int))) p3 p4 p5 p6 p7 p8 p9 p10) := (loopAt_step Go.Proofs.C28.ctx 29 10 _).trans (by kernel_rfl)
theorem difference_side.l7_1_eq (p0 : Int) (p1 : Int) (p2 : Int) (p3 : (List (List Int))) (p4 : (List Bool)) (p5 : Int) (p6 : Int) (p7 : (List (List Int))) (p8 : (List Bool)) (p9 : (List ((Int × Int) × (Int × Int)))) (p10 : (List ((Int × Int) × Bool))) : difference_side.l7_1 p0 p1 p2 p3 p4 p5 p6 p7 p8 p9 p10 =
  ifB (decide (p0 < (((List.length p9) : Nat) : Int)))
   (difference_side.l10_1 p0 p1 (0 : Int) p1 p2 p3 p4 p5 p6 p7 p8 p9 p10)
  (some (p9, ())) := (loopAt_step Go.Proofs.C28.ctx 54 7 _).trans (by kernel_rfl)
theorem difference_accepts.f_eq (p0 : Int) (p1 : Int) (p2 : (List (List Int))) (p3 : (List Bool)) (p4 : Int) : difference_accepts.f p0 p1 p2 p3 p4 =
  ifB (decide (p4 ≥ (0 : Int)))
   (bindD ((ixAt p3 p4)) fun t218 =>
   some (t218, ()))
  (some (false, ())) := (Einf_call Go.Proofs.C28.ctx 42 _).trans (by kernel_rfl)
theorem difference_apart.l9_eq (p0 : Bool) (p1 : Int) (p2 : (List ((Int × Int) × (Int × Int)))) (p3 : (List Int)) : difference_apart.l9 p0 p1 p2 p3 =
  ifB (decide (p1 > (0 : Int)))
   (bindD ((ixAt p2 p1)) fun t219 =>
   bindD ((ixAt p2 p1)) fun t220 =>
   bindD ((Go.Proofs.R.grow ((List.length p3) + (List.length (t220.2.2 :: ([] : (List Int))))))) fun t221 =>
   bindD ((ixAt p2 p1)) fun t222 =>
   bindD ((ixAt p2 p1)) fun t223 =>
   difference_apart.l9 p0 t223.2.1 p2 (p3 ++ (t220.2.2 :: ([] : (List Int)))))
  (bindD ((Go.Proofs.R.grow (List.length p3))) fun t224 =>
   ifB p0
    (some ((Go.Proofs.R.revL p3), ((1 : Int), ())))
   (some ((Go.Proofs.R.revL p3), ((2 : Int), ())))) := (loopAt_step Go.Proofs.C28.ctx 39 9 _).trans (by kernel_rfl)
theorem ancepsref06_Valid.l7_eq (p0 : Int) (p1 : Int) (p2 : Int) (p3 : Int) (p4 : (List (List Int))) (p5 : (List Bool)) : ancepsref06_Valid.l7 p0 p1 p2 p3 p4 p5 =
  ifB (decide (p1 < p0))
   (bindD ((ixAt p4 p1)) fun t225 =>
   ifB ((((List.length t225) : Nat) : Int) != p2)
    (some ((1 : Int), ()))
   (ancepsref06_Valid.l12 p0 p1 (0 : Int) p2 p3 p4 p5))
  (some ((0 : Int), ())) := (loopAt_step Go.Proofs.C28.ctx 69 7 _).trans (by kernel_rfl)
theorem difference_visit_70.f1_eq (p0 : (List ((Int × Int) × (Int × Int)))) (p1 : Int) (p2 : Int) (p3 : (List (List Int))) (p4 : (List Bool)) (p5 : Int) (p6 : Int) (p7 : (List (List Int))) (p8 : (List Bool)) : difference_visit_70.f1 p0 p1 p2 p3 p4 p5 p6 p7 p8 =
  difference_visit_70.l2_1 p0 p1 p2 p3 p4 p5 p6 p7 p8 (((List.length p0) : Nat) : Int) (0 : Int) := (Einf_call Go.Proofs.C28.ctx 70 _).trans (by kernel_rfl)
theorem difference_side.l10_eq (p0 : Int) (p1 : Int) (p2 : Int) (p3 : Int) (p4 : Int) (p5 : (List (List Int))) (p6 : (List Bool)) (p7 : Int) (p8 : Int) (p9 : (List (List Int))) (p10 : (List Bool)) (p11 : (List ((Int × Int) × (Int × Int)))) (p12 : (List ((Int × Int) × Bool))) : difference_side.l10 p0 p1 p2 p3 p4 p5 p6 p7 p8 p9 p10 p11 p12 =
  ifB (decide (p2 < p1))
   (bindD ((ixAt p11 p0)) fun t226 =>
   bindD ((ixAt p11 p0)) fun t227 =>
   bindD (difference_step.f p3 p4 p5 p6 t227.1.1 p2) fun t228 =>
   bindD ((ixAt p11 p0)) fun t229 =>
   bindD ((ixAt p11 p0)) fun t230 =>
   bindD (difference_step.f p7 p8 p9 p10 t230.1.2 p2) fun t231 =>
   bindD (difference_left.f t228.1 t231.1) fun t232 =>
   ifB t232.1
    (ifB (!(Go.Proofs.R.mget (Go.Proofs.R.Ty.pair (Go.Proofs.R.Ty.int Go.IntKind.i64) (Go.Proofs.R.Ty.int Go.IntKind.i64)) false (t228.1, t231.1) p12).1)
     (bindD ((Go.Proofs.R.grow ((List.length p11) + (List.length (((t228.1, t231.1), (p0, p2)) :: ([] : (List ((Int × Int) × (Int × Int))))))))) fun t233 =>
     difference_side.l10 p0 p1 (Go.IntKind.wrap Go.IntKind.i64 (p2 + (1 : Int))) p3 p4 p5 p6 p7 p8 p9 p10 (p11 ++ (((t228.1, t231.1), (p0, p2)) :: ([] : (List ((Int × Int) × (Int × Int)))))) (Go.Proofs.R.mput (Go.Proofs.R.Ty.pair (Go.Proofs.R.Ty.int Go.IntKind.i64) (Go.Proofs.R.Ty.int Go.IntKind.i64)) (t228.1, t231.1) true p12))
    (difference_side.l10 p0 p1 (Go.IntKind.wrap Go.IntKind.i64 (p2 + (1 : Int))) p3 p4 p5 p6 p7 p8 p9 p10 p11 p12))
   (difference_side.l10 p0 p1 (Go.IntKind.wrap Go.IntKind.i64 (p2 + (1 : Int))) p3 p4 p5 p6 p7 p8 p9 p10 p11 p12))
  (difference_side.l7 (Go.IntKind.wrap Go.IntKind.i64 (p0 + (1 : Int))) p3 p4 p5 p6 p7 p8 p9 p10 p11 p12) := (loopAt_step Go.Proofs.C28.ctx 54 10 _).trans (by kernel_rfl)
theorem difference_visit_70.l2_eq (p0 : (List ((Int × Int) × (Int × Int)))) (p1 : Int) (p2 : Int) (p3 : (List (List Int))) (p4 : (List Bool)) (p5 : Int) (p6 : Int) (p7 : (List (List Int))) (p8 : (List Bool)) (p9 : Int) (p10 : Int) : difference_visit_70.l2 p0 p1 p2 p3 p4 p5 p6 p7 p8 p9 p10 =
  ifB (decide (p10 < p9))
   (bindD ((ixAt p0 p10)) fun t234 =>
   bindD (difference_Disjoint_1.f t234.1.1 t234.1.2 t234.2.1 t234.2.2 p1 p2 p3 p4 p5 p6 p7 p8) fun t235 =>
   ifB t235.1
    (some (p10, ()))
   (difference_visit_70.l2 p0 p1 p2 p3 p4 p5 p6 p7 p8 p9 (Go.IntKind.wrap Go.IntKind.i64 (p10 + (1 : Int)))))
  (some ((-(1 : Int)), ())) := (loopAt_step Go.Proofs.C28.ctx 70 2 _).trans (by kernel_rfl)
theorem ancepsref28_reach.l9_eq (p0 : Int) (p1 : Int) (p2 : Int) (p3 : Int) (p4 : (List (List Int))) (p5 : (List Bool)) (p6 : Int) (p7 : Int) (p8 : (List (List Int))) (p9 : (List Bool)) (p10 : (List (Int × Int))) (p11 : (List (List Int))) (p12 : (List (Int × Int))) (p13 : (List (List Int))) : ancepsref28_reach.l9 p0 p1 p2 p3 p4 p5 p6 p7 p8 p9 p10 p11 p12 p13 =
  ifB (decide (p1 < p2))
   (bindD ((ixAt p12 p0)) fun t236 =>
   bindD ((ixAt p12 p0)) fun t237 =>
   bindD (ancepsref28_next.f p2 p3 p4 p5 t237.1 p1) fun t238 =>
   bindD ((ixAt p12 p0)) fun t239 =>
   bindD ((ixAt p12 p0)) fun t240 =>
   bindD (ancepsref28_next.f p6 p7 p8 p9 t240.2 p1) fun t241 =>
   ifB (decide (t238.1 < (0 : Int)))
    (ifB (decide (t241.1 < (0 : Int)))
     (ancepsref28_reach.l9 p0 (Go.IntKind.wrap Go.IntKind.i64 (p1 + (1 : Int))) p2 p3 p4 p5 p6 p7 p8 p9 p10 p11 p12 p13)
    (bindD (ancepsref28_index.f p12 t238.1 t241.1) fun t242 =>
     ifB (decide (t242.1 ≥ (0 : Int)))
      (ancepsref28_reach.l9 p0 (Go.IntKind.wrap Go.IntKind.i64 (p1 + (1 : Int))) p2 p3 p4 p5 p6 p7 p8 p9 p10 p11 p12 p13)
     (bindD ((Go.Proofs.R.grow ((List.length p12) + (List.length ((t238.1, t241.1) :: ([] : (List (Int × Int)))))))) fun t243 =>
      bindD ((ixAt p13 p0)) fun t244 =>
      bindD ((ixAt p13 p0)) fun t245 =>
      bindD ((Go.Proofs.R.grow ((List.length ([] : (List Int))) + (List.length t245)))) fun t246 =>
      bindD ((Go.Proofs.R.grow ((List.length (([] : (List Int)) ++ t245)) + (List.length (p1 :: ([] : (List Int))))))) fun t247 =>
      bindD ((Go.Proofs.R.grow ((List.length p13) + (List.length (((([] : (List Int)) ++ t245) ++ (p1 :: ([] : (List Int)))) :: ([] : (List (List Int)))))))) fun t248 =>
      ancepsref28_reach.l9 p0 (Go.IntKind.wrap Go.IntKind.i64 (p1 + (1 : Int))) p2 p3 p4 p5 p6 p7 p8 p9 p10 p11 (p12 ++ ((t238.1, t241.1) :: ([] : (List (Int × Int))))) (p13 ++ (((([] : (List Int)) ++ t245) ++ (p1 :: ([] : (List Int)))) :: ([] : (List (List Int))))))))
   (bindD (ancepsref28_index.f p12 t238.1 t241.1) fun t249 =>
    ifB (decide (t249.1 ≥ (0 : Int)))
     (ancepsref28_reach.l9 p0 (Go.IntKind.wrap Go.IntKind.i64 (p1 + (1 : Int))) p2 p3 p4 p5 p6 p7 p8 p9 p10 p11 p12 p13)
    (bindD ((Go.Proofs.R.grow ((List.length p12) + (List.length ((t238.1, t241.1) :: ([] : (List (Int × Int)))))))) fun t250 =>
     bindD ((ixAt p13 p0)) fun t251 =>
     bindD ((ixAt p13 p0)) fun t252 =>
     bindD ((Go.Proofs.R.grow ((List.length ([] : (List Int))) + (List.length t252)))) fun t253 =>
     bindD ((Go.Proofs.R.grow ((List.length (([] : (List Int)) ++ t252)) + (List.length (p1 :: ([] : (List Int))))))) fun t254 =>
     bindD ((Go.Proofs.R.grow ((List.length p13) + (List.length (((([] : (List Int)) ++ t252) ++ (p1 :: ([] : (List Int)))) :: ([] : (List (List Int)))))))) fun t255 =>
     ancepsref28_reach.l9 p0 (Go.IntKind.wrap Go.IntKind.i64 (p1 + (1 : Int))) p2 p3 p4 p5 p6 p7 p8 p9 p10 p11 (p12 ++ ((t238.1, t241.1) :: ([] : (List (Int × Int))))) (p13 ++ (((([] : (List Int)) ++ t252) ++ (p1 :: ([] : (List Int)))) :: ([] : (List (List Int))))))))
  (ancepsref28_reach.l6 (Go.IntKind.wrap Go.IntKind.i64 (p0 + (1 : Int))) p2 p3 p4 p5 p6 p7 p8 p9 p10 p11 p12 p13) := (loopAt_step Go.Proofs.C28.ctx 47 9 _).trans (by kernel_rfl)
theorem slices_ContainsFunc_int_int.f_eq (p0 : (List Int)) (p1 : Int) : slices_ContainsFunc_int_int.f p0 p1 =
  bindD (slices_IndexFunc_int_int.f p0 p1) fun t256 =>
  some ((decide (t256.1 ≥ (0 : Int))), ()) := (Einf_call Go.Proofs.C28.ctx 71 _).trans (by kernel_rfl)
theorem automaton_next.f_eq (p0 : Int) (p1 : Int) (p2 : (List (List Int))) (p3 : (List Bool)) (p4 : Int) (p5 : Int) : automaton_next.f p0 p1 p2 p3 p4 p5 =
  ifB (decide (p4 < (0 : Int)))
   (some ((-(1 : Int)), ()))
  (ifB (decide (p5 < (0 : Int)))
    (some ((-(1 : Int)), ()))
   (ifB (decide (p5 ≥ p0))
     (some ((-(1 : Int)), ()))
    (bindD ((ixAt p2 p4)) fun t257 =>
     bindD ((ixAt t257 p5)) fun t258 =>
     some (t258, ())))) := (Einf_call Go.Proofs.C28.ctx 73 _).trans (by kernel_rfl)
theorem difference_Compare.l27_eq (p0 : Int) (p1 : Int) (p2 : Int) (p3 : Int) (p4 : Int) (p5 : Int) (p6 : Int) (p7 : Int) (p8 : Int) (p9 : Int) (p10 : (List (List Int))) (p11 : (List Bool)) (p12 : Int) (p13 : Int) (p14 : (List (List Int))) (p15 : (List Bool)) (p16 : Bool) (p17 : Bool) (p18 : Bool) (p19 : Bool) (p20 : Bool) (p21 : Bool) (p22 : (List ((Int × Int) × Int))) (p23 : Int) (p24 : Int) (p25 : Nat) (p26 : (List Nat)) (p27 : (List Int)) (p28 : (List Int)) (p29 : (List Int)) (p30 : (List Int)) (p31 : (List Int)) (p32 : (List Int)) (p33 : (List Int)) (p34 : (List Int)) (p35 : (List ((Int × Int) × Int))) : difference_Compare.l27 p0 p1 p2 p3 p4 p5 p6 p7 p8 p9 p10 p11 p12 p13 p14 p15 p16 p17 p18 p19 p20 p21 p22 p23 p24 p25 p26 p27 p28 p29 p30 p31 p32 p33 p34 p35 =
  ifB (decide (p7 < p6))
   (bindD (difference_step.f p8 p9 p10 p11 p23 p7) fun t259 =>
   bindD (difference_step.f p12 p13 p14 p15 p24 p7) fun t260 =>
   bindD (difference_either.f t259.1 t260.1) fun t261 =>
   ifB t261.1
    (bindD ((Go.Proofs.R.mstore (Go.Proofs.R.mput (Go.Proofs.R.Ty.pair (Go.Proofs.R.Ty.int Go.IntKind.i64) (Go.Proofs.R.Ty.int Go.IntKind.i64)) (t259.1, t260.1) (Go.Proofs.R.mget (Go.Proofs.R.Ty.pair (Go.Proofs.R.Ty.int Go.IntKind.i64) (Go.Proofs.R.Ty.int Go.IntKind.i64)) (0 : Int) (t259.1, t260.1) p22).1 p22) (((Go.Proofs.R.mfind (Go.Proofs.R.Ty.pair (Go.Proofs.R.Ty.int Go.IntKind.i64) (Go.Proofs.R.Ty.int Go.IntKind.i64)) (t259.1, t260.1) p22) : Nat) : Int) (Go.IntKind.wrap Go.IntKind.i64 ((Go.Proofs.R.mget (Go.Proofs.R.Ty.pair (Go.Proofs.R.Ty.int Go.IntKind.i64) (Go.Proofs.R.Ty.int Go.IntKind.i64)) (0 : Int) (t259.1, t260.1) p22).1 + p3)))) fun t262 =>
    difference_Compare.l27 p0 p1 p2 p3 p4 p5 p6 (Go.IntKind.wrap Go.IntKind.i64 (p7 + (1 : Int))) p8 p9 p10 p11 p12 p13 p14 p15 p16 p17 p18 p19 p20 p21 t262 p23 p24 p25 p26 p27 p28 p29 p30 p31 p32 p33 p34 p35)
   (difference_Compare.l27 p0 p1 p2 p3 p4 p5 p6 (Go.IntKind.wrap Go.IntKind.i64 (p7 + (1 : Int))) p8 p9 p10 p11 p12 p13 p14 p15 p16 p17 p18 p19 p20 p21 p22 p23 p24 p25 p26 p27 p28 p29 p30 p31 p32 p33 p34 p35))
  (difference_Compare.l17 p0 p1 p2 p4 p5 p8 p9 p10 p11 p12 p13 p14 p15 p16 p17 p18 p19 p20 p21 p22 p25 p26 p27 p28 p29 p30 p31 p32 p33 p34 p35) := (loopAt_step Go.Proofs.C28.ctx 13 27 _).trans (by kernel_rfl)
theorem ancepsref28_Compare.l28_eq (p0 : Int) (p1 : (List (Int × Int))) (p2 : Int) (p3 : Int) (p4 : Int) (p5 : Int) (p6 : Int) (p7 : Int) (p8 : Int) (p9 : Int) (p10 : (List (List Int))) (p11 : (List Bool)) (p12 : Int) (p13 : Int) (p14 : (List (List Int))) (p15 : (List Bool)) (p16 : Bool) (p17 : Bool) (p18 : Bool) (p19 : Bool) (p20 : Bool) (p21 : Bool) (p22 : (List Int)) (p23 : (List Int)) (p24 : (List Int)) (p25 : (List Int)) (p26 : (List Int)) (p27 : (List Int)) (p28 : (List Int)) (p29 : (List Int)) (p30 : (List Int)) (p31 : (List Int)) : ancepsref28_Compare.l28 p0 p1 p2 p3 p4 p5 p6 p7 p8 p9 p10 p11 p12 p13 p14 p15 p16 p17 p18 p19 p20 p21 p22 p23 p24 p25 p26 p27 p28 p29 p30 p31 =
  ifB (decide (p7 < p8))
   (bindD ((ixAt p23 p6)) fun t263 =>
   bindD ((ixAt p23 p6)) fun t264 =>
   ifB (decide (t264 > (0 : Int)))
    (bindD ((ixAt p1 p6)) fun t265 =>
    bindD (ancepsref28_next.f p8 p9 p10 p11 t265.1 p7) fun t266 =>
    bindD ((ixAt p1 p6)) fun t267 =>
    bindD (ancepsref28_next.f p12 p13 p14 p15 t267.2 p7) fun t268 =>
    bindD (ancepsref28_index.f p1 t266.1 t268.1) fun t269 =>
    ifB (decide (t269.1 ≥ (0 : Int)))
     (bindD ((ixAt p24 t269.1)) fun t270 =>
     bindD ((ixAt p24 t269.1)) fun t271 =>
     bindD ((ixAt p23 p6)) fun t272 =>
     bindD ((ixAt p23 p6)) fun t273 =>
     bindD ((ixAt p24 t269.1)) fun t274 =>
     bindD ((ixAt p24 t269.1)) fun t275 =>
     ancepsref28_Compare.l28 p0 p1 p2 p3 p4 p5 p6 (Go.IntKind.wrap Go.IntKind.i64 (p7 + (1 : Int))) p8 p9 p10 p11 p12 p13 p14 p15 p16 p17 p18 p19 p20 p21 p22 p23 (setRow p24 t269.1 (Go.IntKind.wrap Go.IntKind.i64 (t271 + t273))) p25 p26 p27 p28 p29 p30 p31)
    (ancepsref28_Compare.l28 p0 p1 p2 p3 p4 p5 p6 (Go.IntKind.wrap Go.IntKind.i64 (p7 + (1 : Int))) p8 p9 p10 p11 p12 p13 p14 p15 p16 p17 p18 p19 p20 p21 p22 p23 p24 p25 p26 p27 p28 p29 p30 p31))
   (ancepsref28_Compare.l18 p0 p1 p2 p3 p4 p5 (Go.IntKind.wrap Go.IntKind.i64 (p6 + (1 : Int))) p8 p9 p10 p11 p12 p13 p14 p15 p16 p17 p18 p19 p20 p21 p22 p23 p24 p25 p26 p27 p28 p29 p30 p31))
  (ancepsref28_Compare.l18 p0 p1 p2 p3 p4 p5 (Go.IntKind.wrap Go.IntKind.i64 (p6 + (1 : Int))) p8 p9 p10 p11 p12 p13 p14 p15 p16 p17 p18 p19 p20 p21 p22 p23 p24 p25 p26 p27 p28 p29 p30 p31) := (loopAt_step Go.Proofs.C28.ctx 14 28 _).trans (by kernel_rfl)
theorem cmp_Compare_int.f_eq (p0 : Int) (p1 : Int) : cmp_Compare_int.f p0 p1 =
  bindD (cmp_isNaN_int.f p0) fun t276 =>
  bindD (cmp_isNaN_int.f p1) fun t277 =>
  ifB t276.1
   (ifB t277.1
    (some ((0 : Int), ()))
   (some ((-(1 : Int)), ())))
  (ifB t277.1
    (some ((1 : Int), ()))
   (ifB (decide (p0 < p1))
     (some ((-(1 : Int)), ()))
    (ifB (decide (p0 > p1))
      (some ((1 : Int), ()))
     (some ((0 : Int), ()))))) := (Einf_call Go.Proofs.C28.ctx 75 _).trans (by kernel_rfl)
theorem cmp_Or_int.f_eq (p0 : (List Int)) : cmp_Or_int.f p0 =
  cmp_Or_int.l3 (0 : Int) p0 (((List.length p0) : Nat) : Int) (0 : Int) := (Einf_call Go.Proofs.C28.ctx 74 _).trans (by kernel_rfl)
theorem difference_CheckWithin.l16_eq (p0 : (List (Int × Int))) (p1 : Int) (p2 : Int) (p3 : Int) (p4 : Int) (p5 : Int) (p6 : Int) (p7 : (List (List Int))) (p8 : (List Bool)) (p9 : Int) (p10 : Int) (p11 : (List (List Int))) (p12 : (List Bool)) (p13 : (List (Int × Int))) (p14 : Int) (p15 : Int) : difference_CheckWithin.l16 p0 p1 p2 p3 p4 p5 p6 p7 p8 p9 p10 p11 p12 p13 p14 p15 =
  ifB (decide (p4 < p3))
   (bindD (difference_step.f p5 p6 p7 p8 p14 p4) fun t278 =>
   bindD (difference_step.f p9 p10 p11 p12 p15 p4) fun t279 =>
   ifB (decide (t278.1 ≥ (0 : Int)))
    (bindD (difference_CheckWithin_1.f t278.1 t279.1 p13) fun t280 =>
    ifB (!t280.1)
     (some (false, ()))
    (difference_CheckWithin.l16 p0 p1 p2 p3 (Go.IntKind.wrap Go.IntKind.i64 (p4 + (1 : Int))) p5 p6 p7 p8 p9 p10 p11 p12 p13 p14 p15))
   (difference_CheckWithin.l16 p0 p1 p2 p3 (Go.IntKind.wrap Go.IntKind.i64 (p4 + (1 : Int))) p5 p6 p7 p8 p9 p10 p11 p12 p13 p14 p15))
  (difference_CheckWithin.l11 p0 p1 (Go.IntKind.wrap Go.IntKind.i64 (p2 + (1 : Int))) p5 p6 p7 p8 p9 p10 p11 p12 p13) := (loopAt_step Go.Proofs.C28.ctx 27 16 _).trans (by kernel_rfl)
theorem difference_CheckWithin_1.f_eq (p0 : Int) (p1 : Int) (p2 : (List (Int × Int))) : difference_CheckWithin_1.f p0 p1 p2 =
  bindD (api_Pair_61.f p2 p0 p1) fun t281 =>
  some (t281.2.1, ()) := (Einf_call Go.Proofs.C28.ctx 60 _).trans (by kernel_rfl)
theorem ancepsref28_next.f_eq (p0 : Int) (p1 : Int) (p2 : (List (List Int))) (p3 : (List Bool)) (p4 : Int) (p5 : Int) : ancepsref28_next.f p0 p1 p2 p3 p4 p5 =
  ifB (decide (p4 < (0 : Int)))
   (some ((-(1 : Int)), ()))
  (bindD ((ixAt p2 p4)) fun t282 =>
   bindD ((ixAt t282 p5)) fun t283 =>
   some (t283, ())) := (Einf_call Go.Proofs.C28.ctx 50 _).trans (by kernel_rfl)
theorem difference_side.l10_1_eq (p0 : Int) (p1 : Int) (p2 : Int) (p3 : Int) (p4 : Int) (p5 : (List (List Int))) (p6 : (List Bool)) (p7 : Int) (p8 : Int) (p9 : (List (List Int))) (p10 : (List Bool)) (p11 : (List ((Int × Int) × (Int × Int)))) (p12 : (List ((Int × Int) × Bool))) : difference_side.l10_1 p0 p1 p2 p3 p4 p5 p6 p7 p8 p9 p10 p11 p12 =
  ifB (decide (p2 < p1))
   (bindD ((ixAt p11 p0)) fun t284 =>
   bindD ((ixAt p11 p0)) fun t285 =>
   bindD (difference_step.f p3 p4 p5 p6 t285.1.1 p2) fun t286 =>
   bindD ((ixAt p11 p0)) fun t287 =>
   bindD ((ixAt p11 p0)) fun t288 =>
   bindD (difference_step.f p7 p8 p9 p10 t288.1.2 p2) fun t289 =>
   bindD (difference_either.f t286.1 t289.1) fun t290 =>
   ifB t290.1
    (ifB (!(Go.Proofs.R.mget (Go.Proofs.R.Ty.pair (Go.Proofs.R.Ty.int Go.IntKind.i64) (Go.Proofs.R.Ty.int Go.IntKind.i64)) false (t286.1, t289.1) p12).1)
     (bindD ((Go.Proofs.R.grow ((List.length p11) + (List.length (((t286.1, t289.1), (p0, p2)) :: ([] : (List ((Int × Int) × (Int × Int))))))))) fun t291 =>
     difference_side.l10_1 p0 p1 (Go.IntKind.wrap Go.IntKind.i64 (p2 + (1 : Int))) p3 p4 p5 p6 p7 p8 p9 p10 (p11 ++ (((t286.1, t289.1), (p0, p2)) :: ([] : (List ((Int × Int) × (Int × Int)))))) (Go.Proofs.R.mput (Go.Proofs.R.Ty.pair (Go.Proofs.R.Ty.int Go.IntKind.i64) (Go.Proofs.R.Ty.int Go.IntKind.i64)) (t286.1, t289.1) true p12))
    (difference_side.l10_1 p0 p1 (Go.IntKind.wrap Go.IntKind.i64 (p2 + (1 : Int))) p3 p4 p5 p6 p7 p8 p9 p10 p11 p12))
   (difference_side.l10_1 p0 p1 (Go.IntKind.wrap Go.IntKind.i64 (p2 + (1 : Int))) p3 p4 p5 p6 p7 p8 p9 p10 p11 p12))
  (difference_side.l7_1 (Go.IntKind.wrap Go.IntKind.i64 (p0 + (1 : Int))) p3 p4 p5 p6 p7 p8 p9 p10 p11 p12) := (loopAt_step Go.Proofs.C28.ctx 54 10 _).trans (by kernel_rfl)
theorem ancepsref06_Valid.l12_eq (p0 : Int) (p1 : Int) (p2 : Int) (p3 : Int) (p4 : Int) (p5 : (List (List Int))) (p6 : (List Bool)) : ancepsref06_Valid.l12 p0 p1 p2 p3 p4 p5 p6 =
  ifB (decide (p2 < p3))
   (bindD ((ixAt p5 p1)) fun t292 =>
   bindD ((ixAt t292 p2)) fun t293 =>
   ifB (decide (t293 < (-(1 : Int))))
    (some ((1 : Int), ()))
   (bindD ((ixAt p5 p1)) fun t294 =>
    bindD ((ixAt t294 p2)) fun t295 =>
    ifB (decide (t295 ≥ p0))
     (some ((1 : Int), ()))
    (ancepsref06_Valid.l12 p0 p1 (Go.IntKind.wrap Go.IntKind.i64 (p2 + (1 : Int))) p3 p4 p5 p6)))
  (ancepsref06_Valid.l7 p0 (Go.IntKind.wrap Go.IntKind.i64 (p1 + (1 : Int))) p3 p4 p5 p6) := (loopAt_step Go.Proofs.C28.ctx 69 12 _).trans (by kernel_rfl)
theorem difference_visit_70.l2_1_eq (p0 : (List ((Int × Int) × (Int × Int)))) (p1 : Int) (p2 : Int) (p3 : (List (List Int))) (p4 : (List Bool)) (p5 : Int) (p6 : Int) (p7 : (List (List Int))) (p8 : (List Bool)) (p9 : Int) (p10 : Int) : difference_visit_70.l2_1 p0 p1 p2 p3 p4 p5 p6 p7 p8 p9 p10 =
  ifB (decide (p10 < p9))
   (bindD ((ixAt p0 p10)) fun t296 =>
   bindD (difference_within_1.f t296.1.1 t296.1.2 t296.2.1 t296.2.2 p1 p2 p3 p4 p5 p6 p7 p8) fun t297 =>
   ifB t297.1
    (some (p10, ()))
   (difference_visit_70.l2_1 p0 p1 p2 p3 p4 p5 p6 p7 p8 p9 (Go.IntKind.wrap Go.IntKind.i64 (p10 + (1 : Int)))))
  (some ((-(1 : Int)), ())) := (loopAt_step Go.Proofs.C28.ctx 70 2 _).trans (by kernel_rfl)
theorem difference_step.f_eq (p0 : Int) (p1 : Int) (p2 : (List (List Int))) (p3 : (List Bool)) (p4 : Int) (p5 : Int) : difference_step.f p0 p1 p2 p3 p4 p5 =
  ifB (decide (p4 < (0 : Int)))
   (some ((-(1 : Int)), ()))
  (bindD ((ixAt p2 p4)) fun t298 =>
   bindD ((ixAt t298 p5)) fun t299 =>
   some (t299, ())) := (Einf_call Go.Proofs.C28.ctx 43 _).trans (by kernel_rfl)
theorem difference_Disjoint_1.f_eq (p0 : Int) (p1 : Int) (p2 : Int) (p3 : Int) (p4 : Int) (p5 : Int) (p6 : (List (List Int))) (p7 : (List Bool)) (p8 : Int) (p9 : Int) (p10 : (List (List Int))) (p11 : (List Bool)) : difference_Disjoint_1.f p0 p1 p2 p3 p4 p5 p6 p7 p8 p9 p10 p11 =
  bindD (difference_accepts.f p4 p5 p6 p7 p0) fun t300 =>
  ifB t300.1
   (bindD (difference_accepts.f p8 p9 p10 p11 p1) fun t301 =>
   some (t301.1, ()))
  (some (false, ())) := (Einf_call Go.Proofs.C28.ctx 56 _).trans (by kernel_rfl)
theorem slices_IndexFunc_int_int.f_eq (p0 : (List Int)) (p1 : Int) : slices_IndexFunc_int_int.f p0 p1 =
  slices_IndexFunc_int_int.l2 p0 p1 (((List.length p0) : Nat) : Int) (0 : Int) := (Einf_call Go.Proofs.C28.ctx 82 _).trans (by kernel_rfl)
theorem cmp_isNaN_int.f_eq (p0 : Int) : cmp_isNaN_int.f p0 =
  some ((p0 != p0), ()) := (Einf_call Go.Proofs.C28.ctx 83 _).trans (by kernel_rfl)
theorem cmp_Or_int.l3_eq (p0 : Int) (p1 : (List Int)) (p2 : Int) (p3 : Int) : cmp_Or_int.l3 p0 p1 p2 p3 =
  ifB (decide (p3 < p2))
   (bindD ((ixAt p1 p3)) fun t302 =>
   ifB (t302 != p0)
    (some (t302, ()))
   (cmp_Or_int.l3 p0 p1 p2 (Go.IntKind.wrap Go.IntKind.i64 (p3 + (1 : Int)))))
  (some (p0, ())) := (loopAt_step Go.Proofs.C28.ctx 74 3 _).trans (by kernel_rfl)
theorem api_Pair_61.f_eq (p0 : (List (Int × Int))) (p1 : Int) (p2 : Int) : api_Pair_61.f p0 p1 p2 =
  api_Pair_61.l3 p0 (((List.length p0) : Nat) : Int) (0 : Int) (((List.length p0) : Nat) : Int) p1 p2 := (Einf_call Go.Proofs.C28.ctx 61 _).trans (by kernel_rfl)
theorem difference_within_1.f_eq (p0 : Int) (p1 : Int) (p2 : Int) (p3 : Int) (p4 : Int) (p5 : Int) (p6 : (List (List Int))) (p7 : (List Bool)) (p8 : Int) (p9 : Int) (p10 : (List (List Int))) (p11 : (List Bool)) : difference_within_1.f p0 p1 p2 p3 p4 p5 p6 p7 p8 p9 p10 p11 =
  bindD (difference_accepts.f p4 p5 p6 p7 p0) fun t303 =>
  ifB t303.1
   (bindD (difference_accepts.f p8 p9 p10 p11 p1) fun t304 =>
   some ((!t304.1), ()))
  (some (false, ())) := (Einf_call Go.Proofs.C28.ctx 68 _).trans (by kernel_rfl)
theorem slices_IndexFunc_int_int.l2_eq (p0 : (List Int)) (p1 : Int) (p2 : Int) (p3 : Int) : slices_IndexFunc_int_int.l2 p0 p1 p2 p3 =
  ifB (decide (p3 < p2))
   (bindD ((ixAt p0 p3)) fun t305 =>
   bindD (automaton_Valid_1.f t305 p1) fun t306 =>
   ifB t306.1
    (some (p3, ()))
   (slices_IndexFunc_int_int.l2 p0 p1 p2 (Go.IntKind.wrap Go.IntKind.i64 (p3 + (1 : Int)))))
  (some ((-(1 : Int)), ())) := (loopAt_step Go.Proofs.C28.ctx 82 2 _).trans (by kernel_rfl)
theorem api_Pair_61.l3_eq (p0 : (List (Int × Int))) (p1 : Int) (p2 : Int) (p3 : Int) (p4 : Int) (p5 : Int) : api_Pair_61.l3 p0 p1 p2 p3 p4 p5 =
  ifB (decide (p2 < p3))
   (bindD ((ixAt p0 (Go.IntKind.wrap Go.IntKind.i64 (Go.Proofs.R.shrInt Go.IntKind.u64 (Go.IntKind.wrap Go.IntKind.u64 (Go.IntKind.wrap Go.IntKind.i64 (p2 + p3))) (1 : Int))))) fun t307 =>
   bindD (difference_order.f t307.1 t307.2 p4 p5) fun t308 =>
   ifB (decide (t308.1 < (0 : Int)))
    (api_Pair_61.l3 p0 p1 (Go.IntKind.wrap Go.IntKind.i64 ((Go.IntKind.wrap Go.IntKind.i64 (Go.Proofs.R.shrInt Go.IntKind.u64 (Go.IntKind.wrap Go.IntKind.u64 (Go.IntKind.wrap Go.IntKind.i64 (p2 + p3))) (1 : Int))) + (1 : Int))) p3 p4 p5)
   (api_Pair_61.l3 p0 p1 p2 (Go.IntKind.wrap Go.IntKind.i64 (Go.Proofs.R.shrInt Go.IntKind.u64 (Go.IntKind.wrap Go.IntKind.u64 (Go.IntKind.wrap Go.IntKind.i64 (p2 + p3))) (1 : Int))) p4 p5))
  (ifB (decide (p2 < p1))
    (bindD ((ixAt p0 p2)) fun t309 =>
    bindD (difference_order.f t309.1 t309.2 p4 p5) fun t310 =>
    some (p2, ((t310.1 == (0 : Int)), ())))
   (some (p2, (false, ())))) := (loopAt_step Go.Proofs.C28.ctx 61 3 _).trans (by kernel_rfl)
theorem automaton_Valid_1.f_eq (p0 : Int) (p1 : Int) : automaton_Valid_1.f p0 p1 =
  ifB (decide (p0 < (-(1 : Int))))
   (some (true, ()))
  (some ((decide (p0 ≥ p1)), ())) := (Einf_call Go.Proofs.C28.ctx 72 _).trans (by kernel_rfl)
end Go.Proofs.C28
