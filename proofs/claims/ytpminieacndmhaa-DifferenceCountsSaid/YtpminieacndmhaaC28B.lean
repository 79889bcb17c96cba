/- C28B: what the row's functions are, as the evaluator tells them. No condition. -/
import Derived.Test.YtpminieacndmhaaC28
set_option linter.unusedVariables false
set_option linter.unusedSimpArgs false
set_option maxRecDepth 100000
set_option linter.unusedVariables false
namespace Go.Proofs.C28
open Go Go.Proofs.R
noncomputable def ancepslaw28_DifferenceSame.f (p0 : Int) (p1 : Int) (p2 : (List (List Int))) (p3 : (List Bool)) (p4 : Int) (p5 : Int) (p6 : (List (List Int))) (p7 : (List Bool)) : Option (Bool × Unit) := (Go.Proofs.R.Einf Go.Proofs.C28.ctx).call 5 [(.agg [(.v (.int .i64) p0), (.v (.int .i64) p1), (.v (.sl (.sl (.int .i64))) p2), (.v (.sl .bool) p3)]), (.agg [(.v (.int .i64) p4), (.v (.int .i64) p5), (.v (.sl (.sl (.int .i64))) p6), (.v (.sl .bool) p7)])]
noncomputable def ancepslaw28_DifferenceTells.f (p0 : Int) (p1 : Int) (p2 : (List (List Int))) (p3 : (List Bool)) (p4 : Int) (p5 : Int) (p6 : (List (List Int))) (p7 : (List Bool)) : Option (Bool × Unit) := (Go.Proofs.R.Einf Go.Proofs.C28.ctx).call 6 [(.agg [(.v (.int .i64) p0), (.v (.int .i64) p1), (.v (.sl (.sl (.int .i64))) p2), (.v (.sl .bool) p3)]), (.agg [(.v (.int .i64) p4), (.v (.int .i64) p5), (.v (.sl (.sl (.int .i64))) p6), (.v (.sl .bool) p7)])]
noncomputable def ancepslaw28_DifferenceCompare.f (p0 : Int) (p1 : Int) (p2 : (List (List Int))) (p3 : (List Bool)) (p4 : Int) (p5 : Int) (p6 : (List (List Int))) (p7 : (List Bool)) (p8 : Int) : Option (Bool × Unit) := (Go.Proofs.R.Einf Go.Proofs.C28.ctx).call 3 [(.agg [(.v (.int .i64) p0), (.v (.int .i64) p1), (.v (.sl (.sl (.int .i64))) p2), (.v (.sl .bool) p3)]), (.agg [(.v (.int .i64) p4), (.v (.int .i64) p5), (.v (.sl (.sl (.int .i64))) p6), (.v (.sl .bool) p7)]), (.one (.v (.int .i64) p8))]
noncomputable def ancepslaw28_DifferenceOrder.f (p0 : Int) (p1 : (List Int)) (p2 : Int) (p3 : Int) (p4 : (List Int)) (p5 : Int) (p6 : Int) (p7 : (List Int)) (p8 : Int) : Option (Bool × Unit) := (Go.Proofs.R.Einf Go.Proofs.C28.ctx).call 4 [(.agg [(.v (.int .u8) p0), (.v (.sl (.int .u8)) p1), (.v (.int .u16) p2)]), (.agg [(.v (.int .u8) p3), (.v (.sl (.int .u8)) p4), (.v (.int .u16) p5)]), (.agg [(.v (.int .u8) p6), (.v (.sl (.int .u8)) p7), (.v (.int .u16) p8)])]
noncomputable def ancepslaw28_DifferenceCheck.f (p0 : Int) (p1 : Int) (p2 : (List (List Int))) (p3 : (List Bool)) (p4 : Int) (p5 : Int) (p6 : (List (List Int))) (p7 : (List Bool)) (p8 : (List (Int × Int))) : Option (Bool × Unit) := (Go.Proofs.R.Einf Go.Proofs.C28.ctx).call 7 [(.agg [(.v (.int .i64) p0), (.v (.int .i64) p1), (.v (.sl (.sl (.int .i64))) p2), (.v (.sl .bool) p3)]), (.agg [(.v (.int .i64) p4), (.v (.int .i64) p5), (.v (.sl (.sl (.int .i64))) p6), (.v (.sl .bool) p7)]), (.one (.v (.sl (.pair (.int .i64) (.int .i64))) p8))]
noncomputable def ancepslaw28_DifferenceCommon.f (p0 : Int) (p1 : Int) (p2 : (List (List Int))) (p3 : (List Bool)) (p4 : Int) (p5 : Int) (p6 : (List (List Int))) (p7 : (List Bool)) (p8 : (List Int)) : Option (Bool × Unit) := (Go.Proofs.R.Einf Go.Proofs.C28.ctx).call 8 [(.agg [(.v (.int .i64) p0), (.v (.int .i64) p1), (.v (.sl (.sl (.int .i64))) p2), (.v (.sl .bool) p3)]), (.agg [(.v (.int .i64) p4), (.v (.int .i64) p5), (.v (.sl (.sl (.int .i64))) p6), (.v (.sl .bool) p7)]), (.one (.v (.sl (.int .i64)) p8))]
noncomputable def ancepslaw28_DifferenceCounts.f (p0 : Int) (p1 : (List Int)) (p2 : Int) (p3 : Int) (p4 : (List Int)) (p5 : Int) (p6 : Int) : Option (Bool × Unit) := (Go.Proofs.R.Einf Go.Proofs.C28.ctx).call 9 [(.agg [(.v (.int .u8) p0), (.v (.sl (.int .u8)) p1), (.v (.int .u16) p2)]), (.agg [(.v (.int .u8) p3), (.v (.sl (.int .u8)) p4), (.v (.int .u16) p5)]), (.one (.v (.int .u8) p6))]
noncomputable def ancepslaw28_awake.f : Option (Bool × Unit) := (Go.Proofs.R.Einf Go.Proofs.C28.ctx).call 11 []
noncomputable def ancepsref28_Few.f (p0 : Int) (p1 : Int) (p2 : (List (List Int))) (p3 : (List Bool)) (p4 : Int) (p5 : Int) (p6 : (List (List Int))) (p7 : (List Bool)) : Option (Bool × Unit) := (Go.Proofs.R.Einf Go.Proofs.C28.ctx).call 12 [(.agg [(.v (.int .i64) p0), (.v (.int .i64) p1), (.v (.sl (.sl (.int .i64))) p2), (.v (.sl .bool) p3)]), (.agg [(.v (.int .i64) p4), (.v (.int .i64) p5), (.v (.sl (.sl (.int .i64))) p6), (.v (.sl .bool) p7)])]
noncomputable def difference_Same.f (p0 : Int) (p1 : Int) (p2 : (List (List Int))) (p3 : (List Bool)) (p4 : Int) (p5 : Int) (p6 : (List (List Int))) (p7 : (List Bool)) : Option (Bool × (Int × Unit)) := (Go.Proofs.R.Einf Go.Proofs.C28.ctx).call 18 [(.agg [(.v (.int .i64) p0), (.v (.int .i64) p1), (.v (.sl (.sl (.int .i64))) p2), (.v (.sl .bool) p3)]), (.agg [(.v (.int .i64) p4), (.v (.int .i64) p5), (.v (.sl (.sl (.int .i64))) p6), (.v (.sl .bool) p7)])]
noncomputable def ancepsref28_Same.f (p0 : Int) (p1 : Int) (p2 : (List (List Int))) (p3 : (List Bool)) (p4 : Int) (p5 : Int) (p6 : (List (List Int))) (p7 : (List Bool)) : Option (Bool × (Int × Unit)) := (Go.Proofs.R.Einf Go.Proofs.C28.ctx).call 19 [(.agg [(.v (.int .i64) p0), (.v (.int .i64) p1), (.v (.sl (.sl (.int .i64))) p2), (.v (.sl .bool) p3)]), (.agg [(.v (.int .i64) p4), (.v (.int .i64) p5), (.v (.sl (.sl (.int .i64))) p6), (.v (.sl .bool) p7)])]
noncomputable def difference_Within.f (p0 : Int) (p1 : Int) (p2 : (List (List Int))) (p3 : (List Bool)) (p4 : Int) (p5 : Int) (p6 : (List (List Int))) (p7 : (List Bool)) : Option (Bool × (Int × Unit)) := (Go.Proofs.R.Einf Go.Proofs.C28.ctx).call 17 [(.agg [(.v (.int .i64) p0), (.v (.int .i64) p1), (.v (.sl (.sl (.int .i64))) p2), (.v (.sl .bool) p3)]), (.agg [(.v (.int .i64) p4), (.v (.int .i64) p5), (.v (.sl (.sl (.int .i64))) p6), (.v (.sl .bool) p7)])]
noncomputable def ancepsref28_Within.f (p0 : Int) (p1 : Int) (p2 : (List (List Int))) (p3 : (List Bool)) (p4 : Int) (p5 : Int) (p6 : (List (List Int))) (p7 : (List Bool)) : Option (Bool × (Int × Unit)) := (Go.Proofs.R.Einf Go.Proofs.C28.ctx).call 20 [(.agg [(.v (.int .i64) p0), (.v (.int .i64) p1), (.v (.sl (.sl (.int .i64))) p2), (.v (.sl .bool) p3)]), (.agg [(.v (.int .i64) p4), (.v (.int .i64) p5), (.v (.sl (.sl (.int .i64))) p6), (.v (.sl .bool) p7)])]
noncomputable def difference_Disjoint.f (p0 : Int) (p1 : Int) (p2 : (List (List Int))) (p3 : (List Bool)) (p4 : Int) (p5 : Int) (p6 : (List (List Int))) (p7 : (List Bool)) : Option (Bool × (Int × Unit)) := (Go.Proofs.R.Einf Go.Proofs.C28.ctx).call 21 [(.agg [(.v (.int .i64) p0), (.v (.int .i64) p1), (.v (.sl (.sl (.int .i64))) p2), (.v (.sl .bool) p3)]), (.agg [(.v (.int .i64) p4), (.v (.int .i64) p5), (.v (.sl (.sl (.int .i64))) p6), (.v (.sl .bool) p7)])]
noncomputable def ancepsref28_Disjoint.f (p0 : Int) (p1 : Int) (p2 : (List (List Int))) (p3 : (List Bool)) (p4 : Int) (p5 : Int) (p6 : (List (List Int))) (p7 : (List Bool)) : Option (Bool × (Int × Unit)) := (Go.Proofs.R.Einf Go.Proofs.C28.ctx).call 22 [(.agg [(.v (.int .i64) p0), (.v (.int .i64) p1), (.v (.sl (.sl (.int .i64))) p2), (.v (.sl .bool) p3)]), (.agg [(.v (.int .i64) p4), (.v (.int .i64) p5), (.v (.sl (.sl (.int .i64))) p6), (.v (.sl .bool) p7)])]
noncomputable def difference_Tells.f (p0 : Int) (p1 : Int) (p2 : (List (List Int))) (p3 : (List Bool)) (p4 : Int) (p5 : Int) (p6 : (List (List Int))) (p7 : (List Bool)) : Option ((List Int) × (Int × (Int × Unit))) := (Go.Proofs.R.Einf Go.Proofs.C28.ctx).call 23 [(.agg [(.v (.int .i64) p0), (.v (.int .i64) p1), (.v (.sl (.sl (.int .i64))) p2), (.v (.sl .bool) p3)]), (.agg [(.v (.int .i64) p4), (.v (.int .i64) p5), (.v (.sl (.sl (.int .i64))) p6), (.v (.sl .bool) p7)])]
noncomputable def ancepsref28_Tells.f (p0 : Int) (p1 : Int) (p2 : (List (List Int))) (p3 : (List Bool)) (p4 : Int) (p5 : Int) (p6 : (List (List Int))) (p7 : (List Bool)) : Option ((List Int) × (Int × (Int × Unit))) := (Go.Proofs.R.Einf Go.Proofs.C28.ctx).call 24 [(.agg [(.v (.int .i64) p0), (.v (.int .i64) p1), (.v (.sl (.sl (.int .i64))) p2), (.v (.sl .bool) p3)]), (.agg [(.v (.int .i64) p4), (.v (.int .i64) p5), (.v (.sl (.sl (.int .i64))) p6), (.v (.sl .bool) p7)])]
noncomputable def slices_Equal_int_int.f (p0 : (List Int)) (p1 : (List Int)) : Option (Bool × Unit) := (Go.Proofs.R.Einf Go.Proofs.C28.ctx).call 25 [(.one (.v (.sl (.int .i64)) p0)), (.one (.v (.sl (.int .i64)) p1))]
noncomputable def automaton_Accepts.f (p0 : Int) (p1 : Int) (p2 : (List (List Int))) (p3 : (List Bool)) (p4 : (List Int)) : Option (Bool × Unit) := (Go.Proofs.R.Einf Go.Proofs.C28.ctx).call 26 [(.agg [(.v (.int .i64) p0), (.v (.int .i64) p1), (.v (.sl (.sl (.int .i64))) p2), (.v (.sl .bool) p3)]), (.one (.v (.sl (.int .i64)) p4))]
noncomputable def difference_Compare.f (p0 : Int) (p1 : Int) (p2 : (List (List Int))) (p3 : (List Bool)) (p4 : Int) (p5 : Int) (p6 : (List (List Int))) (p7 : (List Bool)) (p8 : Int) : Option (Bool × (Bool × (Bool × ((List Int) × ((List Int) × ((List Int) × ((List Int) × (Int × Unit)))))))) := (Go.Proofs.R.Einf Go.Proofs.C28.ctx).call 13 [(.agg [(.v (.int .i64) p0), (.v (.int .i64) p1), (.v (.sl (.sl (.int .i64))) p2), (.v (.sl .bool) p3)]), (.agg [(.v (.int .i64) p4), (.v (.int .i64) p5), (.v (.sl (.sl (.int .i64))) p6), (.v (.sl .bool) p7)]), (.one (.v (.int .i64) p8))]
noncomputable def ancepsref28_Compare.f (p0 : Int) (p1 : Int) (p2 : (List (List Int))) (p3 : (List Bool)) (p4 : Int) (p5 : Int) (p6 : (List (List Int))) (p7 : (List Bool)) (p8 : Int) : Option (Bool × (Bool × (Bool × ((List Int) × ((List Int) × ((List Int) × ((List Int) × (Int × Unit)))))))) := (Go.Proofs.R.Einf Go.Proofs.C28.ctx).call 14 [(.agg [(.v (.int .i64) p0), (.v (.int .i64) p1), (.v (.sl (.sl (.int .i64))) p2), (.v (.sl .bool) p3)]), (.agg [(.v (.int .i64) p4), (.v (.int .i64) p5), (.v (.sl (.sl (.int .i64))) p6), (.v (.sl .bool) p7)]), (.one (.v (.int .i64) p8))]
noncomputable def ancepsref28_SameComparison.f (p0 : Bool) (p1 : Bool) (p2 : Bool) (p3 : (List Int)) (p4 : (List Int)) (p5 : (List Int)) (p6 : (List Int)) (p7 : Bool) (p8 : Bool) (p9 : Bool) (p10 : (List Int)) (p11 : (List Int)) (p12 : (List Int)) (p13 : (List Int)) : Option (Bool × Unit) := (Go.Proofs.R.Einf Go.Proofs.C28.ctx).call 15 [(.agg [(.v .bool p0), (.v .bool p1), (.v .bool p2), (.v (.sl (.int .i64)) p3), (.v (.sl (.int .i64)) p4), (.v (.sl (.int .i64)) p5), (.v (.sl (.int .i64)) p6)]), (.agg [(.v .bool p7), (.v .bool p8), (.v .bool p9), (.v (.sl (.int .i64)) p10), (.v (.sl (.int .i64)) p11), (.v (.sl (.int .i64)) p12), (.v (.sl (.int .i64)) p13)])]
noncomputable def ancepsref06_Made.f (p0 : Int) (p1 : (List Int)) (p2 : Int) : Option (Int × (Int × ((List (List Int)) × ((List Bool) × Unit)))) := (Go.Proofs.R.Einf Go.Proofs.C28.ctx).call 16 [(.agg [(.v (.int .u8) p0), (.v (.sl (.int .u8)) p1), (.v (.int .u16) p2)])]
noncomputable def api_Pair.f (p0 : (List (Int × Int))) : Option ((List (Int × Int)) × Unit) := (Go.Proofs.R.Einf Go.Proofs.C28.ctx).call 28 [(.one (.v (.sl (.pair (.int .i64) (.int .i64))) p0))]
noncomputable def difference_CheckWithin.f (p0 : Int) (p1 : Int) (p2 : (List (List Int))) (p3 : (List Bool)) (p4 : Int) (p5 : Int) (p6 : (List (List Int))) (p7 : (List Bool)) (p8 : (List (Int × Int))) : Option (Bool × Unit) := (Go.Proofs.R.Einf Go.Proofs.C28.ctx).call 27 [(.agg [(.v (.int .i64) p0), (.v (.int .i64) p1), (.v (.sl (.sl (.int .i64))) p2), (.v (.sl .bool) p3)]), (.agg [(.v (.int .i64) p4), (.v (.int .i64) p5), (.v (.sl (.sl (.int .i64))) p6), (.v (.sl .bool) p7)]), (.one (.v (.sl (.pair (.int .i64) (.int .i64))) p8))]
noncomputable def ancepsref28_CheckWithin.f (p0 : Int) (p1 : Int) (p2 : (List (List Int))) (p3 : (List Bool)) (p4 : Int) (p5 : Int) (p6 : (List (List Int))) (p7 : (List Bool)) (p8 : (List (Int × Int))) : Option (Bool × Unit) := (Go.Proofs.R.Einf Go.Proofs.C28.ctx).call 29 [(.agg [(.v (.int .i64) p0), (.v (.int .i64) p1), (.v (.sl (.sl (.int .i64))) p2), (.v (.sl .bool) p3)]), (.agg [(.v (.int .i64) p4), (.v (.int .i64) p5), (.v (.sl (.sl (.int .i64))) p6), (.v (.sl .bool) p7)]), (.one (.v (.sl (.pair (.int .i64) (.int .i64))) p8))]
noncomputable def difference_Common.f (p0 : Int) (p1 : Int) (p2 : (List (List Int))) (p3 : (List Bool)) (p4 : Int) (p5 : Int) (p6 : (List (List Int))) (p7 : (List Bool)) : Option (Int × (Int × ((List (List Int)) × ((List Bool) × (Int × Unit))))) := (Go.Proofs.R.Einf Go.Proofs.C28.ctx).call 30 [(.agg [(.v (.int .i64) p0), (.v (.int .i64) p1), (.v (.sl (.sl (.int .i64))) p2), (.v (.sl .bool) p3)]), (.agg [(.v (.int .i64) p4), (.v (.int .i64) p5), (.v (.sl (.sl (.int .i64))) p6), (.v (.sl .bool) p7)])]
noncomputable def ancepsref28_Common.f (p0 : Int) (p1 : Int) (p2 : (List (List Int))) (p3 : (List Bool)) (p4 : Int) (p5 : Int) (p6 : (List (List Int))) (p7 : (List Bool)) : Option (Int × (Int × ((List (List Int)) × ((List Bool) × (Int × Unit))))) := (Go.Proofs.R.Einf Go.Proofs.C28.ctx).call 31 [(.agg [(.v (.int .i64) p0), (.v (.int .i64) p1), (.v (.sl (.sl (.int .i64))) p2), (.v (.sl .bool) p3)]), (.agg [(.v (.int .i64) p4), (.v (.int .i64) p5), (.v (.sl (.sl (.int .i64))) p6), (.v (.sl .bool) p7)])]
noncomputable def ancepsref06_SameDFA.f (p0 : Int) (p1 : Int) (p2 : (List (List Int))) (p3 : (List Bool)) (p4 : Int) (p5 : Int) (p6 : (List (List Int))) (p7 : (List Bool)) : Option (Bool × Unit) := (Go.Proofs.R.Einf Go.Proofs.C28.ctx).call 32 [(.agg [(.v (.int .i64) p0), (.v (.int .i64) p1), (.v (.sl (.sl (.int .i64))) p2), (.v (.sl .bool) p3)]), (.agg [(.v (.int .i64) p4), (.v (.int .i64) p5), (.v (.sl (.sl (.int .i64))) p6), (.v (.sl .bool) p7)])]
noncomputable def automaton_Count.f (p0 : Int) (p1 : Int) (p2 : (List (List Int))) (p3 : (List Bool)) (p4 : Int) : Option (Int × (Int × Unit)) := (Go.Proofs.R.Einf Go.Proofs.C28.ctx).call 33 [(.agg [(.v (.int .i64) p0), (.v (.int .i64) p1), (.v (.sl (.sl (.int .i64))) p2), (.v (.sl .bool) p3)]), (.one (.v (.int .i64) p4))]
noncomputable def ancepslaw28_of.f (p0 : (List Bool)) (p1 : (List (List Int))) : Option (Int × (Int × ((List (List Int)) × ((List Bool) × Unit)))) := (Go.Proofs.R.Einf Go.Proofs.C28.ctx).call 37 [(.one (.v (.sl .bool) p0)), (.one (.v (.sl (.sl (.int .i64))) p1))]
noncomputable def ancepsref28_Few.l3 (p0 : Int) (p1 : Int) (p2 : Int) (p3 : Int) (p4 : (List (List Int))) (p5 : (List Bool)) (p6 : Int) (p7 : Int) (p8 : (List (List Int))) (p9 : (List Bool)) : Option (Bool × Unit) := Go.Proofs.R.loopAt Go.Proofs.C28.ctx (Go.Proofs.R.Einf Go.Proofs.C28.ctx) 12 3 (.mk [(2, (.one (.ref 7 0))), (3, (.one (.ref 15 0))), (5, (.one (.v (.int .i64) p0))), (6, (.one (.v (.int .i64) p1)))] [(7, (.box 25 [(.v (.int .i64) p2), (.v (.int .i64) p3), (.v (.sl (.sl (.int .i64))) p4), (.v (.sl .bool) p5)])), (15, (.box 25 [(.v (.int .i64) p6), (.v (.int .i64) p7), (.v (.sl (.sl (.int .i64))) p8), (.v (.sl .bool) p9)]))])
noncomputable def difference_valid.f (p0 : Int) (p1 : Int) (p2 : (List (List Int))) (p3 : (List Bool)) (p4 : Int) (p5 : Int) (p6 : (List (List Int))) (p7 : (List Bool)) : Option (Int × Unit) := (Go.Proofs.R.Einf Go.Proofs.C28.ctx).call 38 [(.agg [(.v (.int .i64) p0), (.v (.int .i64) p1), (.v (.sl (.sl (.int .i64))) p2), (.v (.sl .bool) p3)]), (.agg [(.v (.int .i64) p4), (.v (.int .i64) p5), (.v (.sl (.sl (.int .i64))) p6), (.v (.sl .bool) p7)])]
noncomputable def difference_apart.f (p0 : Int) (p1 : Int) (p2 : (List (List Int))) (p3 : (List Bool)) (p4 : Int) (p5 : Int) (p6 : (List (List Int))) (p7 : (List Bool)) : Option ((List Int) × (Int × Unit)) := (Go.Proofs.R.Einf Go.Proofs.C28.ctx).call 39 [(.agg [(.v (.int .i64) p0), (.v (.int .i64) p1), (.v (.sl (.sl (.int .i64))) p2), (.v (.sl .bool) p3)]), (.agg [(.v (.int .i64) p4), (.v (.int .i64) p5), (.v (.sl (.sl (.int .i64))) p6), (.v (.sl .bool) p7)])]
noncomputable def ancepsref28_valid.f (p0 : Int) (p1 : Int) (p2 : (List (List Int))) (p3 : (List Bool)) (p4 : Int) (p5 : Int) (p6 : (List (List Int))) (p7 : (List Bool)) : Option (Int × Unit) := (Go.Proofs.R.Einf Go.Proofs.C28.ctx).call 44 [(.agg [(.v (.int .i64) p0), (.v (.int .i64) p1), (.v (.sl (.sl (.int .i64))) p2), (.v (.sl .bool) p3)]), (.agg [(.v (.int .i64) p4), (.v (.int .i64) p5), (.v (.sl (.sl (.int .i64))) p6), (.v (.sl .bool) p7)])]
noncomputable def ancepsref28_tells.f (p0 : Int) (p1 : Int) (p2 : (List (List Int))) (p3 : (List Bool)) (p4 : Int) (p5 : Int) (p6 : (List (List Int))) (p7 : (List Bool)) : Option ((List Int) × (Int × Unit)) := (Go.Proofs.R.Einf Go.Proofs.C28.ctx).call 45 [(.agg [(.v (.int .i64) p0), (.v (.int .i64) p1), (.v (.sl (.sl (.int .i64))) p2), (.v (.sl .bool) p3)]), (.agg [(.v (.int .i64) p4), (.v (.int .i64) p5), (.v (.sl (.sl (.int .i64))) p6), (.v (.sl .bool) p7)])]
noncomputable def difference_within.f (p0 : Int) (p1 : Int) (p2 : (List (List Int))) (p3 : (List Bool)) (p4 : Int) (p5 : Int) (p6 : (List (List Int))) (p7 : (List Bool)) : Option (Bool × Unit) := (Go.Proofs.R.Einf Go.Proofs.C28.ctx).call 40 [(.agg [(.v (.int .i64) p0), (.v (.int .i64) p1), (.v (.sl (.sl (.int .i64))) p2), (.v (.sl .bool) p3)]), (.agg [(.v (.int .i64) p4), (.v (.int .i64) p5), (.v (.sl (.sl (.int .i64))) p6), (.v (.sl .bool) p7)])]
noncomputable def ancepsref28_within.f (p0 : Int) (p1 : Int) (p2 : (List (List Int))) (p3 : (List Bool)) (p4 : Int) (p5 : Int) (p6 : (List (List Int))) (p7 : (List Bool)) : Option (Bool × Unit) := (Go.Proofs.R.Einf Go.Proofs.C28.ctx).call 46 [(.agg [(.v (.int .i64) p0), (.v (.int .i64) p1), (.v (.sl (.sl (.int .i64))) p2), (.v (.sl .bool) p3)]), (.agg [(.v (.int .i64) p4), (.v (.int .i64) p5), (.v (.sl (.sl (.int .i64))) p6), (.v (.sl .bool) p7)])]
noncomputable def difference_side.f (p0 : Int) (p1 : Int) (p2 : (List (List Int))) (p3 : (List Bool)) (p4 : Int) (p5 : Int) (p6 : (List (List Int))) (p7 : (List Bool)) : Option ((List ((Int × Int) × (Int × Int))) × Unit) := (Go.Proofs.R.Einf Go.Proofs.C28.ctx).call 54 [(.agg [(.v (.int .i64) p0), (.v (.int .i64) p1), (.v (.sl (.sl (.int .i64))) p2), (.v (.sl .bool) p3)]), (.agg [(.v (.int .i64) p4), (.v (.int .i64) p5), (.v (.sl (.sl (.int .i64))) p6), (.v (.sl .bool) p7)]), (.one (.clo 55 []))]
noncomputable def difference_visit.f (p0 : (List ((Int × Int) × (Int × Int)))) (p1 : Int) (p2 : Int) (p3 : (List (List Int))) (p4 : (List Bool)) (p5 : Int) (p6 : Int) (p7 : (List (List Int))) (p8 : (List Bool)) : Option (Bool × Unit) := (Go.Proofs.R.Einf Go.Proofs.C28.ctx).call 53 [(.one (.v (.sl (.pair (.pair (.int .i64) (.int .i64)) (.pair (.int .i64) (.int .i64)))) p0)), (.one (.clo 56 [(.pref [(.v (.int .i64) p1), (.v (.int .i64) p2), (.v (.sl (.sl (.int .i64))) p3), (.v (.sl .bool) p4)] 0), (.pref [(.v (.int .i64) p5), (.v (.int .i64) p6), (.v (.sl (.sl (.int .i64))) p7), (.v (.sl .bool) p8)] 0)]))]
noncomputable def ancepsref28_reach.f (p0 : Int) (p1 : Int) (p2 : (List (List Int))) (p3 : (List Bool)) (p4 : Int) (p5 : Int) (p6 : (List (List Int))) (p7 : (List Bool)) : Option ((List (Int × Int)) × ((List (List Int)) × Unit)) := (Go.Proofs.R.Einf Go.Proofs.C28.ctx).call 47 [(.agg [(.v (.int .i64) p0), (.v (.int .i64) p1), (.v (.sl (.sl (.int .i64))) p2), (.v (.sl .bool) p3)]), (.agg [(.v (.int .i64) p4), (.v (.int .i64) p5), (.v (.sl (.sl (.int .i64))) p6), (.v (.sl .bool) p7)])]
noncomputable def ancepsref28_Disjoint.l6 (p0 : (List (Int × Int))) (p1 : Int) (p2 : Int) (p3 : Int) (p4 : (List (List Int))) (p5 : (List Bool)) (p6 : Int) (p7 : Int) (p8 : (List (List Int))) (p9 : (List Bool)) : Option (Bool × (Int × Unit)) := Go.Proofs.R.loopAt Go.Proofs.C28.ctx (Go.Proofs.R.Einf Go.Proofs.C28.ctx) 22 6 (.mk [(2, (.one (.ref 7 0))), (3, (.one (.ref 15 0))), (7, (.one (.v (.sl (.pair (.int .i64) (.int .i64))) p0))), (8, (.one (.v (.int .i64) p1)))] [(7, (.box 25 [(.v (.int .i64) p2), (.v (.int .i64) p3), (.v (.sl (.sl (.int .i64))) p4), (.v (.sl .bool) p5)])), (15, (.box 25 [(.v (.int .i64) p6), (.v (.int .i64) p7), (.v (.sl (.sl (.int .i64))) p8), (.v (.sl .bool) p9)]))])
noncomputable def slices_Equal_int_int.l4 (p0 : (List Int)) (p1 : (List Int)) (p2 : Int) (p3 : Int) : Option (Bool × Unit) := Go.Proofs.R.loopAt Go.Proofs.C28.ctx (Go.Proofs.R.Einf Go.Proofs.C28.ctx) 25 4 (.mk [(0, (.one (.v (.sl (.int .i64)) p0))), (1, (.one (.v (.sl (.int .i64)) p1))), (12, (.one (.v (.int .i64) p2))), (13, (.one (.v (.int .i64) p3)))] [])
noncomputable def automaton_Valid.f (p0 : Int) (p1 : Int) (p2 : (List (List Int))) (p3 : (List Bool)) : Option (Int × Unit) := (Go.Proofs.R.Einf Go.Proofs.C28.ctx).call 57 [(.agg [(.v (.int .i64) p0), (.v (.int .i64) p1), (.v (.sl (.sl (.int .i64))) p2), (.v (.sl .bool) p3)])]
noncomputable def automaton_Run.f (p0 : Int) (p1 : Int) (p2 : (List (List Int))) (p3 : (List Bool)) (p4 : (List Int)) : Option (Int × Unit) := (Go.Proofs.R.Einf Go.Proofs.C28.ctx).call 59 [(.agg [(.v (.int .i64) p0), (.v (.int .i64) p1), (.v (.sl (.sl (.int .i64))) p2), (.v (.sl .bool) p3)]), (.one (.v (.sl (.int .i64)) p4))]
noncomputable def automaton_ends.f (p0 : Int) (p1 : Int) (p2 : (List (List Int))) (p3 : (List Bool)) (p4 : Int) : Option (Bool × Unit) := (Go.Proofs.R.Einf Go.Proofs.C28.ctx).call 58 [(.agg [(.v (.int .i64) p0), (.v (.int .i64) p1), (.v (.sl (.sl (.int .i64))) p2), (.v (.sl .bool) p3)]), (.one (.v (.int .i64) p4))]
noncomputable def difference_either.f (p0 : Int) (p1 : Int) : Option (Bool × Unit) := (Go.Proofs.R.Einf Go.Proofs.C28.ctx).call 41 [(.agg [(.v (.int .i64) p0), (.v (.int .i64) p1)])]
noncomputable def difference_Compare.l13 (p0 : Int) (p1 : Int) (p2 : Int) (p3 : Int) (p4 : (List (List Int))) (p5 : (List Bool)) (p6 : Int) (p7 : Int) (p8 : (List (List Int))) (p9 : (List Bool)) (p10 : Bool) (p11 : Bool) (p12 : Bool) (p13 : Bool) (p14 : Bool) (p15 : Bool) (p16 : (List ((Int × Int) × Int))) (p17 : (List Int)) (p18 : (List Int)) (p19 : (List Int)) (p20 : (List Int)) (p21 : (List Int)) (p22 : (List Int)) (p23 : (List Int)) (p24 : (List Int)) : Option (Bool × (Bool × (Bool × ((List Int) × ((List Int) × ((List Int) × ((List Int) × (Int × Unit)))))))) := Go.Proofs.R.loopAt Go.Proofs.C28.ctx (Go.Proofs.R.Einf Go.Proofs.C28.ctx) 13 13 (.mk [(3, (.one (.ref 7 0))), (4, (.one (.ref 15 0))), (6, (.one (.ref 23 0))), (11, (.one (.ref 31 0))), (12, (.one (.mp 39))), (65, (.one (.v (.int .i64) p0))), (66, (.one (.v (.int .i64) p1)))] [(7, (.box 25 [(.v (.int .i64) p2), (.v (.int .i64) p3), (.v (.sl (.sl (.int .i64))) p4), (.v (.sl .bool) p5)])), (15, (.box 25 [(.v (.int .i64) p6), (.v (.int .i64) p7), (.v (.sl (.sl (.int .i64))) p8), (.v (.sl .bool) p9)])), (23, (.box 31 [(.v .bool p10), (.v .bool p11), (.v .bool p12), (.row 47), (.row 55), (.row 63), (.row 71)])), (31, (.box 31 [(.v .bool p13), (.v .bool p14), (.v .bool p15), (.row 79), (.row 87), (.row 95), (.row 103)])), (39, (.mp 53 2 (.pair (.int .i64) (.int .i64)) (.int .i64) p16)), (47, (.row 3 (.int .i64) p17 false)), (55, (.row 2 (.int .i64) p18 false)), (63, (.row 2 (.int .i64) p19 false)), (71, (.row 2 (.int .i64) p20 false)), (79, (.row 3 (.int .i64) p21 false)), (87, (.row 2 (.int .i64) p22 false)), (95, (.row 2 (.int .i64) p23 false)), (103, (.row 2 (.int .i64) p24 false))])
noncomputable def ancepsref28_Compare.l13 (p0 : Int) (p1 : (List (Int × Int))) (p2 : Int) (p3 : Int) (p4 : Int) (p5 : (List (List Int))) (p6 : (List Bool)) (p7 : Int) (p8 : Int) (p9 : (List (List Int))) (p10 : (List Bool)) (p11 : Bool) (p12 : Bool) (p13 : Bool) (p14 : Bool) (p15 : Bool) (p16 : Bool) (p17 : (List Int)) (p18 : (List Int)) (p19 : (List Int)) (p20 : (List Int)) (p21 : (List Int)) (p22 : (List Int)) (p23 : (List Int)) (p24 : (List Int)) (p25 : (List Int)) : Option (Bool × (Bool × (Bool × ((List Int) × ((List Int) × ((List Int) × ((List Int) × (Int × Unit)))))))) := Go.Proofs.R.loopAt Go.Proofs.C28.ctx (Go.Proofs.R.Einf Go.Proofs.C28.ctx) 14 13 (.mk [(2, (.one (.v (.int .i64) p0))), (3, (.one (.ref 7 0))), (4, (.one (.ref 15 0))), (6, (.one (.ref 23 0))), (11, (.one (.ref 31 0))), (12, (.one (.v (.sl (.pair (.int .i64) (.int .i64))) p1))), (13, (.one (.row 39))), (14, (.one (.v (.int .i64) p2)))] [(7, (.box 25 [(.v (.int .i64) p3), (.v (.int .i64) p4), (.v (.sl (.sl (.int .i64))) p5), (.v (.sl .bool) p6)])), (15, (.box 25 [(.v (.int .i64) p7), (.v (.int .i64) p8), (.v (.sl (.sl (.int .i64))) p9), (.v (.sl .bool) p10)])), (23, (.box 31 [(.v .bool p11), (.v .bool p12), (.v .bool p13), (.row 47), (.row 55), (.row 63), (.row 71)])), (31, (.box 31 [(.v .bool p14), (.v .bool p15), (.v .bool p16), (.v (.sl (.int .i64)) p17), (.row 79), (.row 87), (.row 95)])), (39, (.row 2 (.int .i64) p18 false)), (47, (.row 3 (.int .i64) p19 false)), (55, (.row 2 (.int .i64) p20 false)), (63, (.row 2 (.int .i64) p21 false)), (71, (.row 2 (.int .i64) p22 false)), (79, (.row 2 (.int .i64) p23 false)), (87, (.row 2 (.int .i64) p24 false)), (95, (.row 2 (.int .i64) p25 false))])
noncomputable def ancepsref06_Equal.f (p0 : (List Int)) (p1 : (List Int)) : Option (Bool × Unit) := (Go.Proofs.R.Einf Go.Proofs.C28.ctx).call 51 [(.one (.v (.sl (.int .i64)) p0)), (.one (.v (.sl (.int .i64)) p1))]
noncomputable def ancepsref28_numbers.f (p0 : (List Int)) (p1 : (List Int)) : Option (Bool × Unit) := (Go.Proofs.R.Einf Go.Proofs.C28.ctx).call 52 [(.one (.v (.sl (.int .i64)) p0)), (.one (.v (.sl (.int .i64)) p1))]
noncomputable def ancepsref06_Made.l4 (p0 : Int) (p1 : Int) (p2 : Int) (p3 : (List Int)) (p4 : Int) (p5 : Int) (p6 : Int) (p7 : Int) (p8 : Int) (p9 : (List (List Int))) (p10 : (List Bool)) (p11 : (List (List Int))) (p12 : (List Bool)) : Option (Int × (Int × ((List (List Int)) × ((List Bool) × Unit)))) := Go.Proofs.R.loopAt Go.Proofs.C28.ctx (Go.Proofs.R.Einf Go.Proofs.C28.ctx) 16 4 (.mk [(1, (.one (.ref 7 0))), (2, (.one (.ref 15 0))), (3, (.one (.ref 23 0))), (4, (.one (.v (.int .i64) p0))), (5, (.one (.v (.int .i64) p1)))] [(7, (.box 40 [(.v (.int .u8) p2), (.v (.sl (.int .u8)) p3), (.v (.int .u16) p4)])), (15, (.box 25 [(.v (.int .i64) p5), (.v (.int .i64) p6), (.row 31), (.row 39)])), (23, (.box 25 [(.v (.int .i64) p7), (.v (.int .i64) p8), (.row 47), (.row 55)])), (31, (.row 28 (.sl (.int .i64)) p9 false)), (39, (.row 4 .bool p10 false)), (47, (.row 28 (.sl (.int .i64)) p11 false)), (55, (.row 4 .bool p12 false))])
noncomputable def difference_CheckWithin.l5 (p0 : (List (Int × Int))) (p1 : Int) (p2 : Int) (p3 : Int) (p4 : Int) (p5 : (List (List Int))) (p6 : (List Bool)) (p7 : Int) (p8 : Int) (p9 : (List (List Int))) (p10 : (List Bool)) (p11 : (List (Int × Int))) : Option (Bool × Unit) := Go.Proofs.R.loopAt Go.Proofs.C28.ctx (Go.Proofs.R.Einf Go.Proofs.C28.ctx) 27 5 (.mk [(3, (.one (.ref 7 0))), (4, (.one (.ref 15 0))), (5, (.one (.ref 23 0))), (7, (.one (.clo 60 [(.ref 23 0)]))), (19, (.one (.v (.sl (.pair (.int .i64) (.int .i64))) p0))), (20, (.one (.v (.int .i64) p1))), (21, (.one (.v (.int .i64) p2)))] [(7, (.box 25 [(.v (.int .i64) p3), (.v (.int .i64) p4), (.v (.sl (.sl (.int .i64))) p5), (.v (.sl .bool) p6)])), (15, (.box 25 [(.v (.int .i64) p7), (.v (.int .i64) p8), (.v (.sl (.sl (.int .i64))) p9), (.v (.sl .bool) p10)])), (23, (.box 49 [(.v (.sl (.pair (.int .i64) (.int .i64))) p11)]))])
noncomputable def ancepsref28_index.f (p0 : (List (Int × Int))) (p1 : Int) (p2 : Int) : Option (Int × Unit) := (Go.Proofs.R.Einf Go.Proofs.C28.ctx).call 49 [(.one (.v (.sl (.pair (.int .i64) (.int .i64))) p0)), (.agg [(.v (.int .i64) p1), (.v (.int .i64) p2)])]
noncomputable def ancepsref28_CheckWithin.l4 (p0 : (List (Int × Int))) (p1 : Int) (p2 : Int) (p3 : Int) (p4 : (List (List Int))) (p5 : (List Bool)) (p6 : Int) (p7 : Int) (p8 : (List (List Int))) (p9 : (List Bool)) : Option (Bool × Unit) := Go.Proofs.R.loopAt Go.Proofs.C28.ctx (Go.Proofs.R.Einf Go.Proofs.C28.ctx) 29 4 (.mk [(2, (.one (.v (.sl (.pair (.int .i64) (.int .i64))) p0))), (3, (.one (.ref 7 0))), (4, (.one (.ref 15 0))), (7, (.one (.v (.int .i64) p1)))] [(7, (.box 25 [(.v (.int .i64) p2), (.v (.int .i64) p3), (.v (.sl (.sl (.int .i64))) p4), (.v (.sl .bool) p5)])), (15, (.box 25 [(.v (.int .i64) p6), (.v (.int .i64) p7), (.v (.sl (.sl (.int .i64))) p8), (.v (.sl .bool) p9)]))])
noncomputable def automaton_Product.f (p0 : Int) (p1 : Int) (p2 : (List (List Int))) (p3 : (List Bool)) (p4 : Int) (p5 : Int) (p6 : (List (List Int))) (p7 : (List Bool)) (p8 : Int) : Option (Int × (Int × ((List (List Int)) × ((List Bool) × (Int × Unit))))) := (Go.Proofs.R.Einf Go.Proofs.C28.ctx).call 64 [(.agg [(.v (.int .i64) p0), (.v (.int .i64) p1), (.v (.sl (.sl (.int .i64))) p2), (.v (.sl .bool) p3)]), (.agg [(.v (.int .i64) p4), (.v (.int .i64) p5), (.v (.sl (.sl (.int .i64))) p6), (.v (.sl .bool) p7)]), (.one (.v (.int .i64) p8))]
noncomputable def ancepsref28_Common.l7 (p0 : (List (Int × Int))) (p1 : Int) (p2 : Int) (p3 : Int) (p4 : (List (List Int))) (p5 : (List Bool)) (p6 : Int) (p7 : Int) (p8 : (List (List Int))) (p9 : (List Bool)) (p10 : Int) (p11 : Int) (p12 : Int) (p13 : Int) (p14 : (List (List Int))) (p15 : (List Bool)) (p16 : (List (List Int))) (p17 : (List Bool)) : Option (Int × (Int × ((List (List Int)) × ((List Bool) × (Int × Unit))))) := Go.Proofs.R.loopAt Go.Proofs.C28.ctx (Go.Proofs.R.Einf Go.Proofs.C28.ctx) 31 7 (.mk [(2, (.one (.ref 7 0))), (3, (.one (.ref 15 0))), (4, (.one (.ref 23 0))), (7, (.one (.v (.sl (.pair (.int .i64) (.int .i64))) p0))), (8, (.one (.ref 31 0))), (9, (.one (.v (.int .i64) p1)))] [(7, (.box 25 [(.v (.int .i64) p2), (.v (.int .i64) p3), (.v (.sl (.sl (.int .i64))) p4), (.v (.sl .bool) p5)])), (15, (.box 25 [(.v (.int .i64) p6), (.v (.int .i64) p7), (.v (.sl (.sl (.int .i64))) p8), (.v (.sl .bool) p9)])), (23, (.box 25 [(.v (.int .i64) p10), (.v (.int .i64) p11), (.row 39), (.row 47)])), (31, (.box 25 [(.v (.int .i64) p12), (.v (.int .i64) p13), (.row 55), (.row 63)])), (39, (.row 28 (.sl (.int .i64)) p14 false)), (47, (.row 4 .bool p15 false)), (55, (.row 28 (.sl (.int .i64)) p16 false)), (63, (.row 4 .bool p17 false))])
noncomputable def ancepsref06_SameDFA.l4 (p0 : Int) (p1 : Int) (p2 : Int) (p3 : (List (List Int))) (p4 : (List Bool)) (p5 : Int) (p6 : Int) (p7 : (List (List Int))) (p8 : (List Bool)) : Option (Bool × Unit) := Go.Proofs.R.loopAt Go.Proofs.C28.ctx (Go.Proofs.R.Einf Go.Proofs.C28.ctx) 32 4 (.mk [(2, (.one (.ref 7 0))), (3, (.one (.ref 15 0))), (5, (.one (.v (.int .i64) p0)))] [(7, (.box 25 [(.v (.int .i64) p1), (.v (.int .i64) p2), (.v (.sl (.sl (.int .i64))) p3), (.v (.sl .bool) p4)])), (15, (.box 25 [(.v (.int .i64) p5), (.v (.int .i64) p6), (.v (.sl (.sl (.int .i64))) p7), (.v (.sl .bool) p8)]))])
noncomputable def automaton_Count.l10 (p0 : Int) (p1 : (List Bool)) (p2 : Int) (p3 : Int) (p4 : Int) (p5 : Int) (p6 : (List (List Int))) (p7 : (List Bool)) (p8 : (List Int)) : Option (Int × (Int × Unit)) := Go.Proofs.R.loopAt Go.Proofs.C28.ctx (Go.Proofs.R.Einf Go.Proofs.C28.ctx) 33 10 (.mk [(1, (.one (.v (.int .i64) p0))), (2, (.one (.ref 7 0))), (7, (.one (.row 15))), (34, (.one (.v (.sl .bool) p1))), (35, (.one (.v (.int .i64) p2))), (36, (.one (.v (.int .i64) p3)))] [(7, (.box 25 [(.v (.int .i64) p4), (.v (.int .i64) p5), (.v (.sl (.sl (.int .i64))) p6), (.v (.sl .bool) p7)])), (15, (.row 92 (.int .u64) p8 false))])
noncomputable def ancepsref28_Few.l7 (p0 : Int) (p1 : Int) (p2 : Int) (p3 : Int) (p4 : (List (List Int))) (p5 : (List Bool)) (p6 : Int) (p7 : Int) (p8 : (List (List Int))) (p9 : (List Bool)) : Option (Bool × Unit) := Go.Proofs.R.loopAt Go.Proofs.C28.ctx (Go.Proofs.R.Einf Go.Proofs.C28.ctx) 12 7 (.mk [(2, (.one (.ref 7 0))), (3, (.one (.ref 15 0))), (5, (.one (.v (.int .i64) p0))), (7, (.one (.v (.int .i64) p1)))] [(7, (.box 25 [(.v (.int .i64) p2), (.v (.int .i64) p3), (.v (.sl (.sl (.int .i64))) p4), (.v (.sl .bool) p5)])), (15, (.box 25 [(.v (.int .i64) p6), (.v (.int .i64) p7), (.v (.sl (.sl (.int .i64))) p8), (.v (.sl .bool) p9)]))])
noncomputable def difference_side.f1 (p0 : Int) (p1 : Int) (p2 : (List (List Int))) (p3 : (List Bool)) (p4 : Int) (p5 : Int) (p6 : (List (List Int))) (p7 : (List Bool)) : Option ((List ((Int × Int) × (Int × Int))) × Unit) := (Go.Proofs.R.Einf Go.Proofs.C28.ctx).call 54 [(.agg [(.v (.int .i64) p0), (.v (.int .i64) p1), (.v (.sl (.sl (.int .i64))) p2), (.v (.sl .bool) p3)]), (.agg [(.v (.int .i64) p4), (.v (.int .i64) p5), (.v (.sl (.sl (.int .i64))) p6), (.v (.sl .bool) p7)]), (.one (.clo 41 []))]
noncomputable def difference_apart.l3 (p0 : Int) (p1 : Int) (p2 : Int) (p3 : Int) (p4 : (List (List Int))) (p5 : (List Bool)) (p6 : Int) (p7 : Int) (p8 : (List (List Int))) (p9 : (List Bool)) (p10 : (List ((Int × Int) × (Int × Int)))) : Option ((List Int) × (Int × Unit)) := Go.Proofs.R.loopAt Go.Proofs.C28.ctx (Go.Proofs.R.Einf Go.Proofs.C28.ctx) 39 3 (.mk [(2, (.one (.ref 7 0))), (3, (.one (.ref 15 0))), (6, (.one (.row 23))), (15, (.one (.row 23))), (16, (.one (.v (.int .i64) p0))), (17, (.one (.v (.int .i64) p1)))] [(7, (.box 25 [(.v (.int .i64) p2), (.v (.int .i64) p3), (.v (.sl (.sl (.int .i64))) p4), (.v (.sl .bool) p5)])), (15, (.box 25 [(.v (.int .i64) p6), (.v (.int .i64) p7), (.v (.sl (.sl (.int .i64))) p8), (.v (.sl .bool) p9)])), (23, (.row 79 (.pair (.pair (.int .i64) (.int .i64)) (.pair (.int .i64) (.int .i64))) p10 false))])
noncomputable def ancepsref06_Valid.f (p0 : Int) (p1 : Int) (p2 : (List (List Int))) (p3 : (List Bool)) : Option (Int × Unit) := (Go.Proofs.R.Einf Go.Proofs.C28.ctx).call 69 [(.agg [(.v (.int .i64) p0), (.v (.int .i64) p1), (.v (.sl (.sl (.int .i64))) p2), (.v (.sl .bool) p3)])]
noncomputable def ancepsref28_tells.l3 (p0 : Int) (p1 : Int) (p2 : Int) (p3 : (List (List Int))) (p4 : (List Bool)) (p5 : Int) (p6 : Int) (p7 : (List (List Int))) (p8 : (List Bool)) (p9 : (List (Int × Int))) (p10 : (List (List Int))) : Option ((List Int) × (Int × Unit)) := Go.Proofs.R.loopAt Go.Proofs.C28.ctx (Go.Proofs.R.Einf Go.Proofs.C28.ctx) 45 3 (.mk [(2, (.one (.ref 7 0))), (3, (.one (.ref 15 0))), (6, (.one (.ref 23 0))), (7, (.one (.v (.int .i64) p0)))] [(7, (.box 25 [(.v (.int .i64) p1), (.v (.int .i64) p2), (.v (.sl (.sl (.int .i64))) p3), (.v (.sl .bool) p4)])), (15, (.box 25 [(.v (.int .i64) p5), (.v (.int .i64) p6), (.v (.sl (.sl (.int .i64))) p7), (.v (.sl .bool) p8)])), (23, (.box 72 [(.v (.sl (.pair (.int .i64) (.int .i64))) p9), (.v (.sl (.sl (.int .i64))) p10)]))])
noncomputable def difference_visit.f1 (p0 : (List ((Int × Int) × (Int × Int)))) (p1 : Int) (p2 : Int) (p3 : (List (List Int))) (p4 : (List Bool)) (p5 : Int) (p6 : Int) (p7 : (List (List Int))) (p8 : (List Bool)) : Option (Bool × Unit) := (Go.Proofs.R.Einf Go.Proofs.C28.ctx).call 53 [(.one (.v (.sl (.pair (.pair (.int .i64) (.int .i64)) (.pair (.int .i64) (.int .i64)))) p0)), (.one (.clo 68 [(.pref [(.v (.int .i64) p1), (.v (.int .i64) p2), (.v (.sl (.sl (.int .i64))) p3), (.v (.sl .bool) p4)] 0), (.pref [(.v (.int .i64) p5), (.v (.int .i64) p6), (.v (.sl (.sl (.int .i64))) p7), (.v (.sl .bool) p8)] 0)]))]
noncomputable def ancepsref28_within.l3 (p0 : (List (Int × Int))) (p1 : Int) (p2 : Int) (p3 : Int) (p4 : (List (List Int))) (p5 : (List Bool)) (p6 : Int) (p7 : Int) (p8 : (List (List Int))) (p9 : (List Bool)) : Option (Bool × Unit) := Go.Proofs.R.loopAt Go.Proofs.C28.ctx (Go.Proofs.R.Einf Go.Proofs.C28.ctx) 46 3 (.mk [(2, (.one (.ref 7 0))), (3, (.one (.ref 15 0))), (5, (.one (.v (.sl (.pair (.int .i64) (.int .i64))) p0))), (6, (.one (.v (.int .i64) p1)))] [(7, (.box 25 [(.v (.int .i64) p2), (.v (.int .i64) p3), (.v (.sl (.sl (.int .i64))) p4), (.v (.sl .bool) p5)])), (15, (.box 25 [(.v (.int .i64) p6), (.v (.int .i64) p7), (.v (.sl (.sl (.int .i64))) p8), (.v (.sl .bool) p9)]))])
noncomputable def difference_left.f (p0 : Int) (p1 : Int) : Option (Bool × Unit) := (Go.Proofs.R.Einf Go.Proofs.C28.ctx).call 55 [(.agg [(.v (.int .i64) p0), (.v (.int .i64) p1)])]
noncomputable def difference_side.l7 (p0 : Int) (p1 : Int) (p2 : Int) (p3 : (List (List Int))) (p4 : (List Bool)) (p5 : Int) (p6 : Int) (p7 : (List (List Int))) (p8 : (List Bool)) (p9 : (List ((Int × Int) × (Int × Int)))) (p10 : (List ((Int × Int) × Bool))) : Option ((List ((Int × Int) × (Int × Int))) × Unit) := Go.Proofs.R.loopAt Go.Proofs.C28.ctx (Go.Proofs.R.Einf Go.Proofs.C28.ctx) 54 7 (.mk [(2, (.one (.clo 55 []))), (3, (.one (.ref 7 0))), (4, (.one (.ref 15 0))), (8, (.one (.row 23))), (9, (.one (.mp 31))), (10, (.one (.v (.int .i64) p0)))] [(7, (.box 25 [(.v (.int .i64) p1), (.v (.int .i64) p2), (.v (.sl (.sl (.int .i64))) p3), (.v (.sl .bool) p4)])), (15, (.box 25 [(.v (.int .i64) p5), (.v (.int .i64) p6), (.v (.sl (.sl (.int .i64))) p7), (.v (.sl .bool) p8)])), (23, (.row 79 (.pair (.pair (.int .i64) (.int .i64)) (.pair (.int .i64) (.int .i64))) p9 false)), (31, (.mp 53 4 (.pair (.int .i64) (.int .i64)) .bool p10))])
noncomputable def difference_visit_70.f (p0 : (List ((Int × Int) × (Int × Int)))) (p1 : Int) (p2 : Int) (p3 : (List (List Int))) (p4 : (List Bool)) (p5 : Int) (p6 : Int) (p7 : (List (List Int))) (p8 : (List Bool)) : Option (Int × Unit) := (Go.Proofs.R.Einf Go.Proofs.C28.ctx).call 70 [(.one (.v (.sl (.pair (.pair (.int .i64) (.int .i64)) (.pair (.int .i64) (.int .i64)))) p0)), (.one (.clo 56 [(.pref [(.v (.int .i64) p1), (.v (.int .i64) p2), (.v (.sl (.sl (.int .i64))) p3), (.v (.sl .bool) p4)] 0), (.pref [(.v (.int .i64) p5), (.v (.int .i64) p6), (.v (.sl (.sl (.int .i64))) p7), (.v (.sl .bool) p8)] 0)]))]
noncomputable def ancepsref28_reach.l6 (p0 : Int) (p1 : Int) (p2 : Int) (p3 : (List (List Int))) (p4 : (List Bool)) (p5 : Int) (p6 : Int) (p7 : (List (List Int))) (p8 : (List Bool)) (p9 : (List (Int × Int))) (p10 : (List (List Int))) (p11 : (List (Int × Int))) (p12 : (List (List Int))) : Option ((List (Int × Int)) × ((List (List Int)) × Unit)) := Go.Proofs.R.loopAt Go.Proofs.C28.ctx (Go.Proofs.R.Einf Go.Proofs.C28.ctx) 47 6 (.mk [(2, (.one (.ref 7 0))), (3, (.one (.ref 15 0))), (4, (.one (.ref 23 0))), (5, (.one (.ref 31 0))), (6, (.one (.v (.int .i64) p0)))] [(7, (.box 25 [(.v (.int .i64) p1), (.v (.int .i64) p2), (.v (.sl (.sl (.int .i64))) p3), (.v (.sl .bool) p4)])), (15, (.box 25 [(.v (.int .i64) p5), (.v (.int .i64) p6), (.v (.sl (.sl (.int .i64))) p7), (.v (.sl .bool) p8)])), (23, (.box 72 [(.row 39), (.row 47)])), (31, (.box 72 [(.row 55), (.row 63)])), (39, (.row 53 (.pair (.int .i64) (.int .i64)) p9 false)), (47, (.row 28 (.sl (.int .i64)) p10 false)), (55, (.row 53 (.pair (.int .i64) (.int .i64)) p11 false)), (63, (.row 28 (.sl (.int .i64)) p12 false))])
noncomputable def ancepsref28_accepts.f (p0 : Int) (p1 : Int) (p2 : (List (List Int))) (p3 : (List Bool)) (p4 : Int) : Option (Bool × Unit) := (Go.Proofs.R.Einf Go.Proofs.C28.ctx).call 48 [(.agg [(.v (.int .i64) p0), (.v (.int .i64) p1), (.v (.sl (.sl (.int .i64))) p2), (.v (.sl .bool) p3)]), (.one (.v (.int .i64) p4))]
noncomputable def automaton_Valid.l7 (p0 : (List (List Int))) (p1 : Int) (p2 : Int) (p3 : Int) (p4 : Int) (p5 : (List (List Int))) (p6 : (List Bool)) (p7 : Int) : Option (Int × Unit) := Go.Proofs.R.loopAt Go.Proofs.C28.ctx (Go.Proofs.R.Einf Go.Proofs.C28.ctx) 57 7 (.mk [(1, (.one (.ref 7 0))), (3, (.one (.ref 15 0))), (47, (.one (.v (.sl (.sl (.int .i64))) p0))), (48, (.one (.v (.int .i64) p1))), (49, (.one (.v (.int .i64) p2)))] [(7, (.box 25 [(.v (.int .i64) p3), (.v (.int .i64) p4), (.v (.sl (.sl (.int .i64))) p5), (.v (.sl .bool) p6)])), (15, (.box 3 [(.v (.int .i64) p7)]))])
noncomputable def automaton_Run.l5 (p0 : Int) (p1 : (List Int)) (p2 : Int) (p3 : Int) (p4 : Int) (p5 : Int) (p6 : (List (List Int))) (p7 : (List Bool)) : Option (Int × Unit) := Go.Proofs.R.loopAt Go.Proofs.C28.ctx (Go.Proofs.R.Einf Go.Proofs.C28.ctx) 59 5 (.mk [(2, (.one (.ref 7 0))), (5, (.one (.v (.int .i64) p0))), (13, (.one (.v (.sl (.int .i64)) p1))), (14, (.one (.v (.int .i64) p2))), (15, (.one (.v (.int .i64) p3)))] [(7, (.box 25 [(.v (.int .i64) p4), (.v (.int .i64) p5), (.v (.sl (.sl (.int .i64))) p6), (.v (.sl .bool) p7)]))])
noncomputable def difference_Compare.l17 (p0 : Int) (p1 : Int) (p2 : Int) (p3 : Int) (p4 : Int) (p5 : Int) (p6 : Int) (p7 : (List (List Int))) (p8 : (List Bool)) (p9 : Int) (p10 : Int) (p11 : (List (List Int))) (p12 : (List Bool)) (p13 : Bool) (p14 : Bool) (p15 : Bool) (p16 : Bool) (p17 : Bool) (p18 : Bool) (p19 : (List ((Int × Int) × Int))) (p20 : Nat) (p21 : (List Nat)) (p22 : (List Int)) (p23 : (List Int)) (p24 : (List Int)) (p25 : (List Int)) (p26 : (List Int)) (p27 : (List Int)) (p28 : (List Int)) (p29 : (List Int)) (p30 : (List ((Int × Int) × Int))) : Option (Bool × (Bool × (Bool × ((List Int) × ((List Int) × ((List Int) × ((List Int) × (Int × Unit)))))))) := Go.Proofs.R.loopAt Go.Proofs.C28.ctx (Go.Proofs.R.Einf Go.Proofs.C28.ctx) 13 17 (.mk [(3, (.one (.ref 7 0))), (4, (.one (.ref 15 0))), (6, (.one (.ref 23 0))), (11, (.one (.ref 31 0))), (14, (.one (.v (.int .i64) p0))), (15, (.one (.v (.int .i64) p1))), (16, (.one (.v (.int .i64) p2))), (17, (.one (.mp 39))), (65, (.one (.v (.int .i64) p3))), (66, (.one (.v (.int .i64) p4))), (70, (.one (.ref 47 0)))] [(7, (.box 25 [(.v (.int .i64) p5), (.v (.int .i64) p6), (.v (.sl (.sl (.int .i64))) p7), (.v (.sl .bool) p8)])), (15, (.box 25 [(.v (.int .i64) p9), (.v (.int .i64) p10), (.v (.sl (.sl (.int .i64))) p11), (.v (.sl .bool) p12)])), (23, (.box 31 [(.v .bool p13), (.v .bool p14), (.v .bool p15), (.row 55), (.row 63), (.row 71), (.row 79)])), (31, (.box 31 [(.v .bool p16), (.v .bool p17), (.v .bool p18), (.row 87), (.row 95), (.row 103), (.row 111)])), (39, (.mp 53 2 (.pair (.int .i64) (.int .i64)) (.int .i64) p19)), (47, (.miter (.mp 119) p20 p21)), (55, (.row 3 (.int .i64) p22 false)), (63, (.row 2 (.int .i64) p23 false)), (71, (.row 2 (.int .i64) p24 false)), (79, (.row 2 (.int .i64) p25 false)), (87, (.row 3 (.int .i64) p26 false)), (95, (.row 2 (.int .i64) p27 false)), (103, (.row 2 (.int .i64) p28 false)), (111, (.row 2 (.int .i64) p29 false)), (119, (.mp 53 2 (.pair (.int .i64) (.int .i64)) (.int .i64) p30))])
noncomputable def ancepsref28_Compare.l18 (p0 : Int) (p1 : (List (Int × Int))) (p2 : Int) (p3 : Int) (p4 : Int) (p5 : Int) (p6 : Int) (p7 : Int) (p8 : Int) (p9 : (List (List Int))) (p10 : (List Bool)) (p11 : Int) (p12 : Int) (p13 : (List (List Int))) (p14 : (List Bool)) (p15 : Bool) (p16 : Bool) (p17 : Bool) (p18 : Bool) (p19 : Bool) (p20 : Bool) (p21 : (List Int)) (p22 : (List Int)) (p23 : (List Int)) (p24 : (List Int)) (p25 : (List Int)) (p26 : (List Int)) (p27 : (List Int)) (p28 : (List Int)) (p29 : (List Int)) (p30 : (List Int)) : Option (Bool × (Bool × (Bool × ((List Int) × ((List Int) × ((List Int) × ((List Int) × (Int × Unit)))))))) := Go.Proofs.R.loopAt Go.Proofs.C28.ctx (Go.Proofs.R.Einf Go.Proofs.C28.ctx) 14 18 (.mk [(2, (.one (.v (.int .i64) p0))), (3, (.one (.ref 7 0))), (4, (.one (.ref 15 0))), (6, (.one (.ref 23 0))), (11, (.one (.ref 31 0))), (12, (.one (.v (.sl (.pair (.int .i64) (.int .i64))) p1))), (13, (.one (.row 39))), (14, (.one (.v (.int .i64) p2))), (15, (.one (.v (.int .i64) p3))), (16, (.one (.v (.int .i64) p4))), (17, (.one (.v (.int .i64) p5))), (18, (.one (.row 47))), (19, (.one (.v (.int .i64) p6)))] [(7, (.box 25 [(.v (.int .i64) p7), (.v (.int .i64) p8), (.v (.sl (.sl (.int .i64))) p9), (.v (.sl .bool) p10)])), (15, (.box 25 [(.v (.int .i64) p11), (.v (.int .i64) p12), (.v (.sl (.sl (.int .i64))) p13), (.v (.sl .bool) p14)])), (23, (.box 31 [(.v .bool p15), (.v .bool p16), (.v .bool p17), (.row 55), (.row 63), (.row 71), (.row 79)])), (31, (.box 31 [(.v .bool p18), (.v .bool p19), (.v .bool p20), (.v (.sl (.int .i64)) p21), (.row 87), (.row 95), (.row 103)])), (39, (.row 2 (.int .i64) p22 false)), (47, (.row 2 (.int .i64) p23 false)), (55, (.row 3 (.int .i64) p24 false)), (63, (.row 2 (.int .i64) p25 false)), (71, (.row 2 (.int .i64) p26 false)), (79, (.row 2 (.int .i64) p27 false)), (87, (.row 2 (.int .i64) p28 false)), (95, (.row 2 (.int .i64) p29 false)), (103, (.row 2 (.int .i64) p30 false))])
noncomputable def ancepsref06_Equal.l4 (p0 : (List Int)) (p1 : (List Int)) (p2 : Int) : Option (Bool × Unit) := Go.Proofs.R.loopAt Go.Proofs.C28.ctx (Go.Proofs.R.Einf Go.Proofs.C28.ctx) 51 4 (.mk [(0, (.one (.v (.sl (.int .i64)) p0))), (1, (.one (.v (.sl (.int .i64)) p1))), (5, (.one (.v (.int .i64) p2)))] [])
noncomputable def ancepsref28_numbers.l4 (p0 : (List Int)) (p1 : (List Int)) (p2 : Int) : Option (Bool × Unit) := Go.Proofs.R.loopAt Go.Proofs.C28.ctx (Go.Proofs.R.Einf Go.Proofs.C28.ctx) 52 4 (.mk [(0, (.one (.v (.sl (.int .i64)) p0))), (1, (.one (.v (.sl (.int .i64)) p1))), (5, (.one (.v (.int .i64) p2)))] [])
noncomputable def ancepsref06_Made.l8 (p0 : Int) (p1 : Int) (p2 : Int) (p3 : Int) (p4 : (List Int)) (p5 : Int) (p6 : Int) (p7 : Int) (p8 : Int) (p9 : Int) (p10 : (List Int)) (p11 : (List (List Int))) (p12 : (List Bool)) (p13 : (List (List Int))) (p14 : (List Bool)) : Option (Int × (Int × ((List (List Int)) × ((List Bool) × Unit)))) := Go.Proofs.R.loopAt Go.Proofs.C28.ctx (Go.Proofs.R.Einf Go.Proofs.C28.ctx) 16 8 (.mk [(1, (.one (.ref 7 0))), (2, (.one (.ref 15 0))), (3, (.one (.ref 23 0))), (4, (.one (.v (.int .i64) p0))), (5, (.one (.v (.int .i64) p1))), (6, (.one (.row 31))), (7, (.one (.v (.int .i64) p2)))] [(7, (.box 40 [(.v (.int .u8) p3), (.v (.sl (.int .u8)) p4), (.v (.int .u16) p5)])), (15, (.box 25 [(.v (.int .i64) p6), (.v (.int .i64) p7), (.row 39), (.row 47)])), (23, (.box 25 [(.v (.int .i64) p8), (.v (.int .i64) p9), (.row 55), (.row 63)])), (31, (.row 3 (.int .i64) p10 false)), (39, (.row 28 (.sl (.int .i64)) p11 false)), (47, (.row 4 .bool p12 false)), (55, (.row 28 (.sl (.int .i64)) p13 false)), (63, (.row 4 .bool p14 false))])
noncomputable def difference_order.f (p0 : Int) (p1 : Int) (p2 : Int) (p3 : Int) : Option (Int × Unit) := (Go.Proofs.R.Einf Go.Proofs.C28.ctx).call 62 [(.agg [(.v (.int .i64) p0), (.v (.int .i64) p1)]), (.agg [(.v (.int .i64) p2), (.v (.int .i64) p3)])]
noncomputable def difference_CheckWithin.l11 (p0 : (List (Int × Int))) (p1 : Int) (p2 : Int) (p3 : Int) (p4 : Int) (p5 : (List (List Int))) (p6 : (List Bool)) (p7 : Int) (p8 : Int) (p9 : (List (List Int))) (p10 : (List Bool)) (p11 : (List (Int × Int))) : Option (Bool × Unit) := Go.Proofs.R.loopAt Go.Proofs.C28.ctx (Go.Proofs.R.Einf Go.Proofs.C28.ctx) 27 11 (.mk [(3, (.one (.ref 7 0))), (4, (.one (.ref 15 0))), (7, (.one (.clo 60 [(.ref 23 0)]))), (65, (.one (.v (.sl (.pair (.int .i64) (.int .i64))) p0))), (66, (.one (.v (.int .i64) p1))), (67, (.one (.v (.int .i64) p2)))] [(7, (.box 25 [(.v (.int .i64) p3), (.v (.int .i64) p4), (.v (.sl (.sl (.int .i64))) p5), (.v (.sl .bool) p6)])), (15, (.box 25 [(.v (.int .i64) p7), (.v (.int .i64) p8), (.v (.sl (.sl (.int .i64))) p9), (.v (.sl .bool) p10)])), (23, (.box 49 [(.v (.sl (.pair (.int .i64) (.int .i64))) p11)]))])
noncomputable def ancepsref28_index.l2 (p0 : (List (Int × Int))) (p1 : Int) (p2 : Int) (p3 : Int) : Option (Int × Unit) := Go.Proofs.R.loopAt Go.Proofs.C28.ctx (Go.Proofs.R.Einf Go.Proofs.C28.ctx) 49 2 (.mk [(0, (.one (.v (.sl (.pair (.int .i64) (.int .i64))) p0))), (3, (.one (.ref 7 0))), (5, (.one (.v (.int .i64) p1)))] [(7, (.box 53 [(.v (.int .i64) p2), (.v (.int .i64) p3)]))])
noncomputable def ancepsref28_less.f (p0 : Int) (p1 : Int) (p2 : Int) (p3 : Int) : Option (Bool × Unit) := (Go.Proofs.R.Einf Go.Proofs.C28.ctx).call 63 [(.agg [(.v (.int .i64) p0), (.v (.int .i64) p1)]), (.agg [(.v (.int .i64) p2), (.v (.int .i64) p3)])]
noncomputable def ancepsref28_CheckWithin.l10 (p0 : (List (Int × Int))) (p1 : Int) (p2 : Int) (p3 : Int) (p4 : Int) (p5 : (List (List Int))) (p6 : (List Bool)) (p7 : Int) (p8 : Int) (p9 : (List (List Int))) (p10 : (List Bool)) (p11 : Int) (p12 : Int) : Option (Bool × Unit) := Go.Proofs.R.loopAt Go.Proofs.C28.ctx (Go.Proofs.R.Einf Go.Proofs.C28.ctx) 29 10 (.mk [(2, (.one (.v (.sl (.pair (.int .i64) (.int .i64))) p0))), (3, (.one (.ref 7 0))), (4, (.one (.ref 15 0))), (7, (.one (.v (.int .i64) p1))), (8, (.one (.ref 23 0))), (9, (.one (.v (.int .i64) p2)))] [(7, (.box 25 [(.v (.int .i64) p3), (.v (.int .i64) p4), (.v (.sl (.sl (.int .i64))) p5), (.v (.sl .bool) p6)])), (15, (.box 25 [(.v (.int .i64) p7), (.v (.int .i64) p8), (.v (.sl (.sl (.int .i64))) p9), (.v (.sl .bool) p10)])), (23, (.box 53 [(.v (.int .i64) p11), (.v (.int .i64) p12)]))])
noncomputable def automaton_both.f (p0 : Int) (p1 : Int) (p2 : (List (List Int))) (p3 : (List Bool)) (p4 : Int) (p5 : Int) (p6 : (List (List Int))) (p7 : (List Bool)) : Option (Int × Unit) := (Go.Proofs.R.Einf Go.Proofs.C28.ctx).call 76 [(.agg [(.v (.int .i64) p0), (.v (.int .i64) p1), (.v (.sl (.sl (.int .i64))) p2), (.v (.sl .bool) p3)]), (.agg [(.v (.int .i64) p4), (.v (.int .i64) p5), (.v (.sl (.sl (.int .i64))) p6), (.v (.sl .bool) p7)])]
noncomputable def automaton_visits.f (p0 : Int) (p1 : Int) (p2 : (List (List Int))) (p3 : (List Bool)) (p4 : Int) (p5 : Int) (p6 : (List (List Int))) (p7 : (List Bool)) : Option ((List ((Int × Int) × (Int × Int))) × Unit) := (Go.Proofs.R.Einf Go.Proofs.C28.ctx).call 77 [(.agg [(.v (.int .i64) p0), (.v (.int .i64) p1), (.v (.sl (.sl (.int .i64))) p2), (.v (.sl .bool) p3)]), (.agg [(.v (.int .i64) p4), (.v (.int .i64) p5), (.v (.sl (.sl (.int .i64))) p6), (.v (.sl .bool) p7)])]
noncomputable def automaton_Product.l9 (p0 : Int) (p1 : Int) (p2 : Int) (p3 : Int) (p4 : Int) (p5 : (List (List Int))) (p6 : (List Bool)) (p7 : Int) (p8 : Int) (p9 : (List (List Int))) (p10 : (List Bool)) (p11 : Int) (p12 : Int) (p13 : (List ((Int × Int) × (Int × Int)))) (p14 : (List ((Int × Int) × Int))) (p15 : (List (List Int))) (p16 : (List Bool)) : Option (Int × (Int × ((List (List Int)) × ((List Bool) × (Int × Unit))))) := Go.Proofs.R.loopAt Go.Proofs.C28.ctx (Go.Proofs.R.Einf Go.Proofs.C28.ctx) 64 9 (.mk [(2, (.one (.v (.int .i64) p0))), (3, (.one (.ref 7 0))), (4, (.one (.ref 15 0))), (6, (.one (.ref 23 0))), (9, (.one (.row 31))), (10, (.one (.mp 39))), (43, (.one (.row 31))), (44, (.one (.v (.int .i64) p1))), (45, (.one (.v (.int .i64) p2)))] [(7, (.box 25 [(.v (.int .i64) p3), (.v (.int .i64) p4), (.v (.sl (.sl (.int .i64))) p5), (.v (.sl .bool) p6)])), (15, (.box 25 [(.v (.int .i64) p7), (.v (.int .i64) p8), (.v (.sl (.sl (.int .i64))) p9), (.v (.sl .bool) p10)])), (23, (.box 25 [(.v (.int .i64) p11), (.v (.int .i64) p12), (.row 47), (.row 55)])), (31, (.row 106 (.pair (.pair (.int .i64) (.int .i64)) (.pair (.int .i64) (.int .i64))) p13 false)), (39, (.mp 53 3 (.pair (.int .i64) (.int .i64)) (.int .i64) p14)), (47, (.row 28 (.sl (.int .i64)) p15 false)), (55, (.row 4 .bool p16 false))])
noncomputable def ancepsref28_Common.l11 (p0 : (List (Int × Int))) (p1 : Int) (p2 : Int) (p3 : Int) (p4 : Int) (p5 : (List (List Int))) (p6 : (List Bool)) (p7 : Int) (p8 : Int) (p9 : (List (List Int))) (p10 : (List Bool)) (p11 : Int) (p12 : Int) (p13 : Int) (p14 : Int) (p15 : (List Int)) (p16 : (List (List Int))) (p17 : (List Bool)) (p18 : (List (List Int))) (p19 : (List Bool)) : Option (Int × (Int × ((List (List Int)) × ((List Bool) × (Int × Unit))))) := Go.Proofs.R.loopAt Go.Proofs.C28.ctx (Go.Proofs.R.Einf Go.Proofs.C28.ctx) 31 11 (.mk [(2, (.one (.ref 7 0))), (3, (.one (.ref 15 0))), (4, (.one (.ref 23 0))), (7, (.one (.v (.sl (.pair (.int .i64) (.int .i64))) p0))), (8, (.one (.ref 31 0))), (9, (.one (.v (.int .i64) p1))), (10, (.one (.row 39))), (11, (.one (.v (.int .i64) p2)))] [(7, (.box 25 [(.v (.int .i64) p3), (.v (.int .i64) p4), (.v (.sl (.sl (.int .i64))) p5), (.v (.sl .bool) p6)])), (15, (.box 25 [(.v (.int .i64) p7), (.v (.int .i64) p8), (.v (.sl (.sl (.int .i64))) p9), (.v (.sl .bool) p10)])), (23, (.box 25 [(.v (.int .i64) p11), (.v (.int .i64) p12), (.row 47), (.row 55)])), (31, (.box 25 [(.v (.int .i64) p13), (.v (.int .i64) p14), (.row 63), (.row 71)])), (39, (.row 3 (.int .i64) p15 false)), (47, (.row 28 (.sl (.int .i64)) p16 false)), (55, (.row 4 .bool p17 false)), (63, (.row 28 (.sl (.int .i64)) p18 false)), (71, (.row 4 .bool p19 false))])
noncomputable def ancepsref06_Small.f (p0 : Int) (p1 : Int) (p2 : (List (List Int))) (p3 : (List Bool)) : Option (Int × (Int × ((List (List Int)) × ((List Bool) × (Bool × Unit))))) := (Go.Proofs.R.Einf Go.Proofs.C28.ctx).call 65 [(.agg [(.v (.int .i64) p0), (.v (.int .i64) p1), (.v (.sl (.sl (.int .i64))) p2), (.v (.sl .bool) p3)])]
noncomputable def ancepsref06_SameDFA.l9 (p0 : Int) (p1 : Int) (p2 : Int) (p3 : (List (List Int))) (p4 : (List Bool)) (p5 : Int) (p6 : Int) (p7 : (List (List Int))) (p8 : (List Bool)) : Option (Bool × Unit) := Go.Proofs.R.loopAt Go.Proofs.C28.ctx (Go.Proofs.R.Einf Go.Proofs.C28.ctx) 32 9 (.mk [(2, (.one (.ref 7 0))), (3, (.one (.ref 15 0))), (6, (.one (.v (.int .i64) p0)))] [(7, (.box 25 [(.v (.int .i64) p1), (.v (.int .i64) p2), (.v (.sl (.sl (.int .i64))) p3), (.v (.sl .bool) p4)])), (15, (.box 25 [(.v (.int .i64) p5), (.v (.int .i64) p6), (.v (.sl (.sl (.int .i64))) p7), (.v (.sl .bool) p8)]))])
noncomputable def automaton_Count.l16 (p0 : Int) (p1 : Int) (p2 : Int) (p3 : Int) (p4 : (List (List Int))) (p5 : (List Bool)) (p6 : (List Int)) : Option (Int × (Int × Unit)) := Go.Proofs.R.loopAt Go.Proofs.C28.ctx (Go.Proofs.R.Einf Go.Proofs.C28.ctx) 33 16 (.mk [(2, (.one (.ref 7 0))), (7, (.one (.row 15))), (46, (.one (.v (.int .i64) p0))), (47, (.one (.v (.int .i64) p1)))] [(7, (.box 25 [(.v (.int .i64) p2), (.v (.int .i64) p3), (.v (.sl (.sl (.int .i64))) p4), (.v (.sl .bool) p5)])), (15, (.row 92 (.int .u64) p6 false))])
noncomputable def difference_side.l7_1 (p0 : Int) (p1 : Int) (p2 : Int) (p3 : (List (List Int))) (p4 : (List Bool)) (p5 : Int) (p6 : Int) (p7 : (List (List Int))) (p8 : (List Bool)) (p9 : (List ((Int × Int) × (Int × Int)))) (p10 : (List ((Int × Int) × Bool))) : Option ((List ((Int × Int) × (Int × Int))) × Unit) := Go.Proofs.R.loopAt Go.Proofs.C28.ctx (Go.Proofs.R.Einf Go.Proofs.C28.ctx) 54 7 (.mk [(2, (.one (.clo 41 []))), (3, (.one (.ref 7 0))), (4, (.one (.ref 15 0))), (8, (.one (.row 23))), (9, (.one (.mp 31))), (10, (.one (.v (.int .i64) p0)))] [(7, (.box 25 [(.v (.int .i64) p1), (.v (.int .i64) p2), (.v (.sl (.sl (.int .i64))) p3), (.v (.sl .bool) p4)])), (15, (.box 25 [(.v (.int .i64) p5), (.v (.int .i64) p6), (.v (.sl (.sl (.int .i64))) p7), (.v (.sl .bool) p8)])), (23, (.row 79 (.pair (.pair (.int .i64) (.int .i64)) (.pair (.int .i64) (.int .i64))) p9 false)), (31, (.mp 53 4 (.pair (.int .i64) (.int .i64)) .bool p10))])
noncomputable def difference_accepts.f (p0 : Int) (p1 : Int) (p2 : (List (List Int))) (p3 : (List Bool)) (p4 : Int) : Option (Bool × Unit) := (Go.Proofs.R.Einf Go.Proofs.C28.ctx).call 42 [(.agg [(.v (.int .i64) p0), (.v (.int .i64) p1), (.v (.sl (.sl (.int .i64))) p2), (.v (.sl .bool) p3)]), (.one (.v (.int .i64) p4))]
noncomputable def difference_apart.l9 (p0 : Bool) (p1 : Int) (p2 : (List ((Int × Int) × (Int × Int)))) (p3 : (List Int)) : Option ((List Int) × (Int × Unit)) := Go.Proofs.R.loopAt Go.Proofs.C28.ctx (Go.Proofs.R.Einf Go.Proofs.C28.ctx) 39 9 (.mk [(6, (.one (.row 7))), (9, (.one (.v .bool p0))), (10, (.one (.row 15))), (11, (.one (.v (.int .i64) p1)))] [(7, (.row 79 (.pair (.pair (.int .i64) (.int .i64)) (.pair (.int .i64) (.int .i64))) p2 false)), (15, (.row 3 (.int .i64) p3 false))])
noncomputable def ancepsref06_Valid.l7 (p0 : Int) (p1 : Int) (p2 : Int) (p3 : Int) (p4 : (List (List Int))) (p5 : (List Bool)) : Option (Int × Unit) := Go.Proofs.R.loopAt Go.Proofs.C28.ctx (Go.Proofs.R.Einf Go.Proofs.C28.ctx) 69 7 (.mk [(1, (.one (.ref 7 0))), (3, (.one (.v (.int .i64) p0))), (4, (.one (.v (.int .i64) p1)))] [(7, (.box 25 [(.v (.int .i64) p2), (.v (.int .i64) p3), (.v (.sl (.sl (.int .i64))) p4), (.v (.sl .bool) p5)]))])
noncomputable def difference_visit_70.f1 (p0 : (List ((Int × Int) × (Int × Int)))) (p1 : Int) (p2 : Int) (p3 : (List (List Int))) (p4 : (List Bool)) (p5 : Int) (p6 : Int) (p7 : (List (List Int))) (p8 : (List Bool)) : Option (Int × Unit) := (Go.Proofs.R.Einf Go.Proofs.C28.ctx).call 70 [(.one (.v (.sl (.pair (.pair (.int .i64) (.int .i64)) (.pair (.int .i64) (.int .i64)))) p0)), (.one (.clo 68 [(.pref [(.v (.int .i64) p1), (.v (.int .i64) p2), (.v (.sl (.sl (.int .i64))) p3), (.v (.sl .bool) p4)] 0), (.pref [(.v (.int .i64) p5), (.v (.int .i64) p6), (.v (.sl (.sl (.int .i64))) p7), (.v (.sl .bool) p8)] 0)]))]
noncomputable def difference_side.l10 (p0 : Int) (p1 : Int) (p2 : Int) (p3 : Int) (p4 : Int) (p5 : (List (List Int))) (p6 : (List Bool)) (p7 : Int) (p8 : Int) (p9 : (List (List Int))) (p10 : (List Bool)) (p11 : (List ((Int × Int) × (Int × Int)))) (p12 : (List ((Int × Int) × Bool))) : Option ((List ((Int × Int) × (Int × Int))) × Unit) := Go.Proofs.R.loopAt Go.Proofs.C28.ctx (Go.Proofs.R.Einf Go.Proofs.C28.ctx) 54 10 (.mk [(2, (.one (.clo 55 []))), (3, (.one (.ref 7 0))), (4, (.one (.ref 15 0))), (8, (.one (.row 23))), (9, (.one (.mp 31))), (10, (.one (.v (.int .i64) p0))), (35, (.one (.v (.int .i64) p1))), (36, (.one (.v (.int .i64) p2)))] [(7, (.box 25 [(.v (.int .i64) p3), (.v (.int .i64) p4), (.v (.sl (.sl (.int .i64))) p5), (.v (.sl .bool) p6)])), (15, (.box 25 [(.v (.int .i64) p7), (.v (.int .i64) p8), (.v (.sl (.sl (.int .i64))) p9), (.v (.sl .bool) p10)])), (23, (.row 79 (.pair (.pair (.int .i64) (.int .i64)) (.pair (.int .i64) (.int .i64))) p11 false)), (31, (.mp 53 4 (.pair (.int .i64) (.int .i64)) .bool p12))])
noncomputable def difference_visit_70.l2 (p0 : (List ((Int × Int) × (Int × Int)))) (p1 : Int) (p2 : Int) (p3 : (List (List Int))) (p4 : (List Bool)) (p5 : Int) (p6 : Int) (p7 : (List (List Int))) (p8 : (List Bool)) (p9 : Int) (p10 : Int) : Option (Int × Unit) := Go.Proofs.R.loopAt Go.Proofs.C28.ctx (Go.Proofs.R.Einf Go.Proofs.C28.ctx) 70 2 (.mk [(0, (.one (.v (.sl (.pair (.pair (.int .i64) (.int .i64)) (.pair (.int .i64) (.int .i64)))) p0))), (1, (.one (.clo 56 [(.pref [(.v (.int .i64) p1), (.v (.int .i64) p2), (.v (.sl (.sl (.int .i64))) p3), (.v (.sl .bool) p4)] 0), (.pref [(.v (.int .i64) p5), (.v (.int .i64) p6), (.v (.sl (.sl (.int .i64))) p7), (.v (.sl .bool) p8)] 0)]))), (7, (.one (.v (.int .i64) p9))), (8, (.one (.v (.int .i64) p10)))] [])
noncomputable def ancepsref28_reach.l9 (p0 : Int) (p1 : Int) (p2 : Int) (p3 : Int) (p4 : (List (List Int))) (p5 : (List Bool)) (p6 : Int) (p7 : Int) (p8 : (List (List Int))) (p9 : (List Bool)) (p10 : (List (Int × Int))) (p11 : (List (List Int))) (p12 : (List (Int × Int))) (p13 : (List (List Int))) : Option ((List (Int × Int)) × ((List (List Int)) × Unit)) := Go.Proofs.R.loopAt Go.Proofs.C28.ctx (Go.Proofs.R.Einf Go.Proofs.C28.ctx) 47 9 (.mk [(2, (.one (.ref 7 0))), (3, (.one (.ref 15 0))), (4, (.one (.ref 23 0))), (5, (.one (.ref 31 0))), (6, (.one (.v (.int .i64) p0))), (7, (.one (.v (.int .i64) p1)))] [(7, (.box 25 [(.v (.int .i64) p2), (.v (.int .i64) p3), (.v (.sl (.sl (.int .i64))) p4), (.v (.sl .bool) p5)])), (15, (.box 25 [(.v (.int .i64) p6), (.v (.int .i64) p7), (.v (.sl (.sl (.int .i64))) p8), (.v (.sl .bool) p9)])), (23, (.box 72 [(.row 39), (.row 47)])), (31, (.box 72 [(.row 55), (.row 63)])), (39, (.row 53 (.pair (.int .i64) (.int .i64)) p10 false)), (47, (.row 28 (.sl (.int .i64)) p11 false)), (55, (.row 53 (.pair (.int .i64) (.int .i64)) p12 false)), (63, (.row 28 (.sl (.int .i64)) p13 false))])
noncomputable def slices_ContainsFunc_int_int.f (p0 : (List Int)) (p1 : Int) : Option (Bool × Unit) := (Go.Proofs.R.Einf Go.Proofs.C28.ctx).call 71 [(.one (.v (.sl (.int .i64)) p0)), (.one (.clo 72 [(.pref [(.v (.int .i64) p1)] 0)]))]
noncomputable def automaton_next.f (p0 : Int) (p1 : Int) (p2 : (List (List Int))) (p3 : (List Bool)) (p4 : Int) (p5 : Int) : Option (Int × Unit) := (Go.Proofs.R.Einf Go.Proofs.C28.ctx).call 73 [(.agg [(.v (.int .i64) p0), (.v (.int .i64) p1), (.v (.sl (.sl (.int .i64))) p2), (.v (.sl .bool) p3)]), (.one (.v (.int .i64) p4)), (.one (.v (.int .i64) p5))]
noncomputable def difference_Compare.l27 (p0 : Int) (p1 : Int) (p2 : Int) (p3 : Int) (p4 : Int) (p5 : Int) (p6 : Int) (p7 : Int) (p8 : Int) (p9 : Int) (p10 : (List (List Int))) (p11 : (List Bool)) (p12 : Int) (p13 : Int) (p14 : (List (List Int))) (p15 : (List Bool)) (p16 : Bool) (p17 : Bool) (p18 : Bool) (p19 : Bool) (p20 : Bool) (p21 : Bool) (p22 : (List ((Int × Int) × Int))) (p23 : Int) (p24 : Int) (p25 : Nat) (p26 : (List Nat)) (p27 : (List Int)) (p28 : (List Int)) (p29 : (List Int)) (p30 : (List Int)) (p31 : (List Int)) (p32 : (List Int)) (p33 : (List Int)) (p34 : (List Int)) (p35 : (List ((Int × Int) × Int))) : Option (Bool × (Bool × (Bool × ((List Int) × ((List Int) × ((List Int) × ((List Int) × (Int × Unit)))))))) := Go.Proofs.R.loopAt Go.Proofs.C28.ctx (Go.Proofs.R.Einf Go.Proofs.C28.ctx) 13 27 (.mk [(3, (.one (.ref 7 0))), (4, (.one (.ref 15 0))), (6, (.one (.ref 23 0))), (11, (.one (.ref 31 0))), (14, (.one (.v (.int .i64) p0))), (15, (.one (.v (.int .i64) p1))), (16, (.one (.v (.int .i64) p2))), (17, (.one (.mp 39))), (18, (.one (.ref 47 0))), (19, (.one (.v (.int .i64) p3))), (65, (.one (.v (.int .i64) p4))), (66, (.one (.v (.int .i64) p5))), (70, (.one (.ref 55 0))), (103, (.one (.v (.int .i64) p6))), (104, (.one (.v (.int .i64) p7)))] [(7, (.box 25 [(.v (.int .i64) p8), (.v (.int .i64) p9), (.v (.sl (.sl (.int .i64))) p10), (.v (.sl .bool) p11)])), (15, (.box 25 [(.v (.int .i64) p12), (.v (.int .i64) p13), (.v (.sl (.sl (.int .i64))) p14), (.v (.sl .bool) p15)])), (23, (.box 31 [(.v .bool p16), (.v .bool p17), (.v .bool p18), (.row 63), (.row 71), (.row 79), (.row 87)])), (31, (.box 31 [(.v .bool p19), (.v .bool p20), (.v .bool p21), (.row 95), (.row 103), (.row 111), (.row 119)])), (39, (.mp 53 2 (.pair (.int .i64) (.int .i64)) (.int .i64) p22)), (47, (.box 53 [(.v (.int .i64) p23), (.v (.int .i64) p24)])), (55, (.miter (.mp 127) p25 p26)), (63, (.row 3 (.int .i64) p27 false)), (71, (.row 2 (.int .i64) p28 false)), (79, (.row 2 (.int .i64) p29 false)), (87, (.row 2 (.int .i64) p30 false)), (95, (.row 3 (.int .i64) p31 false)), (103, (.row 2 (.int .i64) p32 false)), (111, (.row 2 (.int .i64) p33 false)), (119, (.row 2 (.int .i64) p34 false)), (127, (.mp 53 2 (.pair (.int .i64) (.int .i64)) (.int .i64) p35))])
noncomputable def ancepsref28_Compare.l28 (p0 : Int) (p1 : (List (Int × Int))) (p2 : Int) (p3 : Int) (p4 : Int) (p5 : Int) (p6 : Int) (p7 : Int) (p8 : Int) (p9 : Int) (p10 : (List (List Int))) (p11 : (List Bool)) (p12 : Int) (p13 : Int) (p14 : (List (List Int))) (p15 : (List Bool)) (p16 : Bool) (p17 : Bool) (p18 : Bool) (p19 : Bool) (p20 : Bool) (p21 : Bool) (p22 : (List Int)) (p23 : (List Int)) (p24 : (List Int)) (p25 : (List Int)) (p26 : (List Int)) (p27 : (List Int)) (p28 : (List Int)) (p29 : (List Int)) (p30 : (List Int)) (p31 : (List Int)) : Option (Bool × (Bool × (Bool × ((List Int) × ((List Int) × ((List Int) × ((List Int) × (Int × Unit)))))))) := Go.Proofs.R.loopAt Go.Proofs.C28.ctx (Go.Proofs.R.Einf Go.Proofs.C28.ctx) 14 28 (.mk [(2, (.one (.v (.int .i64) p0))), (3, (.one (.ref 7 0))), (4, (.one (.ref 15 0))), (6, (.one (.ref 23 0))), (11, (.one (.ref 31 0))), (12, (.one (.v (.sl (.pair (.int .i64) (.int .i64))) p1))), (13, (.one (.row 39))), (14, (.one (.v (.int .i64) p2))), (15, (.one (.v (.int .i64) p3))), (16, (.one (.v (.int .i64) p4))), (17, (.one (.v (.int .i64) p5))), (18, (.one (.row 47))), (19, (.one (.v (.int .i64) p6))), (22, (.one (.v (.int .i64) p7)))] [(7, (.box 25 [(.v (.int .i64) p8), (.v (.int .i64) p9), (.v (.sl (.sl (.int .i64))) p10), (.v (.sl .bool) p11)])), (15, (.box 25 [(.v (.int .i64) p12), (.v (.int .i64) p13), (.v (.sl (.sl (.int .i64))) p14), (.v (.sl .bool) p15)])), (23, (.box 31 [(.v .bool p16), (.v .bool p17), (.v .bool p18), (.row 55), (.row 63), (.row 71), (.row 79)])), (31, (.box 31 [(.v .bool p19), (.v .bool p20), (.v .bool p21), (.v (.sl (.int .i64)) p22), (.row 87), (.row 95), (.row 103)])), (39, (.row 2 (.int .i64) p23 false)), (47, (.row 2 (.int .i64) p24 false)), (55, (.row 3 (.int .i64) p25 false)), (63, (.row 2 (.int .i64) p26 false)), (71, (.row 2 (.int .i64) p27 false)), (79, (.row 2 (.int .i64) p28 false)), (87, (.row 2 (.int .i64) p29 false)), (95, (.row 2 (.int .i64) p30 false)), (103, (.row 2 (.int .i64) p31 false))])
noncomputable def cmp_Compare_int.f (p0 : Int) (p1 : Int) : Option (Int × Unit) := (Go.Proofs.R.Einf Go.Proofs.C28.ctx).call 75 [(.one (.v (.int .i64) p0)), (.one (.v (.int .i64) p1))]
noncomputable def cmp_Or_int.f (p0 : (List Int)) : Option (Int × Unit) := (Go.Proofs.R.Einf Go.Proofs.C28.ctx).call 74 [(.one (.v (.sl (.int .i64)) p0))]
noncomputable def difference_CheckWithin.l16 (p0 : (List (Int × Int))) (p1 : Int) (p2 : Int) (p3 : Int) (p4 : Int) (p5 : Int) (p6 : Int) (p7 : (List (List Int))) (p8 : (List Bool)) (p9 : Int) (p10 : Int) (p11 : (List (List Int))) (p12 : (List Bool)) (p13 : (List (Int × Int))) (p14 : Int) (p15 : Int) : Option (Bool × Unit) := Go.Proofs.R.loopAt Go.Proofs.C28.ctx (Go.Proofs.R.Einf Go.Proofs.C28.ctx) 27 16 (.mk [(3, (.one (.ref 7 0))), (4, (.one (.ref 15 0))), (7, (.one (.clo 60 [(.ref 23 0)]))), (11, (.one (.ref 31 0))), (65, (.one (.v (.sl (.pair (.int .i64) (.int .i64))) p0))), (66, (.one (.v (.int .i64) p1))), (67, (.one (.v (.int .i64) p2))), (83, (.one (.v (.int .i64) p3))), (84, (.one (.v (.int .i64) p4)))] [(7, (.box 25 [(.v (.int .i64) p5), (.v (.int .i64) p6), (.v (.sl (.sl (.int .i64))) p7), (.v (.sl .bool) p8)])), (15, (.box 25 [(.v (.int .i64) p9), (.v (.int .i64) p10), (.v (.sl (.sl (.int .i64))) p11), (.v (.sl .bool) p12)])), (23, (.box 49 [(.v (.sl (.pair (.int .i64) (.int .i64))) p13)])), (31, (.box 53 [(.v (.int .i64) p14), (.v (.int .i64) p15)]))])
noncomputable def difference_CheckWithin_1.f (p0 : Int) (p1 : Int) (p2 : (List (Int × Int))) : Option (Bool × Unit) := (Go.Proofs.R.Einf Go.Proofs.C28.ctx).call 60 [(.agg [(.v (.int .i64) p0), (.v (.int .i64) p1)]), (.one (.pref [(.v (.sl (.pair (.int .i64) (.int .i64))) p2)] 0))]
noncomputable def ancepsref28_next.f (p0 : Int) (p1 : Int) (p2 : (List (List Int))) (p3 : (List Bool)) (p4 : Int) (p5 : Int) : Option (Int × Unit) := (Go.Proofs.R.Einf Go.Proofs.C28.ctx).call 50 [(.agg [(.v (.int .i64) p0), (.v (.int .i64) p1), (.v (.sl (.sl (.int .i64))) p2), (.v (.sl .bool) p3)]), (.one (.v (.int .i64) p4)), (.one (.v (.int .i64) p5))]
noncomputable def automaton_visits.l4 (p0 : Int) (p1 : Int) (p2 : Int) (p3 : (List (List Int))) (p4 : (List Bool)) (p5 : Int) (p6 : Int) (p7 : (List (List Int))) (p8 : (List Bool)) (p9 : (List ((Int × Int) × (Int × Int)))) (p10 : (List ((Int × Int) × Bool))) : Option ((List ((Int × Int) × (Int × Int))) × Unit) := Go.Proofs.R.loopAt Go.Proofs.C28.ctx (Go.Proofs.R.Einf Go.Proofs.C28.ctx) 77 4 (.mk [(2, (.one (.ref 7 0))), (3, (.one (.ref 15 0))), (5, (.one (.row 23))), (6, (.one (.mp 31))), (7, (.one (.v (.int .i64) p0)))] [(7, (.box 25 [(.v (.int .i64) p1), (.v (.int .i64) p2), (.v (.sl (.sl (.int .i64))) p3), (.v (.sl .bool) p4)])), (15, (.box 25 [(.v (.int .i64) p5), (.v (.int .i64) p6), (.v (.sl (.sl (.int .i64))) p7), (.v (.sl .bool) p8)])), (23, (.row 106 (.pair (.pair (.int .i64) (.int .i64)) (.pair (.int .i64) (.int .i64))) p9 false)), (31, (.mp 53 4 (.pair (.int .i64) (.int .i64)) .bool p10))])
noncomputable def automaton_Product.l15 (p0 : Int) (p1 : Int) (p2 : Int) (p3 : Int) (p4 : Int) (p5 : (List (List Int))) (p6 : (List Bool)) (p7 : Int) (p8 : Int) (p9 : (List (List Int))) (p10 : (List Bool)) (p11 : Int) (p12 : Int) (p13 : (List ((Int × Int) × Int))) (p14 : Int) (p15 : Int) (p16 : (List ((Int × Int) × (Int × Int)))) (p17 : (List (List Int))) (p18 : (List Bool)) (p19 : (List (List Int))) (p20 : (List Bool)) : Option (Int × (Int × ((List (List Int)) × ((List Bool) × (Int × Unit))))) := Go.Proofs.R.loopAt Go.Proofs.C28.ctx (Go.Proofs.R.Einf Go.Proofs.C28.ctx) 64 15 (.mk [(2, (.one (.v (.int .i64) p0))), (3, (.one (.ref 7 0))), (4, (.one (.ref 15 0))), (6, (.one (.ref 23 0))), (10, (.one (.mp 31))), (13, (.one (.ref 39 0))), (58, (.one (.row 47))), (59, (.one (.v (.int .i64) p1))), (60, (.one (.v (.int .i64) p2)))] [(7, (.box 25 [(.v (.int .i64) p3), (.v (.int .i64) p4), (.v (.sl (.sl (.int .i64))) p5), (.v (.sl .bool) p6)])), (15, (.box 25 [(.v (.int .i64) p7), (.v (.int .i64) p8), (.v (.sl (.sl (.int .i64))) p9), (.v (.sl .bool) p10)])), (23, (.box 25 [(.v (.int .i64) p11), (.v (.int .i64) p12), (.row 55), (.row 63)])), (31, (.mp 53 3 (.pair (.int .i64) (.int .i64)) (.int .i64) p13)), (39, (.box 25 [(.v (.int .i64) p14), (.v (.int .i64) p15), (.row 71), (.row 79)])), (47, (.row 106 (.pair (.pair (.int .i64) (.int .i64)) (.pair (.int .i64) (.int .i64))) p16 false)), (55, (.row 28 (.sl (.int .i64)) p17 false)), (63, (.row 4 .bool p18 false)), (71, (.row 28 (.sl (.int .i64)) p19 false)), (79, (.row 4 .bool p20 false))])
noncomputable def ancepsref06_minimal.f (p0 : Int) (p1 : Int) (p2 : (List (List Int))) (p3 : (List Bool)) : Option (Int × (Int × ((List (List Int)) × ((List Bool) × Unit)))) := (Go.Proofs.R.Einf Go.Proofs.C28.ctx).call 79 [(.agg [(.v (.int .i64) p0), (.v (.int .i64) p1), (.v (.sl (.sl (.int .i64))) p2), (.v (.sl .bool) p3)])]
noncomputable def automaton_Count.l19 (p0 : Int) (p1 : Int) (p2 : (List (List Int))) (p3 : Int) (p4 : Int) (p5 : Int) (p6 : Int) (p7 : (List (List Int))) (p8 : (List Bool)) (p9 : (List Int)) (p10 : (List Int)) : Option (Int × (Int × Unit)) := Go.Proofs.R.loopAt Go.Proofs.C28.ctx (Go.Proofs.R.Einf Go.Proofs.C28.ctx) 33 19 (.mk [(2, (.one (.ref 7 0))), (7, (.one (.row 15))), (10, (.one (.row 23))), (46, (.one (.v (.int .i64) p0))), (47, (.one (.v (.int .i64) p1))), (53, (.one (.v (.sl (.sl (.int .i64))) p2))), (54, (.one (.v (.int .i64) p3))), (55, (.one (.v (.int .i64) p4)))] [(7, (.box 25 [(.v (.int .i64) p5), (.v (.int .i64) p6), (.v (.sl (.sl (.int .i64))) p7), (.v (.sl .bool) p8)])), (15, (.row 92 (.int .u64) p9 false)), (23, (.row 92 (.int .u64) p10 false))])
noncomputable def difference_side.l10_1 (p0 : Int) (p1 : Int) (p2 : Int) (p3 : Int) (p4 : Int) (p5 : (List (List Int))) (p6 : (List Bool)) (p7 : Int) (p8 : Int) (p9 : (List (List Int))) (p10 : (List Bool)) (p11 : (List ((Int × Int) × (Int × Int)))) (p12 : (List ((Int × Int) × Bool))) : Option ((List ((Int × Int) × (Int × Int))) × Unit) := Go.Proofs.R.loopAt Go.Proofs.C28.ctx (Go.Proofs.R.Einf Go.Proofs.C28.ctx) 54 10 (.mk [(2, (.one (.clo 41 []))), (3, (.one (.ref 7 0))), (4, (.one (.ref 15 0))), (8, (.one (.row 23))), (9, (.one (.mp 31))), (10, (.one (.v (.int .i64) p0))), (35, (.one (.v (.int .i64) p1))), (36, (.one (.v (.int .i64) p2)))] [(7, (.box 25 [(.v (.int .i64) p3), (.v (.int .i64) p4), (.v (.sl (.sl (.int .i64))) p5), (.v (.sl .bool) p6)])), (15, (.box 25 [(.v (.int .i64) p7), (.v (.int .i64) p8), (.v (.sl (.sl (.int .i64))) p9), (.v (.sl .bool) p10)])), (23, (.row 79 (.pair (.pair (.int .i64) (.int .i64)) (.pair (.int .i64) (.int .i64))) p11 false)), (31, (.mp 53 4 (.pair (.int .i64) (.int .i64)) .bool p12))])
noncomputable def ancepsref06_Valid.l12 (p0 : Int) (p1 : Int) (p2 : Int) (p3 : Int) (p4 : Int) (p5 : (List (List Int))) (p6 : (List Bool)) : Option (Int × Unit) := Go.Proofs.R.loopAt Go.Proofs.C28.ctx (Go.Proofs.R.Einf Go.Proofs.C28.ctx) 69 12 (.mk [(1, (.one (.ref 7 0))), (3, (.one (.v (.int .i64) p0))), (4, (.one (.v (.int .i64) p1))), (5, (.one (.v (.int .i64) p2)))] [(7, (.box 25 [(.v (.int .i64) p3), (.v (.int .i64) p4), (.v (.sl (.sl (.int .i64))) p5), (.v (.sl .bool) p6)]))])
noncomputable def difference_visit_70.l2_1 (p0 : (List ((Int × Int) × (Int × Int)))) (p1 : Int) (p2 : Int) (p3 : (List (List Int))) (p4 : (List Bool)) (p5 : Int) (p6 : Int) (p7 : (List (List Int))) (p8 : (List Bool)) (p9 : Int) (p10 : Int) : Option (Int × Unit) := Go.Proofs.R.loopAt Go.Proofs.C28.ctx (Go.Proofs.R.Einf Go.Proofs.C28.ctx) 70 2 (.mk [(0, (.one (.v (.sl (.pair (.pair (.int .i64) (.int .i64)) (.pair (.int .i64) (.int .i64)))) p0))), (1, (.one (.clo 68 [(.pref [(.v (.int .i64) p1), (.v (.int .i64) p2), (.v (.sl (.sl (.int .i64))) p3), (.v (.sl .bool) p4)] 0), (.pref [(.v (.int .i64) p5), (.v (.int .i64) p6), (.v (.sl (.sl (.int .i64))) p7), (.v (.sl .bool) p8)] 0)]))), (7, (.one (.v (.int .i64) p9))), (8, (.one (.v (.int .i64) p10)))] [])
noncomputable def difference_step.f (p0 : Int) (p1 : Int) (p2 : (List (List Int))) (p3 : (List Bool)) (p4 : Int) (p5 : Int) : Option (Int × Unit) := (Go.Proofs.R.Einf Go.Proofs.C28.ctx).call 43 [(.agg [(.v (.int .i64) p0), (.v (.int .i64) p1), (.v (.sl (.sl (.int .i64))) p2), (.v (.sl .bool) p3)]), (.one (.v (.int .i64) p4)), (.one (.v (.int .i64) p5))]
noncomputable def difference_Disjoint_1.f (p0 : Int) (p1 : Int) (p2 : Int) (p3 : Int) (p4 : Int) (p5 : Int) (p6 : (List (List Int))) (p7 : (List Bool)) (p8 : Int) (p9 : Int) (p10 : (List (List Int))) (p11 : (List Bool)) : Option (Bool × Unit) := (Go.Proofs.R.Einf Go.Proofs.C28.ctx).call 56 [(.agg [(.v (.int .i64) p0), (.v (.int .i64) p1), (.v (.int .i64) p2), (.v (.int .i64) p3)]), (.one (.pref [(.v (.int .i64) p4), (.v (.int .i64) p5), (.v (.sl (.sl (.int .i64))) p6), (.v (.sl .bool) p7)] 0)), (.one (.pref [(.v (.int .i64) p8), (.v (.int .i64) p9), (.v (.sl (.sl (.int .i64))) p10), (.v (.sl .bool) p11)] 0))]
noncomputable def slices_IndexFunc_int_int.f (p0 : (List Int)) (p1 : Int) : Option (Int × Unit) := (Go.Proofs.R.Einf Go.Proofs.C28.ctx).call 82 [(.one (.v (.sl (.int .i64)) p0)), (.one (.clo 72 [(.pref [(.v (.int .i64) p1)] 0)]))]
noncomputable def cmp_isNaN_int.f (p0 : Int) : Option (Bool × Unit) := (Go.Proofs.R.Einf Go.Proofs.C28.ctx).call 83 [(.one (.v (.int .i64) p0))]
noncomputable def cmp_Or_int.l3 (p0 : Int) (p1 : (List Int)) (p2 : Int) (p3 : Int) : Option (Int × Unit) := Go.Proofs.R.loopAt Go.Proofs.C28.ctx (Go.Proofs.R.Einf Go.Proofs.C28.ctx) 74 3 (.mk [(3, (.one (.v (.int .i64) p0))), (6, (.one (.v (.sl (.int .i64)) p1))), (7, (.one (.v (.int .i64) p2))), (8, (.one (.v (.int .i64) p3)))] [])
noncomputable def api_Pair_61.f (p0 : (List (Int × Int))) (p1 : Int) (p2 : Int) : Option (Int × (Bool × Unit)) := (Go.Proofs.R.Einf Go.Proofs.C28.ctx).call 61 [(.one (.v (.sl (.pair (.int .i64) (.int .i64))) p0)), (.agg [(.v (.int .i64) p1), (.v (.int .i64) p2)]), (.one (.clo 62 []))]
noncomputable def automaton_visits.l8 (p0 : Int) (p1 : Int) (p2 : Int) (p3 : Int) (p4 : Int) (p5 : (List (List Int))) (p6 : (List Bool)) (p7 : Int) (p8 : Int) (p9 : (List (List Int))) (p10 : (List Bool)) (p11 : (List ((Int × Int) × (Int × Int)))) (p12 : (List ((Int × Int) × Bool))) (p13 : Int) (p14 : Int) : Option ((List ((Int × Int) × (Int × Int))) × Unit) := Go.Proofs.R.loopAt Go.Proofs.C28.ctx (Go.Proofs.R.Einf Go.Proofs.C28.ctx) 77 8 (.mk [(2, (.one (.ref 7 0))), (3, (.one (.ref 15 0))), (5, (.one (.row 23))), (6, (.one (.mp 31))), (7, (.one (.v (.int .i64) p0))), (8, (.one (.ref 39 0))), (36, (.one (.v (.int .i64) p1))), (37, (.one (.v (.int .i64) p2)))] [(7, (.box 25 [(.v (.int .i64) p3), (.v (.int .i64) p4), (.v (.sl (.sl (.int .i64))) p5), (.v (.sl .bool) p6)])), (15, (.box 25 [(.v (.int .i64) p7), (.v (.int .i64) p8), (.v (.sl (.sl (.int .i64))) p9), (.v (.sl .bool) p10)])), (23, (.row 106 (.pair (.pair (.int .i64) (.int .i64)) (.pair (.int .i64) (.int .i64))) p11 false)), (31, (.mp 53 4 (.pair (.int .i64) (.int .i64)) .bool p12)), (39, (.box 53 [(.v (.int .i64) p13), (.v (.int .i64) p14)]))])
noncomputable def automaton_Product.l19 (p0 : Int) (p1 : Int) (p2 : Int) (p3 : Int) (p4 : Int) (p5 : Int) (p6 : Int) (p7 : (List (List Int))) (p8 : (List Bool)) (p9 : Int) (p10 : Int) (p11 : (List (List Int))) (p12 : (List Bool)) (p13 : Int) (p14 : Int) (p15 : (List ((Int × Int) × Int))) (p16 : Int) (p17 : Int) (p18 : Int) (p19 : Int) (p20 : Int) (p21 : Int) (p22 : (List Int)) (p23 : (List ((Int × Int) × (Int × Int)))) (p24 : (List (List Int))) (p25 : (List Bool)) (p26 : (List (List Int))) (p27 : (List Bool)) : Option (Int × (Int × ((List (List Int)) × ((List Bool) × (Int × Unit))))) := Go.Proofs.R.loopAt Go.Proofs.C28.ctx (Go.Proofs.R.Einf Go.Proofs.C28.ctx) 64 19 (.mk [(2, (.one (.v (.int .i64) p0))), (3, (.one (.ref 7 0))), (4, (.one (.ref 15 0))), (6, (.one (.ref 23 0))), (10, (.one (.mp 31))), (13, (.one (.ref 39 0))), (15, (.one (.ref 47 0))), (16, (.one (.row 55))), (58, (.one (.row 63))), (59, (.one (.v (.int .i64) p1))), (60, (.one (.v (.int .i64) p2))), (68, (.one (.v (.int .i64) p3))), (69, (.one (.v (.int .i64) p4)))] [(7, (.box 25 [(.v (.int .i64) p5), (.v (.int .i64) p6), (.v (.sl (.sl (.int .i64))) p7), (.v (.sl .bool) p8)])), (15, (.box 25 [(.v (.int .i64) p9), (.v (.int .i64) p10), (.v (.sl (.sl (.int .i64))) p11), (.v (.sl .bool) p12)])), (23, (.box 25 [(.v (.int .i64) p13), (.v (.int .i64) p14), (.row 71), (.row 79)])), (31, (.mp 53 3 (.pair (.int .i64) (.int .i64)) (.int .i64) p15)), (39, (.box 25 [(.v (.int .i64) p16), (.v (.int .i64) p17), (.row 87), (.row 95)])), (47, (.box 106 [(.v (.int .i64) p18), (.v (.int .i64) p19), (.v (.int .i64) p20), (.v (.int .i64) p21)])), (55, (.row 3 (.int .i64) p22 false)), (63, (.row 106 (.pair (.pair (.int .i64) (.int .i64)) (.pair (.int .i64) (.int .i64))) p23 false)), (71, (.row 28 (.sl (.int .i64)) p24 false)), (79, (.row 4 .bool p25 false)), (87, (.row 28 (.sl (.int .i64)) p26 false)), (95, (.row 4 .bool p27 false))])
noncomputable def automaton_minimal.f (p0 : Int) (p1 : Int) (p2 : (List (List Int))) (p3 : (List Bool)) : Option (Int × (Int × ((List (List Int)) × ((List Bool) × Unit)))) := (Go.Proofs.R.Einf Go.Proofs.C28.ctx).call 78 [(.agg [(.v (.int .i64) p0), (.v (.int .i64) p1), (.v (.sl (.sl (.int .i64))) p2), (.v (.sl .bool) p3)])]
noncomputable def ancepsref06_classes.f (p0 : Int) (p1 : Int) (p2 : (List (List Int))) (p3 : (List Bool)) : Option ((List Int) × Unit) := (Go.Proofs.R.Einf Go.Proofs.C28.ctx).call 85 [(.agg [(.v (.int .i64) p0), (.v (.int .i64) p1), (.v (.sl (.sl (.int .i64))) p2), (.v (.sl .bool) p3)])]
noncomputable def ancepsref06_minimal.l9 (p0 : Int) (p1 : Int) (p2 : Int) (p3 : (List (List Int))) (p4 : (List Bool)) (p5 : Int) (p6 : Int) (p7 : Int) (p8 : Int) (p9 : (List Int)) (p10 : (List Int)) (p11 : (List (Int × Int))) (p12 : (List (List Int))) (p13 : (List Bool)) (p14 : (List (List Int))) (p15 : (List Bool)) : Option (Int × (Int × ((List (List Int)) × ((List Bool) × Unit)))) := Go.Proofs.R.loopAt Go.Proofs.C28.ctx (Go.Proofs.R.Einf Go.Proofs.C28.ctx) 79 9 (.mk [(1, (.one (.ref 7 0))), (2, (.one (.ref 15 0))), (3, (.one (.ref 23 0))), (4, (.one (.row 31))), (5, (.one (.row 39))), (6, (.one (.mp 47))), (7, (.one (.v (.int .i64) p0)))] [(7, (.box 25 [(.v (.int .i64) p1), (.v (.int .i64) p2), (.v (.sl (.sl (.int .i64))) p3), (.v (.sl .bool) p4)])), (15, (.box 25 [(.v (.int .i64) p5), (.v (.int .i64) p6), (.row 55), (.row 63)])), (23, (.box 25 [(.v (.int .i64) p7), (.v (.int .i64) p8), (.row 71), (.row 79)])), (31, (.row 3 (.int .i64) p9 false)), (39, (.row 3 (.int .i64) p10 false)), (47, (.mp 3 3 (.int .i64) (.int .i64) p11)), (55, (.row 28 (.sl (.int .i64)) p12 false)), (63, (.row 4 .bool p13 false)), (71, (.row 28 (.sl (.int .i64)) p14 false)), (79, (.row 4 .bool p15 false))])
noncomputable def automaton_Count.l22 (p0 : Int) (p1 : Int) (p2 : Int) (p3 : (List (List Int))) (p4 : Int) (p5 : Int) (p6 : (List Int)) (p7 : Int) (p8 : Int) (p9 : Int) (p10 : Int) (p11 : (List (List Int))) (p12 : (List Bool)) (p13 : (List Int)) (p14 : (List Int)) : Option (Int × (Int × Unit)) := Go.Proofs.R.loopAt Go.Proofs.C28.ctx (Go.Proofs.R.Einf Go.Proofs.C28.ctx) 33 22 (.mk [(2, (.one (.ref 7 0))), (7, (.one (.row 15))), (10, (.one (.row 23))), (11, (.one (.v (.int .i64) p0))), (46, (.one (.v (.int .i64) p1))), (47, (.one (.v (.int .i64) p2))), (53, (.one (.v (.sl (.sl (.int .i64))) p3))), (54, (.one (.v (.int .i64) p4))), (55, (.one (.v (.int .i64) p5))), (60, (.one (.v (.sl (.int .i64)) p6))), (61, (.one (.v (.int .i64) p7))), (62, (.one (.v (.int .i64) p8)))] [(7, (.box 25 [(.v (.int .i64) p9), (.v (.int .i64) p10), (.v (.sl (.sl (.int .i64))) p11), (.v (.sl .bool) p12)])), (15, (.row 92 (.int .u64) p13 false)), (23, (.row 92 (.int .u64) p14 false))])
noncomputable def difference_within_1.f (p0 : Int) (p1 : Int) (p2 : Int) (p3 : Int) (p4 : Int) (p5 : Int) (p6 : (List (List Int))) (p7 : (List Bool)) (p8 : Int) (p9 : Int) (p10 : (List (List Int))) (p11 : (List Bool)) : Option (Bool × Unit) := (Go.Proofs.R.Einf Go.Proofs.C28.ctx).call 68 [(.agg [(.v (.int .i64) p0), (.v (.int .i64) p1), (.v (.int .i64) p2), (.v (.int .i64) p3)]), (.one (.pref [(.v (.int .i64) p4), (.v (.int .i64) p5), (.v (.sl (.sl (.int .i64))) p6), (.v (.sl .bool) p7)] 0)), (.one (.pref [(.v (.int .i64) p8), (.v (.int .i64) p9), (.v (.sl (.sl (.int .i64))) p10), (.v (.sl .bool) p11)] 0))]
noncomputable def slices_IndexFunc_int_int.l2 (p0 : (List Int)) (p1 : Int) (p2 : Int) (p3 : Int) : Option (Int × Unit) := Go.Proofs.R.loopAt Go.Proofs.C28.ctx (Go.Proofs.R.Einf Go.Proofs.C28.ctx) 82 2 (.mk [(0, (.one (.v (.sl (.int .i64)) p0))), (1, (.one (.clo 72 [(.pref [(.v (.int .i64) p1)] 0)]))), (7, (.one (.v (.int .i64) p2))), (8, (.one (.v (.int .i64) p3)))] [])
noncomputable def api_Pair_61.l3 (p0 : (List (Int × Int))) (p1 : Int) (p2 : Int) (p3 : Int) (p4 : Int) (p5 : Int) : Option (Int × (Bool × Unit)) := Go.Proofs.R.loopAt Go.Proofs.C28.ctx (Go.Proofs.R.Einf Go.Proofs.C28.ctx) 61 3 (.mk [(0, (.one (.v (.sl (.pair (.int .i64) (.int .i64))) p0))), (2, (.one (.clo 62 []))), (4, (.one (.ref 7 0))), (8, (.one (.v (.int .i64) p1))), (9, (.one (.v (.int .i64) p2))), (10, (.one (.v (.int .i64) p3)))] [(7, (.box 53 [(.v (.int .i64) p4), (.v (.int .i64) p5)]))])
noncomputable def automaton_classes.f (p0 : Int) (p1 : Int) (p2 : (List (List Int))) (p3 : (List Bool)) : Option ((List Int) × Unit) := (Go.Proofs.R.Einf Go.Proofs.C28.ctx).call 84 [(.agg [(.v (.int .i64) p0), (.v (.int .i64) p1), (.v (.sl (.sl (.int .i64))) p2), (.v (.sl .bool) p3)])]
noncomputable def automaton_minimal.l11 (p0 : Int) (p1 : Int) (p2 : Int) (p3 : (List (List Int))) (p4 : (List Bool)) (p5 : Int) (p6 : Int) (p7 : Int) (p8 : Int) (p9 : (List Int)) (p10 : (List (Int × Int))) (p11 : (List Int)) (p12 : (List (List Int))) (p13 : (List Bool)) (p14 : (List (List Int))) (p15 : (List Bool)) : Option (Int × (Int × ((List (List Int)) × ((List Bool) × Unit)))) := Go.Proofs.R.loopAt Go.Proofs.C28.ctx (Go.Proofs.R.Einf Go.Proofs.C28.ctx) 78 11 (.mk [(1, (.one (.ref 7 0))), (2, (.one (.ref 15 0))), (3, (.one (.ref 23 0))), (4, (.one (.row 31))), (5, (.one (.mp 39))), (6, (.one (.row 47))), (7, (.one (.v (.int .i64) p0)))] [(7, (.box 25 [(.v (.int .i64) p1), (.v (.int .i64) p2), (.v (.sl (.sl (.int .i64))) p3), (.v (.sl .bool) p4)])), (15, (.box 25 [(.v (.int .i64) p5), (.v (.int .i64) p6), (.row 55), (.row 63)])), (23, (.box 25 [(.v (.int .i64) p7), (.v (.int .i64) p8), (.row 71), (.row 79)])), (31, (.row 3 (.int .i64) p9 false)), (39, (.mp 3 3 (.int .i64) (.int .i64) p10)), (47, (.row 3 (.int .i64) p11 false)), (55, (.row 28 (.sl (.int .i64)) p12 false)), (63, (.row 4 .bool p13 false)), (71, (.row 28 (.sl (.int .i64)) p14 false)), (79, (.row 4 .bool p15 false))])
noncomputable def ancepsref06_Live.f (p0 : Int) (p1 : Int) (p2 : (List (List Int))) (p3 : (List Bool)) : Option ((List Bool) × Unit) := (Go.Proofs.R.Einf Go.Proofs.C28.ctx).call 97 [(.agg [(.v (.int .i64) p0), (.v (.int .i64) p1), (.v (.sl (.sl (.int .i64))) p2), (.v (.sl .bool) p3)])]
noncomputable def ancepsref06_classes.l4 (p0 : Int) (p1 : Int) (p2 : Int) (p3 : (List (List Int))) (p4 : (List Bool)) (p5 : (List Bool)) (p6 : (List Int)) : Option ((List Int) × Unit) := Go.Proofs.R.loopAt Go.Proofs.C28.ctx (Go.Proofs.R.Einf Go.Proofs.C28.ctx) 85 4 (.mk [(1, (.one (.ref 7 0))), (3, (.one (.row 15))), (4, (.one (.row 23))), (5, (.one (.v (.int .i64) p0)))] [(7, (.box 25 [(.v (.int .i64) p1), (.v (.int .i64) p2), (.v (.sl (.sl (.int .i64))) p3), (.v (.sl .bool) p4)])), (15, (.row 4 .bool p5 false)), (23, (.row 3 (.int .i64) p6 false))])
noncomputable def ancepsref06_minimal.l13 (p0 : Int) (p1 : Int) (p2 : Int) (p3 : Int) (p4 : (List (List Int))) (p5 : (List Bool)) (p6 : Int) (p7 : Int) (p8 : Int) (p9 : Int) (p10 : (List Int)) (p11 : (List Int)) (p12 : (List (Int × Int))) (p13 : (List Int)) (p14 : (List (List Int))) (p15 : (List Bool)) (p16 : (List (List Int))) (p17 : (List Bool)) : Option (Int × (Int × ((List (List Int)) × ((List Bool) × Unit)))) := Go.Proofs.R.loopAt Go.Proofs.C28.ctx (Go.Proofs.R.Einf Go.Proofs.C28.ctx) 79 13 (.mk [(1, (.one (.ref 7 0))), (2, (.one (.ref 15 0))), (3, (.one (.ref 23 0))), (4, (.one (.row 31))), (5, (.one (.row 39))), (6, (.one (.mp 47))), (7, (.one (.v (.int .i64) p0))), (8, (.one (.row 55))), (9, (.one (.v (.int .i64) p1)))] [(7, (.box 25 [(.v (.int .i64) p2), (.v (.int .i64) p3), (.v (.sl (.sl (.int .i64))) p4), (.v (.sl .bool) p5)])), (15, (.box 25 [(.v (.int .i64) p6), (.v (.int .i64) p7), (.row 63), (.row 71)])), (23, (.box 25 [(.v (.int .i64) p8), (.v (.int .i64) p9), (.row 79), (.row 87)])), (31, (.row 3 (.int .i64) p10 false)), (39, (.row 3 (.int .i64) p11 false)), (47, (.mp 3 3 (.int .i64) (.int .i64) p12)), (55, (.row 3 (.int .i64) p13 false)), (63, (.row 28 (.sl (.int .i64)) p14 false)), (71, (.row 4 .bool p15 false)), (79, (.row 28 (.sl (.int .i64)) p16 false)), (87, (.row 4 .bool p17 false))])
noncomputable def automaton_Valid_1.f (p0 : Int) (p1 : Int) : Option (Bool × Unit) := (Go.Proofs.R.Einf Go.Proofs.C28.ctx).call 72 [(.one (.v (.int .i64) p0)), (.one (.pref [(.v (.int .i64) p1)] 0))]
noncomputable def automaton_useful.f (p0 : Int) (p1 : Int) (p2 : (List (List Int))) (p3 : (List Bool)) : Option ((List Bool) × Unit) := (Go.Proofs.R.Einf Go.Proofs.C28.ctx).call 96 [(.agg [(.v (.int .i64) p0), (.v (.int .i64) p1), (.v (.sl (.sl (.int .i64))) p2), (.v (.sl .bool) p3)])]
noncomputable def automaton_classes.l4 (p0 : Int) (p1 : Int) (p2 : Int) (p3 : Int) (p4 : (List (List Int))) (p5 : (List Bool)) (p6 : (List Bool)) (p7 : (List Int)) : Option ((List Int) × Unit) := Go.Proofs.R.loopAt Go.Proofs.C28.ctx (Go.Proofs.R.Einf Go.Proofs.C28.ctx) 84 4 (.mk [(1, (.one (.ref 7 0))), (3, (.one (.row 15))), (4, (.one (.row 23))), (21, (.one (.v (.int .i64) p0))), (22, (.one (.v (.int .i64) p1)))] [(7, (.box 25 [(.v (.int .i64) p2), (.v (.int .i64) p3), (.v (.sl (.sl (.int .i64))) p4), (.v (.sl .bool) p5)])), (15, (.row 4 .bool p6 false)), (23, (.row 3 (.int .i64) p7 false))])
noncomputable def automaton_minimal.l16 (p0 : Int) (p1 : Int) (p2 : (List Int)) (p3 : Int) (p4 : Int) (p5 : Int) (p6 : Int) (p7 : (List (List Int))) (p8 : (List Bool)) (p9 : Int) (p10 : Int) (p11 : Int) (p12 : Int) (p13 : (List Int)) (p14 : (List (Int × Int))) (p15 : (List Int)) (p16 : (List Int)) (p17 : (List (List Int))) (p18 : (List Bool)) (p19 : (List (List Int))) (p20 : (List Bool)) : Option (Int × (Int × ((List (List Int)) × ((List Bool) × Unit)))) := Go.Proofs.R.loopAt Go.Proofs.C28.ctx (Go.Proofs.R.Einf Go.Proofs.C28.ctx) 78 16 (.mk [(1, (.one (.ref 7 0))), (2, (.one (.ref 15 0))), (3, (.one (.ref 23 0))), (4, (.one (.row 31))), (5, (.one (.mp 39))), (6, (.one (.row 47))), (7, (.one (.v (.int .i64) p0))), (8, (.one (.v (.int .i64) p1))), (9, (.one (.row 55))), (58, (.one (.v (.sl (.int .i64)) p2))), (59, (.one (.v (.int .i64) p3))), (60, (.one (.v (.int .i64) p4)))] [(7, (.box 25 [(.v (.int .i64) p5), (.v (.int .i64) p6), (.v (.sl (.sl (.int .i64))) p7), (.v (.sl .bool) p8)])), (15, (.box 25 [(.v (.int .i64) p9), (.v (.int .i64) p10), (.row 63), (.row 71)])), (23, (.box 25 [(.v (.int .i64) p11), (.v (.int .i64) p12), (.row 79), (.row 87)])), (31, (.row 3 (.int .i64) p13 false)), (39, (.mp 3 3 (.int .i64) (.int .i64) p14)), (47, (.row 3 (.int .i64) p15 false)), (55, (.row 3 (.int .i64) p16 false)), (63, (.row 28 (.sl (.int .i64)) p17 false)), (71, (.row 4 .bool p18 false)), (79, (.row 28 (.sl (.int .i64)) p19 false)), (87, (.row 4 .bool p20 false))])
noncomputable def ancepsref06_Live.l3 (p0 : Bool) (p1 : Int) (p2 : Int) (p3 : (List (List Int))) (p4 : (List Bool)) (p5 : (List Bool)) : Option ((List Bool) × Unit) := Go.Proofs.R.loopAt Go.Proofs.C28.ctx (Go.Proofs.R.Einf Go.Proofs.C28.ctx) 97 3 (.mk [(1, (.one (.ref 7 0))), (3, (.one (.row 15))), (4, (.one (.v .bool p0)))] [(7, (.box 25 [(.v (.int .i64) p1), (.v (.int .i64) p2), (.v (.sl (.sl (.int .i64))) p3), (.v (.sl .bool) p4)])), (15, (.row 4 .bool p5 false))])
noncomputable def ancepsref06_classes.l11 (p0 : Int) (p1 : Int) (p2 : Int) (p3 : (List (List Int))) (p4 : (List Bool)) (p5 : (List Bool)) (p6 : (List Int)) : Option ((List Int) × Unit) := Go.Proofs.R.loopAt Go.Proofs.C28.ctx (Go.Proofs.R.Einf Go.Proofs.C28.ctx) 85 11 (.mk [(1, (.one (.ref 7 0))), (3, (.one (.row 15))), (4, (.one (.row 23))), (6, (.one (.v (.int .i64) p0)))] [(7, (.box 25 [(.v (.int .i64) p1), (.v (.int .i64) p2), (.v (.sl (.sl (.int .i64))) p3), (.v (.sl .bool) p4)])), (15, (.row 4 .bool p5 false)), (23, (.row 3 (.int .i64) p6 false))])
noncomputable def automaton_useful.l3 (p0 : (List (List Int))) (p1 : Int) (p2 : Int) (p3 : Int) (p4 : Int) (p5 : (List (List Int))) (p6 : (List Bool)) (p7 : (List (List Int))) : Option ((List Bool) × Unit) := Go.Proofs.R.loopAt Go.Proofs.C28.ctx (Go.Proofs.R.Einf Go.Proofs.C28.ctx) 96 3 (.mk [(1, (.one (.ref 7 0))), (3, (.one (.row 15))), (20, (.one (.v (.sl (.sl (.int .i64))) p0))), (21, (.one (.v (.int .i64) p1))), (22, (.one (.v (.int .i64) p2)))] [(7, (.box 25 [(.v (.int .i64) p3), (.v (.int .i64) p4), (.v (.sl (.sl (.int .i64))) p5), (.v (.sl .bool) p6)])), (15, (.rows 28 3 (.int .i64) p7 .full))])
noncomputable def automaton_classes.l12 (p0 : Int) (p1 : Int) (p2 : Int) (p3 : (List (List Int))) (p4 : (List Bool)) (p5 : (List Int)) : Option ((List Int) × Unit) := Go.Proofs.R.loopAt Go.Proofs.C28.ctx (Go.Proofs.R.Einf Go.Proofs.C28.ctx) 84 12 (.mk [(1, (.one (.ref 7 0))), (4, (.one (.row 15))), (6, (.one (.v (.int .i64) p0)))] [(7, (.box 25 [(.v (.int .i64) p1), (.v (.int .i64) p2), (.v (.sl (.sl (.int .i64))) p3), (.v (.sl .bool) p4)])), (15, (.row 3 (.int .i64) p5 false))])
noncomputable def ancepsref06_Live.l6 (p0 : Bool) (p1 : Int) (p2 : Int) (p3 : Int) (p4 : (List (List Int))) (p5 : (List Bool)) (p6 : (List Bool)) : Option ((List Bool) × Unit) := Go.Proofs.R.loopAt Go.Proofs.C28.ctx (Go.Proofs.R.Einf Go.Proofs.C28.ctx) 97 6 (.mk [(1, (.one (.ref 7 0))), (3, (.one (.row 15))), (4, (.one (.v .bool p0))), (5, (.one (.v (.int .i64) p1)))] [(7, (.box 25 [(.v (.int .i64) p2), (.v (.int .i64) p3), (.v (.sl (.sl (.int .i64))) p4), (.v (.sl .bool) p5)])), (15, (.row 4 .bool p6 false))])
noncomputable def ancepsref06_classes.l14 (p0 : Int) (p1 : Int) (p2 : Int) (p3 : Int) (p4 : (List (List Int))) (p5 : (List Bool)) (p6 : (List Bool)) (p7 : (List Int)) (p8 : (List Int)) (p9 : (List (List Int))) : Option ((List Int) × Unit) := Go.Proofs.R.loopAt Go.Proofs.C28.ctx (Go.Proofs.R.Einf Go.Proofs.C28.ctx) 85 14 (.mk [(1, (.one (.ref 7 0))), (3, (.one (.row 15))), (4, (.one (.row 23))), (6, (.one (.v (.int .i64) p0))), (7, (.one (.row 31))), (8, (.one (.row 39))), (9, (.one (.v (.int .i64) p1)))] [(7, (.box 25 [(.v (.int .i64) p2), (.v (.int .i64) p3), (.v (.sl (.sl (.int .i64))) p4), (.v (.sl .bool) p5)])), (15, (.row 4 .bool p6 false)), (23, (.row 3 (.int .i64) p7 false)), (31, (.row 3 (.int .i64) p8 false)), (39, (.row 28 (.sl (.int .i64)) p9 false))])
noncomputable def automaton_useful.l6 (p0 : Int) (p1 : (List (List Int))) (p2 : Int) (p3 : Int) (p4 : (List Int)) (p5 : Int) (p6 : Int) (p7 : Int) (p8 : Int) (p9 : (List (List Int))) (p10 : (List Bool)) (p11 : (List (List Int))) : Option ((List Bool) × Unit) := Go.Proofs.R.loopAt Go.Proofs.C28.ctx (Go.Proofs.R.Einf Go.Proofs.C28.ctx) 96 6 (.mk [(1, (.one (.ref 7 0))), (3, (.one (.row 15))), (4, (.one (.v (.int .i64) p0))), (20, (.one (.v (.sl (.sl (.int .i64))) p1))), (21, (.one (.v (.int .i64) p2))), (22, (.one (.v (.int .i64) p3))), (27, (.one (.v (.sl (.int .i64)) p4))), (28, (.one (.v (.int .i64) p5))), (29, (.one (.v (.int .i64) p6)))] [(7, (.box 25 [(.v (.int .i64) p7), (.v (.int .i64) p8), (.v (.sl (.sl (.int .i64))) p9), (.v (.sl .bool) p10)])), (15, (.rows 28 3 (.int .i64) p11 .full))])
noncomputable def automaton_useful.l15 (p0 : (List Bool)) (p1 : Int) (p2 : Int) (p3 : (List (List Int))) (p4 : (List Bool)) (p5 : (List Int)) : Option ((List Bool) × Unit) := Go.Proofs.R.loopAt Go.Proofs.C28.ctx (Go.Proofs.R.Einf Go.Proofs.C28.ctx) 96 15 (.mk [(3, (.one (.row 7))), (8, (.one (.row 15))), (9, (.one (.row 23))), (52, (.one (.v (.sl .bool) p0))), (53, (.one (.v (.int .i64) p1))), (54, (.one (.v (.int .i64) p2)))] [(7, (.rows 28 3 (.int .i64) p3 .full)), (15, (.row 4 .bool p4 false)), (23, (.row 3 (.int .i64) p5 false))])
noncomputable def automaton_classes.l15 (p0 : Int) (p1 : (List (List Int))) (p2 : Int) (p3 : Int) (p4 : Int) (p5 : Int) (p6 : (List (List Int))) (p7 : (List Bool)) (p8 : (List Int)) (p9 : (List ((List Int) × Int))) (p10 : (List Int)) : Option ((List Int) × Unit) := Go.Proofs.R.loopAt Go.Proofs.C28.ctx (Go.Proofs.R.Einf Go.Proofs.C28.ctx) 84 15 (.mk [(1, (.one (.ref 7 0))), (4, (.one (.row 15))), (6, (.one (.v (.int .i64) p0))), (7, (.one (.mp 23))), (8, (.one (.row 31))), (46, (.one (.v (.sl (.sl (.int .i64))) p1))), (47, (.one (.v (.int .i64) p2))), (48, (.one (.v (.int .i64) p3)))] [(7, (.box 25 [(.v (.int .i64) p4), (.v (.int .i64) p5), (.v (.sl (.sl (.int .i64))) p6), (.v (.sl .bool) p7)])), (15, (.row 3 (.int .i64) p8 false)), (23, (.mp 125 3 (.arr 9 (.int .i64)) (.int .i64) p9)), (31, (.row 3 (.int .i64) p10 false))])
noncomputable def ancepsref06_Live.l9 (p0 : Bool) (p1 : Int) (p2 : Int) (p3 : Int) (p4 : Int) (p5 : (List (List Int))) (p6 : (List Bool)) (p7 : (List Bool)) : Option ((List Bool) × Unit) := Go.Proofs.R.loopAt Go.Proofs.C28.ctx (Go.Proofs.R.Einf Go.Proofs.C28.ctx) 97 9 (.mk [(1, (.one (.ref 7 0))), (3, (.one (.row 15))), (4, (.one (.v .bool p0))), (5, (.one (.v (.int .i64) p1))), (6, (.one (.v (.int .i64) p2)))] [(7, (.box 25 [(.v (.int .i64) p3), (.v (.int .i64) p4), (.v (.sl (.sl (.int .i64))) p5), (.v (.sl .bool) p6)])), (15, (.row 4 .bool p7 false))])
noncomputable def ancepsref06_classes.l19 (p0 : Int) (p1 : Int) (p2 : Int) (p3 : Int) (p4 : Int) (p5 : (List (List Int))) (p6 : (List Bool)) (p7 : (List Bool)) (p8 : (List Int)) (p9 : (List Int)) (p10 : (List (List Int))) (p11 : (List Int)) : Option ((List Int) × Unit) := Go.Proofs.R.loopAt Go.Proofs.C28.ctx (Go.Proofs.R.Einf Go.Proofs.C28.ctx) 85 19 (.mk [(1, (.one (.ref 7 0))), (3, (.one (.row 15))), (4, (.one (.row 23))), (6, (.one (.v (.int .i64) p0))), (7, (.one (.row 31))), (8, (.one (.row 39))), (9, (.one (.v (.int .i64) p1))), (10, (.one (.row 47))), (11, (.one (.v (.int .i64) p2)))] [(7, (.box 25 [(.v (.int .i64) p3), (.v (.int .i64) p4), (.v (.sl (.sl (.int .i64))) p5), (.v (.sl .bool) p6)])), (15, (.row 4 .bool p7 false)), (23, (.row 3 (.int .i64) p8 false)), (31, (.row 3 (.int .i64) p9 false)), (39, (.row 28 (.sl (.int .i64)) p10 false)), (47, (.row 3 (.int .i64) p11 false))])
noncomputable def automaton_useful.l21 (p0 : (List (List Int))) (p1 : (List Bool)) (p2 : (List Int)) : Option ((List Bool) × Unit) := Go.Proofs.R.loopAt Go.Proofs.C28.ctx (Go.Proofs.R.Einf Go.Proofs.C28.ctx) 96 21 (.mk [(3, (.one (.row 7))), (8, (.one (.row 15))), (9, (.one (.row 23)))] [(7, (.rows 28 3 (.int .i64) p0 .full)), (15, (.row 4 .bool p1 false)), (23, (.row 3 (.int .i64) p2 false))])
noncomputable def automaton_classes.l20 (p0 : Int) (p1 : Int) (p2 : (List (List Int))) (p3 : Int) (p4 : Int) (p5 : (List Int)) (p6 : Int) (p7 : Int) (p8 : Int) (p9 : Int) (p10 : (List (List Int))) (p11 : (List Bool)) (p12 : (List Int)) (p13 : (List ((List Int) × Int))) (p14 : (List Int)) (p15 : (List Int)) : Option ((List Int) × Unit) := Go.Proofs.R.loopAt Go.Proofs.C28.ctx (Go.Proofs.R.Einf Go.Proofs.C28.ctx) 84 20 (.mk [(1, (.one (.ref 7 0))), (4, (.one (.row 15))), (6, (.one (.v (.int .i64) p0))), (7, (.one (.mp 23))), (8, (.one (.row 31))), (9, (.one (.v (.int .i64) p1))), (11, (.one (.ref 39 0))), (46, (.one (.v (.sl (.sl (.int .i64))) p2))), (47, (.one (.v (.int .i64) p3))), (48, (.one (.v (.int .i64) p4))), (63, (.one (.v (.sl (.int .i64)) p5))), (64, (.one (.v (.int .i64) p6))), (65, (.one (.v (.int .i64) p7)))] [(7, (.box 25 [(.v (.int .i64) p8), (.v (.int .i64) p9), (.v (.sl (.sl (.int .i64))) p10), (.v (.sl .bool) p11)])), (15, (.row 3 (.int .i64) p12 false)), (23, (.mp 125 3 (.arr 9 (.int .i64)) (.int .i64) p13)), (31, (.row 3 (.int .i64) p14 false)), (39, (.box 125 [(.v (.arr 9 (.int .i64)) p15)]))])
noncomputable def ancepsref06_index.f (p0 : (List (List Int))) (p1 : (List Int)) : Option (Int × Unit) := (Go.Proofs.R.Einf Go.Proofs.C28.ctx).call 98 [(.one (.v (.sl (.sl (.int .i64))) p0)), (.one (.v (.sl (.int .i64)) p1))]
noncomputable def automaton_useful.l25 (p0 : (List Int)) (p1 : Int) (p2 : Int) (p3 : (List (List Int))) (p4 : (List Bool)) (p5 : (List Int)) : Option ((List Bool) × Unit) := Go.Proofs.R.loopAt Go.Proofs.C28.ctx (Go.Proofs.R.Einf Go.Proofs.C28.ctx) 96 25 (.mk [(3, (.one (.row 7))), (8, (.one (.row 15))), (9, (.one (.row 23))), (79, (.one (.v (.sl (.int .i64)) p0))), (80, (.one (.v (.int .i64) p1))), (81, (.one (.v (.int .i64) p2)))] [(7, (.rows 28 3 (.int .i64) p3 .full)), (15, (.row 4 .bool p4 false)), (23, (.row 3 (.int .i64) p5 false))])
noncomputable def ancepsref06_index.l2 (p0 : (List (List Int))) (p1 : (List Int)) (p2 : Int) : Option (Int × Unit) := Go.Proofs.R.loopAt Go.Proofs.C28.ctx (Go.Proofs.R.Einf Go.Proofs.C28.ctx) 98 2 (.mk [(0, (.one (.v (.sl (.sl (.int .i64))) p0))), (1, (.one (.v (.sl (.int .i64)) p1))), (5, (.one (.v (.int .i64) p2)))] [])

theorem ancepslaw28_DifferenceSame.f_eq (p0 : Int) (p1 : Int) (p2 : (List (List Int))) (p3 : (List Bool)) (p4 : Int) (p5 : Int) (p6 : (List (List Int))) (p7 : (List Bool)) : ancepslaw28_DifferenceSame.f p0 p1 p2 p3 p4 p5 p6 p7 =
  bindD (ancepslaw28_awake.f) fun t0 =>
  ifB (!t0.1)
   (bindD (ancepslaw28_awake.f) fun t1 =>
   some (t1.1, ()))
  (bindD (ancepsref28_Few.f p0 p1 p2 p3 p4 p5 p6 p7) fun t2 =>
   ifB (!t2.1)
    (bindD (ancepslaw28_awake.f) fun t3 =>
    some (t3.1, ()))
   (bindD (difference_Same.f p0 p1 p2 p3 p4 p5 p6 p7) fun t4 =>
    bindD (ancepsref28_Same.f p0 p1 p2 p3 p4 p5 p6 p7) fun t5 =>
    bindD (difference_Within.f p0 p1 p2 p3 p4 p5 p6 p7) fun t6 =>
    bindD (ancepsref28_Within.f p0 p1 p2 p3 p4 p5 p6 p7) fun t7 =>
    bindD (difference_Disjoint.f p0 p1 p2 p3 p4 p5 p6 p7) fun t8 =>
    bindD (ancepsref28_Disjoint.f p0 p1 p2 p3 p4 p5 p6 p7) fun t9 =>
    ifB (t4.1 == t5.1)
     (ifB (t4.2.1 == t5.2.1)
      (ifB (t6.1 == t7.1)
       (ifB (t6.2.1 == t7.2.1)
        (ifB (t8.1 == t9.1)
         (some ((t8.2.1 == t9.2.1), ()))
        (some (false, ())))
       (some (false, ())))
      (some (false, ())))
     (some (false, ())))
    (some (false, ())))) := (Einf_call Go.Proofs.C28.ctx 5 _).trans (by kernel_rfl)
theorem ancepslaw28_DifferenceTells.f_eq (p0 : Int) (p1 : Int) (p2 : (List (List Int))) (p3 : (List Bool)) (p4 : Int) (p5 : Int) (p6 : (List (List Int))) (p7 : (List Bool)) : ancepslaw28_DifferenceTells.f p0 p1 p2 p3 p4 p5 p6 p7 =
  bindD (ancepslaw28_awake.f) fun t10 =>
  ifB (!t10.1)
   (bindD (ancepslaw28_awake.f) fun t11 =>
   some (t11.1, ()))
  (bindD (ancepsref28_Few.f p0 p1 p2 p3 p4 p5 p6 p7) fun t12 =>
   ifB (!t12.1)
    (bindD (ancepslaw28_awake.f) fun t13 =>
    some (t13.1, ()))
   (bindD (difference_Tells.f p0 p1 p2 p3 p4 p5 p6 p7) fun t14 =>
    bindD (ancepsref28_Tells.f p0 p1 p2 p3 p4 p5 p6 p7) fun t15 =>
    ifB (t14.2.2.1 != t15.2.2.1)
     (ifB (t14.2.2.1 == t15.2.2.1)
      (ifB (t14.2.1 == t15.2.1)
       (bindD (slices_Equal_int_int.f t14.1 t15.1) fun t16 =>
       some (t16.1, ()))
      (some (false, ())))
     (some (false, ())))
    (ifB (t14.2.1 != t15.2.1)
      (ifB (t14.2.2.1 == t15.2.2.1)
       (ifB (t14.2.1 == t15.2.1)
        (bindD (slices_Equal_int_int.f t14.1 t15.1) fun t17 =>
        some (t17.1, ()))
       (some (false, ())))
      (some (false, ())))
     (bindD (slices_Equal_int_int.f t14.1 t15.1) fun t18 =>
      ifB (!t18.1)
       (ifB (t14.2.2.1 == t15.2.2.1)
        (ifB (t14.2.1 == t15.2.1)
         (bindD (slices_Equal_int_int.f t14.1 t15.1) fun t19 =>
         some (t19.1, ()))
        (some (false, ())))
       (some (false, ())))
      (ifB (t14.2.2.1 != (0 : Int))
        (ifB (t14.2.2.1 == t15.2.2.1)
         (ifB (t14.2.1 == t15.2.1)
          (bindD (slices_Equal_int_int.f t14.1 t15.1) fun t20 =>
          some (t20.1, ()))
         (some (false, ())))
        (some (false, ())))
       (bindD (automaton_Accepts.f p0 p1 p2 p3 t14.1) fun t21 =>
        ifB (t21.1 == (t14.2.1 == (1 : Int)))
         (bindD (automaton_Accepts.f p4 p5 p6 p7 t14.1) fun t22 =>
         some ((t22.1 == (t14.2.1 == (2 : Int))), ()))
        (some (false, ())))))))) := (Einf_call Go.Proofs.C28.ctx 6 _).trans (by kernel_rfl)
theorem ancepslaw28_DifferenceCompare.f_eq (p0 : Int) (p1 : Int) (p2 : (List (List Int))) (p3 : (List Bool)) (p4 : Int) (p5 : Int) (p6 : (List (List Int))) (p7 : (List Bool)) (p8 : Int) : ancepslaw28_DifferenceCompare.f p0 p1 p2 p3 p4 p5 p6 p7 p8 =
  bindD (ancepslaw28_awake.f) fun t23 =>
  ifB (!t23.1)
   (bindD (ancepslaw28_awake.f) fun t24 =>
   some (t24.1, ()))
  (bindD (ancepsref28_Few.f p0 p1 p2 p3 p4 p5 p6 p7) fun t25 =>
   ifB (!t25.1)
    (bindD (ancepslaw28_awake.f) fun t26 =>
    some (t26.1, ()))
   (bindD (difference_Compare.f p0 p1 p2 p3 p4 p5 p6 p7 p8) fun t27 =>
    bindD (ancepsref28_Compare.f p0 p1 p2 p3 p4 p5 p6 p7 p8) fun t28 =>
    ifB (t27.2.2.2.2.2.2.2.1 == t28.2.2.2.2.2.2.2.1)
     (bindD (ancepsref28_SameComparison.f t27.1 t27.2.1 t27.2.2.1 t27.2.2.2.1 t27.2.2.2.2.1 t27.2.2.2.2.2.1 t27.2.2.2.2.2.2.1 t28.1 t28.2.1 t28.2.2.1 t28.2.2.2.1 t28.2.2.2.2.1 t28.2.2.2.2.2.1 t28.2.2.2.2.2.2.1) fun t29 =>
     some (t29.1, ()))
    (some (false, ())))) := (Einf_call Go.Proofs.C28.ctx 3 _).trans (by kernel_rfl)
theorem ancepslaw28_DifferenceOrder.f_eq (p0 : Int) (p1 : (List Int)) (p2 : Int) (p3 : Int) (p4 : (List Int)) (p5 : Int) (p6 : Int) (p7 : (List Int)) (p8 : Int) : ancepslaw28_DifferenceOrder.f p0 p1 p2 p3 p4 p5 p6 p7 p8 =
  bindD (ancepslaw28_awake.f) fun t30 =>
  ifB (!t30.1)
   (bindD (ancepslaw28_awake.f) fun t31 =>
   some (t31.1, ()))
  (ifB (decide ((((List.length p1) : Nat) : Int) > (60 : Int)))
    (bindD (ancepslaw28_awake.f) fun t32 =>
    some (t32.1, ()))
   (ifB (decide ((((List.length p4) : Nat) : Int) > (60 : Int)))
     (bindD (ancepslaw28_awake.f) fun t33 =>
     some (t33.1, ()))
    (ifB (decide ((((List.length p7) : Nat) : Int) > (60 : Int)))
      (bindD (ancepslaw28_awake.f) fun t34 =>
      some (t34.1, ()))
     (bindD (ancepsref06_Made.f p0 p1 p2) fun t35 =>
      bindD (ancepsref06_Made.f p0 p4 p5) fun t36 =>
      bindD (ancepsref06_Made.f p0 p7 p8) fun t37 =>
      bindD (difference_Within.f t35.1 t35.2.1 t35.2.2.1 t35.2.2.2.1 t35.1 t35.2.1 t35.2.2.1 t35.2.2.2.1) fun t38 =>
      bindD (difference_Within.f t35.1 t35.2.1 t35.2.2.1 t35.2.2.2.1 t36.1 t36.2.1 t36.2.2.1 t36.2.2.2.1) fun t39 =>
      bindD (difference_Within.f t36.1 t36.2.1 t36.2.2.1 t36.2.2.2.1 t35.1 t35.2.1 t35.2.2.1 t35.2.2.2.1) fun t40 =>
      bindD (difference_Within.f t36.1 t36.2.1 t36.2.2.1 t36.2.2.2.1 t37.1 t37.2.1 t37.2.2.1 t37.2.2.2.1) fun t41 =>
      bindD (difference_Within.f t35.1 t35.2.1 t35.2.2.1 t35.2.2.2.1 t37.1 t37.2.1 t37.2.2.1 t37.2.2.2.1) fun t42 =>
      bindD (difference_Same.f t35.1 t35.2.1 t35.2.2.1 t35.2.2.2.1 t36.1 t36.2.1 t36.2.2.1 t36.2.2.2.1) fun t43 =>
      ifB (t38.2.1 != (0 : Int))
       (some (false, ()))
      (ifB (t39.2.1 != (0 : Int))
        (some (false, ()))
       (ifB (t40.2.1 != (0 : Int))
         (some (false, ()))
        (ifB (t41.2.1 != (0 : Int))
          (some (false, ()))
         (ifB (t42.2.1 != (0 : Int))
           (some (false, ()))
          (ifB (t43.2.1 != (0 : Int))
            (some (false, ()))
           (ifB t38.1
             (ifB (!t39.1)
              (ifB t39.1
               (some ((t43.1 == t40.1), ()))
              (some ((t43.1 == false), ())))
             (ifB (!t41.1)
               (ifB t39.1
                (some ((t43.1 == t40.1), ()))
               (some ((t43.1 == false), ())))
              (ifB t42.1
                (ifB t39.1
                 (some ((t43.1 == t40.1), ()))
                (some ((t43.1 == false), ())))
               (some (false, ())))))
            (some (false, ())))))))))))) := (Einf_call Go.Proofs.C28.ctx 4 _).trans (by kernel_rfl)
theorem ancepslaw28_DifferenceCheck.f_eq (p0 : Int) (p1 : Int) (p2 : (List (List Int))) (p3 : (List Bool)) (p4 : Int) (p5 : Int) (p6 : (List (List Int))) (p7 : (List Bool)) (p8 : (List (Int × Int))) : ancepslaw28_DifferenceCheck.f p0 p1 p2 p3 p4 p5 p6 p7 p8 =
  bindD (ancepslaw28_awake.f) fun t44 =>
  ifB (!t44.1)
   (bindD (ancepslaw28_awake.f) fun t45 =>
   some (t45.1, ()))
  (bindD (ancepsref28_Few.f p0 p1 p2 p3 p4 p5 p6 p7) fun t46 =>
   ifB (!t46.1)
    (bindD (ancepslaw28_awake.f) fun t47 =>
    some (t47.1, ()))
   (ifB (decide ((((List.length p8) : Nat) : Int) > (400 : Int)))
     (bindD (ancepslaw28_awake.f) fun t48 =>
     some (t48.1, ()))
    (bindD (api_Pair.f p8) fun t49 =>
     bindD (difference_CheckWithin.f p0 p1 p2 p3 p4 p5 p6 p7 t49.1) fun t50 =>
     bindD (ancepsref28_CheckWithin.f p0 p1 p2 p3 p4 p5 p6 p7 p8) fun t51 =>
     ifB (!(t50.1 == t51.1))
      (some (false, ()))
     (bindD (difference_Within.f p0 p1 p2 p3 p4 p5 p6 p7) fun t52 =>
      ifB (!t50.1)
       (some (true, ()))
      (ifB (t52.2.1 == (0 : Int))
        (some (t52.1, ()))
       (some (false, ()))))))) := (Einf_call Go.Proofs.C28.ctx 7 _).trans (by kernel_rfl)
theorem ancepslaw28_DifferenceCommon.f_eq (p0 : Int) (p1 : Int) (p2 : (List (List Int))) (p3 : (List Bool)) (p4 : Int) (p5 : Int) (p6 : (List (List Int))) (p7 : (List Bool)) (p8 : (List Int)) : ancepslaw28_DifferenceCommon.f p0 p1 p2 p3 p4 p5 p6 p7 p8 =
  bindD (ancepslaw28_awake.f) fun t53 =>
  ifB (!t53.1)
   (bindD (ancepslaw28_awake.f) fun t54 =>
   some (t54.1, ()))
  (bindD (ancepsref28_Few.f p0 p1 p2 p3 p4 p5 p6 p7) fun t55 =>
   ifB (!t55.1)
    (bindD (ancepslaw28_awake.f) fun t56 =>
    some (t56.1, ()))
   (ifB (decide ((((List.length p8) : Nat) : Int) > (30 : Int)))
     (bindD (ancepslaw28_awake.f) fun t57 =>
     some (t57.1, ()))
    (bindD (difference_Common.f p0 p1 p2 p3 p4 p5 p6 p7) fun t58 =>
     bindD (ancepsref28_Common.f p0 p1 p2 p3 p4 p5 p6 p7) fun t59 =>
     ifB (t58.2.2.2.2.1 != t59.2.2.2.2.1)
      (ifB (t58.2.2.2.2.1 == t59.2.2.2.2.1)
       (bindD (ancepsref06_SameDFA.f t58.1 t58.2.1 t58.2.2.1 t58.2.2.2.1 t59.1 t59.2.1 t59.2.2.1 t59.2.2.2.1) fun t60 =>
       some (t60.1, ()))
      (some (false, ())))
     (bindD (ancepsref06_SameDFA.f t58.1 t58.2.1 t58.2.2.1 t58.2.2.2.1 t59.1 t59.2.1 t59.2.2.1 t59.2.2.2.1) fun t61 =>
      ifB (!t61.1)
       (ifB (t58.2.2.2.2.1 == t59.2.2.2.2.1)
        (bindD (ancepsref06_SameDFA.f t58.1 t58.2.1 t58.2.2.1 t58.2.2.2.1 t59.1 t59.2.1 t59.2.2.1 t59.2.2.2.1) fun t62 =>
        some (t62.1, ()))
       (some (false, ())))
      (ifB (t58.2.2.2.2.1 != (0 : Int))
        (ifB (t58.2.2.2.2.1 == t59.2.2.2.2.1)
         (bindD (ancepsref06_SameDFA.f t58.1 t58.2.1 t58.2.2.1 t58.2.2.2.1 t59.1 t59.2.1 t59.2.2.1 t59.2.2.2.1) fun t63 =>
         some (t63.1, ()))
        (some (false, ())))
       (bindD (automaton_Accepts.f t58.1 t58.2.1 t58.2.2.1 t58.2.2.2.1 p8) fun t64 =>
        bindD (automaton_Accepts.f p0 p1 p2 p3 p8) fun t65 =>
        ifB t65.1
         (bindD (automaton_Accepts.f p4 p5 p6 p7 p8) fun t66 =>
         some ((t64.1 == t66.1), ()))
        (some ((t64.1 == false), ())))))))) := (Einf_call Go.Proofs.C28.ctx 8 _).trans (by kernel_rfl)
theorem ancepslaw28_DifferenceCounts.f_eq (p0 : Int) (p1 : (List Int)) (p2 : Int) (p3 : Int) (p4 : (List Int)) (p5 : Int) (p6 : Int) : ancepslaw28_DifferenceCounts.f p0 p1 p2 p3 p4 p5 p6 =
  bindD (ancepslaw28_awake.f) fun t67 =>
  ifB (!t67.1)
   (bindD (ancepslaw28_awake.f) fun t68 =>
   some (t68.1, ()))
  (ifB (decide ((((List.length p1) : Nat) : Int) > (60 : Int)))
    (bindD (ancepslaw28_awake.f) fun t69 =>
    some (t69.1, ()))
   (ifB (decide ((((List.length p4) : Nat) : Int) > (60 : Int)))
     (bindD (ancepslaw28_awake.f) fun t70 =>
     some (t70.1, ()))
    (bindD (ancepsref06_Made.f p0 p1 p2) fun t71 =>
     bindD (ancepsref06_Made.f p0 p4 p5) fun t72 =>
     bindD (difference_Compare.f t71.1 t71.2.1 t71.2.2.1 t71.2.2.2.1 t72.1 t72.2.1 t72.2.2.1 t72.2.2.2.1 (Go.IntKind.wrap Go.IntKind.i64 (Int.tmod p6 (13 : Int)))) fun t73 =>
     bindD (difference_Common.f t71.1 t71.2.1 t71.2.2.1 t71.2.2.2.1 t72.1 t72.2.1 t72.2.2.1 t72.2.2.2.1) fun t74 =>
     ifB (t73.2.2.2.2.2.2.2.1 != (0 : Int))
      (some (false, ()))
     (ifB (t74.2.2.2.2.1 != (0 : Int))
       (some (false, ()))
      (ifB ((((List.length t73.2.2.2.2.1) : Nat) : Int) != (Go.IntKind.wrap Go.IntKind.i64 ((Go.IntKind.wrap Go.IntKind.i64 (Int.tmod p6 (13 : Int))) + (1 : Int))))
        (some (false, ()))
       (ifB ((((List.length t73.2.2.2.2.2.1) : Nat) : Int) != (Go.IntKind.wrap Go.IntKind.i64 ((Go.IntKind.wrap Go.IntKind.i64 (Int.tmod p6 (13 : Int))) + (1 : Int))))
         (some (false, ()))
        (ifB ((((List.length t73.2.2.2.2.2.2.1) : Nat) : Int) != (Go.IntKind.wrap Go.IntKind.i64 ((Go.IntKind.wrap Go.IntKind.i64 (Int.tmod p6 (13 : Int))) + (1 : Int))))
          (some (false, ()))
         (bindD (automaton_Count.f t71.1 t71.2.1 t71.2.2.1 t71.2.2.2.1 (Go.IntKind.wrap Go.IntKind.i64 (Int.tmod p6 (13 : Int)))) fun t75 =>
          bindD (automaton_Count.f t72.1 t72.2.1 t72.2.2.1 t72.2.2.2.1 (Go.IntKind.wrap Go.IntKind.i64 (Int.tmod p6 (13 : Int)))) fun t76 =>
          bindD (automaton_Count.f t74.1 t74.2.1 t74.2.2.1 t74.2.2.2.1 (Go.IntKind.wrap Go.IntKind.i64 (Int.tmod p6 (13 : Int)))) fun t77 =>
          ifB (t75.2.1 == (0 : Int))
           (ifB (t76.2.1 == (0 : Int))
            (ifB (t77.2.1 == (0 : Int))
             (bindD ((ixAt t73.2.2.2.2.1 (Go.IntKind.wrap Go.IntKind.i64 (Int.tmod p6 (13 : Int))))) fun t78 =>
             ifB (t78 == t77.1)
              (bindD ((ixAt t73.2.2.2.2.1 (Go.IntKind.wrap Go.IntKind.i64 (Int.tmod p6 (13 : Int))))) fun t79 =>
              bindD ((ixAt t73.2.2.2.2.2.1 (Go.IntKind.wrap Go.IntKind.i64 (Int.tmod p6 (13 : Int))))) fun t80 =>
              ifB ((Go.IntKind.wrap Go.IntKind.i64 (t79 + t80)) == t75.1)
               (bindD ((ixAt t73.2.2.2.2.1 (Go.IntKind.wrap Go.IntKind.i64 (Int.tmod p6 (13 : Int))))) fun t81 =>
               bindD ((ixAt t73.2.2.2.2.2.2.1 (Go.IntKind.wrap Go.IntKind.i64 (Int.tmod p6 (13 : Int))))) fun t82 =>
               some (((Go.IntKind.wrap Go.IntKind.i64 (t81 + t82)) == t76.1), ()))
              (some (false, ())))
             (some (false, ())))
            (some (false, ())))
           (some (false, ())))
          (some (false, ())))))))))) := (Einf_call Go.Proofs.C28.ctx 9 _).trans (by kernel_rfl)
theorem ancepslaw28_awake.f_eq : ancepslaw28_awake.f =
  bindD (ancepslaw28_of.f (false :: (false :: (true :: ([] : (List Bool))))) (((-(1 : Int)) :: ((1 : Int) :: ([] : (List Int)))) :: (((2 : Int) :: ((2 : Int) :: ([] : (List Int)))) :: (((-(1 : Int)) :: ((-(1 : Int)) :: ([] : (List Int)))) :: ([] : (List (List Int))))))) fun t83 =>
  bindD (ancepslaw28_of.f (false :: (false :: (true :: ([] : (List Bool))))) (((-(1 : Int)) :: ((1 : Int) :: ([] : (List Int)))) :: (((-(1 : Int)) :: ((2 : Int) :: ([] : (List Int)))) :: (((-(1 : Int)) :: ((-(1 : Int)) :: ([] : (List Int)))) :: ([] : (List (List Int))))))) fun t84 =>
  bindD (difference_Within.f t84.1 t84.2.1 t84.2.2.1 t84.2.2.2.1 t83.1 t83.2.1 t83.2.2.1 t83.2.2.2.1) fun t85 =>
  bindD (difference_Within.f t83.1 t83.2.1 t83.2.2.1 t83.2.2.2.1 t84.1 t84.2.1 t84.2.2.1 t84.2.2.2.1) fun t86 =>
  bindD (difference_Tells.f t83.1 t83.2.1 t83.2.2.1 t83.2.2.2.1 t84.1 t84.2.1 t84.2.2.1 t84.2.2.2.1) fun t87 =>
  bindD (difference_Compare.f t83.1 t83.2.1 t83.2.2.1 t83.2.2.2.1 t84.1 t84.2.1 t84.2.2.1 t84.2.2.2.1 (2 : Int)) fun t88 =>
  ifB (t85.2.1 != (0 : Int))
   (some (false, ()))
  (ifB (t86.2.1 != (0 : Int))
    (some (false, ()))
   (ifB (t87.2.2.1 != (0 : Int))
     (some (false, ()))
    (ifB (t88.2.2.2.2.2.2.2.1 != (0 : Int))
      (some (false, ()))
     (ifB (!t85.1)
       (some (false, ()))
      (ifB t86.1
        (some (false, ()))
       (bindD (slices_Equal_int_int.f t87.1 ((1 : Int) :: ((0 : Int) :: ([] : (List Int))))) fun t89 =>
        ifB (!t89.1)
         (some (false, ()))
        (ifB (t87.2.1 != (1 : Int))
          (some (false, ()))
         (ifB ((((List.length t88.2.2.2.2.1) : Nat) : Int) == (3 : Int))
           (bindD ((ixAt t88.2.2.2.2.1 (2 : Int))) fun t90 =>
           ifB (t90 == (1 : Int))
            (bindD ((ixAt t88.2.2.2.2.2.1 (2 : Int))) fun t91 =>
            ifB (t91 == (1 : Int))
             (bindD ((ixAt t88.2.2.2.2.2.2.1 (2 : Int))) fun t92 =>
             ifB (t92 == (0 : Int))
              (some (t88.2.2.1, ()))
             (some (false, ())))
            (some (false, ())))
           (some (false, ())))
          (some (false, ())))))))))) := (Einf_call Go.Proofs.C28.ctx 11 _).trans (by kernel_rfl)
theorem ancepsref28_Few.f_eq (p0 : Int) (p1 : Int) (p2 : (List (List Int))) (p3 : (List Bool)) (p4 : Int) (p5 : Int) (p6 : (List (List Int))) (p7 : (List Bool)) : ancepsref28_Few.f p0 p1 p2 p3 p4 p5 p6 p7 =
  ancepsref28_Few.l3 (0 : Int) (0 : Int) p0 p1 p2 p3 p4 p5 p6 p7 := (Einf_call Go.Proofs.C28.ctx 12 _).trans (by kernel_rfl)
theorem difference_Same.f_eq (p0 : Int) (p1 : Int) (p2 : (List (List Int))) (p3 : (List Bool)) (p4 : Int) (p5 : Int) (p6 : (List (List Int))) (p7 : (List Bool)) : difference_Same.f p0 p1 p2 p3 p4 p5 p6 p7 =
  bindD (difference_valid.f p0 p1 p2 p3 p4 p5 p6 p7) fun t93 =>
  ifB (t93.1 != (0 : Int))
   (some (false, (t93.1, ())))
  (bindD (difference_apart.f p0 p1 p2 p3 p4 p5 p6 p7) fun t94 =>
   some ((t94.2.1 == (0 : Int)), ((0 : Int), ()))) := (Einf_call Go.Proofs.C28.ctx 18 _).trans (by kernel_rfl)
theorem ancepsref28_Same.f_eq (p0 : Int) (p1 : Int) (p2 : (List (List Int))) (p3 : (List Bool)) (p4 : Int) (p5 : Int) (p6 : (List (List Int))) (p7 : (List Bool)) : ancepsref28_Same.f p0 p1 p2 p3 p4 p5 p6 p7 =
  bindD (ancepsref28_valid.f p0 p1 p2 p3 p4 p5 p6 p7) fun t95 =>
  ifB (t95.1 != (0 : Int))
   (some (false, (t95.1, ())))
  (bindD (ancepsref28_tells.f p0 p1 p2 p3 p4 p5 p6 p7) fun t96 =>
   some ((t96.2.1 == (0 : Int)), ((0 : Int), ()))) := (Einf_call Go.Proofs.C28.ctx 19 _).trans (by kernel_rfl)
theorem difference_Within.f_eq (p0 : Int) (p1 : Int) (p2 : (List (List Int))) (p3 : (List Bool)) (p4 : Int) (p5 : Int) (p6 : (List (List Int))) (p7 : (List Bool)) : difference_Within.f p0 p1 p2 p3 p4 p5 p6 p7 =
  bindD (difference_valid.f p0 p1 p2 p3 p4 p5 p6 p7) fun t97 =>
  ifB (t97.1 != (0 : Int))
   (some (false, (t97.1, ())))
  (bindD (difference_within.f p0 p1 p2 p3 p4 p5 p6 p7) fun t98 =>
   some (t98.1, ((0 : Int), ()))) := (Einf_call Go.Proofs.C28.ctx 17 _).trans (by kernel_rfl)
theorem ancepsref28_Within.f_eq (p0 : Int) (p1 : Int) (p2 : (List (List Int))) (p3 : (List Bool)) (p4 : Int) (p5 : Int) (p6 : (List (List Int))) (p7 : (List Bool)) : ancepsref28_Within.f p0 p1 p2 p3 p4 p5 p6 p7 =
  bindD (ancepsref28_valid.f p0 p1 p2 p3 p4 p5 p6 p7) fun t99 =>
  ifB (t99.1 != (0 : Int))
   (some (false, (t99.1, ())))
  (bindD (ancepsref28_within.f p0 p1 p2 p3 p4 p5 p6 p7) fun t100 =>
   some (t100.1, ((0 : Int), ()))) := (Einf_call Go.Proofs.C28.ctx 20 _).trans (by kernel_rfl)
theorem difference_Disjoint.f_eq (p0 : Int) (p1 : Int) (p2 : (List (List Int))) (p3 : (List Bool)) (p4 : Int) (p5 : Int) (p6 : (List (List Int))) (p7 : (List Bool)) : difference_Disjoint.f p0 p1 p2 p3 p4 p5 p6 p7 =
  bindD (difference_valid.f p0 p1 p2 p3 p4 p5 p6 p7) fun t101 =>
  ifB (t101.1 != (0 : Int))
   (some (false, (t101.1, ())))
  (bindD (difference_side.f p0 p1 p2 p3 p4 p5 p6 p7) fun t102 =>
   bindD (difference_visit.f t102.1 p0 p1 p2 p3 p4 p5 p6 p7) fun t103 =>
   some ((!t103.1), ((0 : Int), ()))) := (Einf_call Go.Proofs.C28.ctx 21 _).trans (by kernel_rfl)
theorem ancepsref28_Disjoint.f_eq (p0 : Int) (p1 : Int) (p2 : (List (List Int))) (p3 : (List Bool)) (p4 : Int) (p5 : Int) (p6 : (List (List Int))) (p7 : (List Bool)) : ancepsref28_Disjoint.f p0 p1 p2 p3 p4 p5 p6 p7 =
  bindD (ancepsref28_valid.f p0 p1 p2 p3 p4 p5 p6 p7) fun t104 =>
  ifB (t104.1 != (0 : Int))
   (some (false, (t104.1, ())))
  (bindD (ancepsref28_reach.f p0 p1 p2 p3 p4 p5 p6 p7) fun t105 =>
   ancepsref28_Disjoint.l6 t105.1 (0 : Int) p0 p1 p2 p3 p4 p5 p6 p7) := (Einf_call Go.Proofs.C28.ctx 22 _).trans (by kernel_rfl)
theorem difference_Tells.f_eq (p0 : Int) (p1 : Int) (p2 : (List (List Int))) (p3 : (List Bool)) (p4 : Int) (p5 : Int) (p6 : (List (List Int))) (p7 : (List Bool)) : difference_Tells.f p0 p1 p2 p3 p4 p5 p6 p7 =
  bindD (difference_valid.f p0 p1 p2 p3 p4 p5 p6 p7) fun t106 =>
  ifB (t106.1 != (0 : Int))
   (some (([] : (List Int)), ((0 : Int), (t106.1, ()))))
  (bindD (difference_apart.f p0 p1 p2 p3 p4 p5 p6 p7) fun t107 =>
   ifB (t107.2.1 == (0 : Int))
    (some (([] : (List Int)), ((0 : Int), ((10 : Int), ()))))
   (some (t107.1, (t107.2.1, ((0 : Int), ()))))) := (Einf_call Go.Proofs.C28.ctx 23 _).trans (by kernel_rfl)
theorem ancepsref28_Tells.f_eq (p0 : Int) (p1 : Int) (p2 : (List (List Int))) (p3 : (List Bool)) (p4 : Int) (p5 : Int) (p6 : (List (List Int))) (p7 : (List Bool)) : ancepsref28_Tells.f p0 p1 p2 p3 p4 p5 p6 p7 =
  bindD (ancepsref28_valid.f p0 p1 p2 p3 p4 p5 p6 p7) fun t108 =>
  ifB (t108.1 != (0 : Int))
   (some (([] : (List Int)), ((0 : Int), (t108.1, ()))))
  (bindD (ancepsref28_tells.f p0 p1 p2 p3 p4 p5 p6 p7) fun t109 =>
   ifB (t109.2.1 == (0 : Int))
    (some (([] : (List Int)), ((0 : Int), ((10 : Int), ()))))
   (some (t109.1, (t109.2.1, ((0 : Int), ()))))) := (Einf_call Go.Proofs.C28.ctx 24 _).trans (by kernel_rfl)
theorem slices_Equal_int_int.f_eq (p0 : (List Int)) (p1 : (List Int)) : slices_Equal_int_int.f p0 p1 =
  ifB ((((List.length p0) : Nat) : Int) != (((List.length p1) : Nat) : Int))
   (some (false, ()))
  (slices_Equal_int_int.l4 p0 p1 (((List.length p0) : Nat) : Int) (0 : Int)) := (Einf_call Go.Proofs.C28.ctx 25 _).trans (by kernel_rfl)
theorem automaton_Accepts.f_eq (p0 : Int) (p1 : Int) (p2 : (List (List Int))) (p3 : (List Bool)) (p4 : (List Int)) : automaton_Accepts.f p0 p1 p2 p3 p4 =
  bindD (automaton_Valid.f p0 p1 p2 p3) fun t110 =>
  ifB (t110.1 == (0 : Int))
   (bindD (automaton_Run.f p0 p1 p2 p3 p4) fun t111 =>
   bindD (automaton_ends.f p0 p1 p2 p3 t111.1) fun t112 =>
   some (t112.1, ()))
  (some (false, ())) := (Einf_call Go.Proofs.C28.ctx 26 _).trans (by kernel_rfl)
theorem difference_Compare.f_eq (p0 : Int) (p1 : Int) (p2 : (List (List Int))) (p3 : (List Bool)) (p4 : Int) (p5 : Int) (p6 : (List (List Int))) (p7 : (List Bool)) (p8 : Int) : difference_Compare.f p0 p1 p2 p3 p4 p5 p6 p7 p8 =
  bindD (difference_valid.f p0 p1 p2 p3 p4 p5 p6 p7) fun t113 =>
  ifB (t113.1 != (0 : Int))
   (some (false, (false, (false, (([] : (List Int)), (([] : (List Int)), (([] : (List Int)), (([] : (List Int)), (t113.1, ())))))))))
  (ifB (decide (p8 < (0 : Int)))
    (some (false, (false, (false, (([] : (List Int)), (([] : (List Int)), (([] : (List Int)), (([] : (List Int)), ((6 : Int), ())))))))))
   (ifB (decide (p8 > (20 : Int)))
     (some (false, (false, (false, (([] : (List Int)), (([] : (List Int)), (([] : (List Int)), (([] : (List Int)), ((6 : Int), ())))))))))
    (bindD (difference_apart.f p0 p1 p2 p3 p4 p5 p6 p7) fun t114 =>
     bindD (difference_within.f p0 p1 p2 p3 p4 p5 p6 p7) fun t115 =>
     bindD (difference_within.f p4 p5 p6 p7 p0 p1 p2 p3) fun t116 =>
     bindD (difference_either.f p1 p5) fun t117 =>
     ifB t117.1
      (difference_Compare.l13 (Go.IntKind.wrap Go.IntKind.i64 (p8 + (1 : Int))) (0 : Int) p0 p1 p2 p3 p4 p5 p6 p7 false false false (t114.2.1 == (0 : Int)) t115.1 t116.1 (Go.Proofs.R.mput (Go.Proofs.R.Ty.pair (Go.Proofs.R.Ty.int Go.IntKind.i64) (Go.Proofs.R.Ty.int Go.IntKind.i64)) (p1, p5) (1 : Int) ([] : (List ((Int × Int) × Int)))) ([] : (List Int)) ([] : (List Int)) ([] : (List Int)) ([] : (List Int)) t114.1 ([] : (List Int)) ([] : (List Int)) ([] : (List Int)))
     (difference_Compare.l13 (Go.IntKind.wrap Go.IntKind.i64 (p8 + (1 : Int))) (0 : Int) p0 p1 p2 p3 p4 p5 p6 p7 false false false (t114.2.1 == (0 : Int)) t115.1 t116.1 ([] : (List ((Int × Int) × Int))) ([] : (List Int)) ([] : (List Int)) ([] : (List Int)) ([] : (List Int)) t114.1 ([] : (List Int)) ([] : (List Int)) ([] : (List Int)))))) := (Einf_call Go.Proofs.C28.ctx 13 _).trans (by kernel_rfl)
theorem ancepsref28_Compare.f_eq (p0 : Int) (p1 : Int) (p2 : (List (List Int))) (p3 : (List Bool)) (p4 : Int) (p5 : Int) (p6 : (List (List Int))) (p7 : (List Bool)) (p8 : Int) : ancepsref28_Compare.f p0 p1 p2 p3 p4 p5 p6 p7 p8 =
  bindD (ancepsref28_valid.f p0 p1 p2 p3 p4 p5 p6 p7) fun t118 =>
  ifB (t118.1 != (0 : Int))
   (some (false, (false, (false, (([] : (List Int)), (([] : (List Int)), (([] : (List Int)), (([] : (List Int)), (t118.1, ())))))))))
  (ifB (decide (p8 < (0 : Int)))
    (some (false, (false, (false, (([] : (List Int)), (([] : (List Int)), (([] : (List Int)), (([] : (List Int)), ((6 : Int), ())))))))))
   (ifB (decide (p8 > (20 : Int)))
     (some (false, (false, (false, (([] : (List Int)), (([] : (List Int)), (([] : (List Int)), (([] : (List Int)), ((6 : Int), ())))))))))
    (bindD (ancepsref28_tells.f p0 p1 p2 p3 p4 p5 p6 p7) fun t119 =>
     bindD (ancepsref28_within.f p0 p1 p2 p3 p4 p5 p6 p7) fun t120 =>
     bindD (ancepsref28_within.f p4 p5 p6 p7 p0 p1 p2 p3) fun t121 =>
     bindD (ancepsref28_reach.f p0 p1 p2 p3 p4 p5 p6 p7) fun t122 =>
     bindD ((Go.Proofs.R.mkLen (((List.length t122.1) : Nat) : Int) (((List.length t122.1) : Nat) : Int))) fun t123 =>
     ifB (decide ((((List.length t122.1) : Nat) : Int) > (0 : Int)))
      (bindD ((ixAt (List.replicate t123 (0 : Int)) (0 : Int))) fun t124 =>
      bindD ((ixAt (List.replicate t123 (0 : Int)) (0 : Int))) fun t125 =>
      ancepsref28_Compare.l13 p8 t122.1 (0 : Int) p0 p1 p2 p3 p4 p5 p6 p7 false false false (t119.2.1 == (0 : Int)) t120.1 t121.1 t119.1 (setRow (List.replicate t123 (0 : Int)) (0 : Int) (1 : Int)) ([] : (List Int)) ([] : (List Int)) ([] : (List Int)) ([] : (List Int)) ([] : (List Int)) ([] : (List Int)) ([] : (List Int)))
     (ancepsref28_Compare.l13 p8 t122.1 (0 : Int) p0 p1 p2 p3 p4 p5 p6 p7 false false false (t119.2.1 == (0 : Int)) t120.1 t121.1 t119.1 (List.replicate t123 (0 : Int)) ([] : (List Int)) ([] : (List Int)) ([] : (List Int)) ([] : (List Int)) ([] : (List Int)) ([] : (List Int)) ([] : (List Int)))))) := (Einf_call Go.Proofs.C28.ctx 14 _).trans (by kernel_rfl)
theorem ancepsref28_SameComparison.f_eq (p0 : Bool) (p1 : Bool) (p2 : Bool) (p3 : (List Int)) (p4 : (List Int)) (p5 : (List Int)) (p6 : (List Int)) (p7 : Bool) (p8 : Bool) (p9 : Bool) (p10 : (List Int)) (p11 : (List Int)) (p12 : (List Int)) (p13 : (List Int)) : ancepsref28_SameComparison.f p0 p1 p2 p3 p4 p5 p6 p7 p8 p9 p10 p11 p12 p13 =
  ifB (!(p0 == p7))
   (some (false, ()))
  (ifB (!(p1 == p8))
    (some (false, ()))
   (ifB (!(p2 == p9))
     (some (false, ()))
    (bindD (ancepsref06_Equal.f p3 p10) fun t126 =>
     ifB (!t126.1)
      (some (false, ()))
     (bindD (ancepsref28_numbers.f p4 p11) fun t127 =>
      ifB t127.1
       (bindD (ancepsref28_numbers.f p5 p12) fun t128 =>
       ifB t128.1
        (bindD (ancepsref28_numbers.f p6 p13) fun t129 =>
        some (t129.1, ()))
       (some (false, ())))
      (some (false, ())))))) := (Einf_call Go.Proofs.C28.ctx 15 _).trans (by kernel_rfl)
theorem ancepsref06_Made.f_eq (p0 : Int) (p1 : (List Int)) (p2 : Int) : ancepsref06_Made.f p0 p1 p2 =
  ifB ((Go.IntKind.wrap Go.IntKind.i64 ((1 : Int) + (Go.IntKind.wrap Go.IntKind.i64 (Int.tmod p0 (4 : Int))))) == (0 : Int))
   (none)
  (ancepsref06_Made.l4 (if ((12 : Int) < (Go.IntKind.wrap Go.IntKind.i64 (Int.tdiv (((List.length p1) : Nat) : Int) (Go.IntKind.wrap Go.IntKind.i64 ((1 : Int) + (Go.IntKind.wrap Go.IntKind.i64 (Int.tmod p0 (4 : Int)))))))) then (12 : Int) else (Go.IntKind.wrap Go.IntKind.i64 (Int.tdiv (((List.length p1) : Nat) : Int) (Go.IntKind.wrap Go.IntKind.i64 ((1 : Int) + (Go.IntKind.wrap Go.IntKind.i64 (Int.tmod p0 (4 : Int)))))))) (0 : Int) p0 p1 p2 (0 : Int) (0 : Int) (Go.IntKind.wrap Go.IntKind.i64 ((1 : Int) + (Go.IntKind.wrap Go.IntKind.i64 (Int.tmod p0 (4 : Int))))) (-(1 : Int)) ([] : (List (List Int))) ([] : (List Bool)) ([] : (List (List Int))) ([] : (List Bool))) := (Einf_call Go.Proofs.C28.ctx 16 _).trans (by kernel_rfl)
theorem api_Pair.f_eq (p0 : (List (Int × Int))) : api_Pair.f p0 =
  bindD ((Go.Proofs.R.grow (List.length p0))) fun t130 =>
  some (p0, ()) := (Einf_call Go.Proofs.C28.ctx 28 _).trans (by kernel_rfl)
theorem difference_CheckWithin.f_eq (p0 : Int) (p1 : Int) (p2 : (List (List Int))) (p3 : (List Bool)) (p4 : Int) (p5 : Int) (p6 : (List (List Int))) (p7 : (List Bool)) (p8 : (List (Int × Int))) : difference_CheckWithin.f p0 p1 p2 p3 p4 p5 p6 p7 p8 =
  bindD (difference_valid.f p0 p1 p2 p3 p4 p5 p6 p7) fun t131 =>
  ifB (t131.1 != (0 : Int))
   (some (false, ()))
  (difference_CheckWithin.l5 p8 (((List.length p8) : Nat) : Int) (0 : Int) p0 p1 p2 p3 p4 p5 p6 p7 p8) := (Einf_call Go.Proofs.C28.ctx 27 _).trans (by kernel_rfl)
theorem ancepsref28_CheckWithin.f_eq (p0 : Int) (p1 : Int) (p2 : (List (List Int))) (p3 : (List Bool)) (p4 : Int) (p5 : Int) (p6 : (List (List Int))) (p7 : (List Bool)) (p8 : (List (Int × Int))) : ancepsref28_CheckWithin.f p0 p1 p2 p3 p4 p5 p6 p7 p8 =
  bindD (ancepsref28_valid.f p0 p1 p2 p3 p4 p5 p6 p7) fun t132 =>
  ifB (t132.1 != (0 : Int))
   (some (false, ()))
  (ifB (decide (p1 ≥ (0 : Int)))
    (bindD (ancepsref28_index.f p8 p1 p5) fun t133 =>
    ifB (decide (t133.1 < (0 : Int)))
     (some (false, ()))
    (ancepsref28_CheckWithin.l4 p8 (0 : Int) p0 p1 p2 p3 p4 p5 p6 p7))
   (ancepsref28_CheckWithin.l4 p8 (0 : Int) p0 p1 p2 p3 p4 p5 p6 p7)) := (Einf_call Go.Proofs.C28.ctx 29 _).trans (by kernel_rfl)
theorem difference_Common.f_eq (p0 : Int) (p1 : Int) (p2 : (List (List Int))) (p3 : (List Bool)) (p4 : Int) (p5 : Int) (p6 : (List (List Int))) (p7 : (List Bool)) : difference_Common.f p0 p1 p2 p3 p4 p5 p6 p7 =
  bindD (difference_valid.f p0 p1 p2 p3 p4 p5 p6 p7) fun t134 =>
  ifB (t134.1 != (0 : Int))
   (some ((0 : Int), ((0 : Int), (([] : (List (List Int))), (([] : (List Bool)), (t134.1, ()))))))
  (bindD (automaton_Product.f p0 p1 p2 p3 p4 p5 p6 p7 (1 : Int)) fun t135 =>
   some (t135.1, (t135.2.1, (t135.2.2.1, (t135.2.2.2.1, (t135.2.2.2.2.1, ())))))) := (Einf_call Go.Proofs.C28.ctx 30 _).trans (by kernel_rfl)
theorem ancepsref28_Common.f_eq (p0 : Int) (p1 : Int) (p2 : (List (List Int))) (p3 : (List Bool)) (p4 : Int) (p5 : Int) (p6 : (List (List Int))) (p7 : (List Bool)) : ancepsref28_Common.f p0 p1 p2 p3 p4 p5 p6 p7 =
  bindD (ancepsref28_valid.f p0 p1 p2 p3 p4 p5 p6 p7) fun t136 =>
  ifB (t136.1 != (0 : Int))
   (some ((0 : Int), ((0 : Int), (([] : (List (List Int))), (([] : (List Bool)), (t136.1, ()))))))
  (bindD (ancepsref28_reach.f p0 p1 p2 p3 p4 p5 p6 p7) fun t137 =>
   ancepsref28_Common.l7 t137.1 (0 : Int) p0 p1 p2 p3 p4 p5 p6 p7 (0 : Int) (0 : Int) p0 (-(1 : Int)) ([] : (List (List Int))) ([] : (List Bool)) ([] : (List (List Int))) ([] : (List Bool))) := (Einf_call Go.Proofs.C28.ctx 31 _).trans (by kernel_rfl)
theorem ancepsref06_SameDFA.f_eq (p0 : Int) (p1 : Int) (p2 : (List (List Int))) (p3 : (List Bool)) (p4 : Int) (p5 : Int) (p6 : (List (List Int))) (p7 : (List Bool)) : ancepsref06_SameDFA.f p0 p1 p2 p3 p4 p5 p6 p7 =
  ifB (p0 != p4)
   (some (false, ()))
  (ifB (p1 != p5)
    (some (false, ()))
   (ifB ((((List.length p2) : Nat) : Int) != (((List.length p6) : Nat) : Int))
     (some (false, ()))
    (ifB ((((List.length p3) : Nat) : Int) != (((List.length p7) : Nat) : Int))
      (some (false, ()))
     (ancepsref06_SameDFA.l4 (0 : Int) p0 p1 p2 p3 p4 p5 p6 p7)))) := (Einf_call Go.Proofs.C28.ctx 32 _).trans (by kernel_rfl)
theorem automaton_Count.f_eq (p0 : Int) (p1 : Int) (p2 : (List (List Int))) (p3 : (List Bool)) (p4 : Int) : automaton_Count.f p0 p1 p2 p3 p4 =
  bindD (automaton_Valid.f p0 p1 p2 p3) fun t138 =>
  ifB (t138.1 != (0 : Int))
   (some ((0 : Int), (t138.1, ())))
  (ifB (decide (p4 < (0 : Int)))
    (some ((0 : Int), ((6 : Int), ())))
   (ifB (decide (p4 > (1000 : Int)))
     (some ((0 : Int), ((6 : Int), ())))
    (ifB (decide (p1 < (0 : Int)))
      (some ((0 : Int), ((0 : Int), ())))
     (bindD ((Go.Proofs.R.mkLen (((List.length p2) : Nat) : Int) (((List.length p2) : Nat) : Int))) fun t139 =>
      automaton_Count.l10 p4 p3 (((List.length p3) : Nat) : Int) (0 : Int) p0 p1 p2 p3 (List.replicate t139 (0 : Int)))))) := (Einf_call Go.Proofs.C28.ctx 33 _).trans (by kernel_rfl)
theorem ancepslaw28_of.f_eq (p0 : (List Bool)) (p1 : (List (List Int))) : ancepslaw28_of.f p0 p1 =
  some ((2 : Int), ((0 : Int), (p1, (p0, ())))) := (Einf_call Go.Proofs.C28.ctx 37 _).trans (by kernel_rfl)
theorem ancepsref28_Few.l3_eq (p0 : Int) (p1 : Int) (p2 : Int) (p3 : Int) (p4 : (List (List Int))) (p5 : (List Bool)) (p6 : Int) (p7 : Int) (p8 : (List (List Int))) (p9 : (List Bool)) : ancepsref28_Few.l3 p0 p1 p2 p3 p4 p5 p6 p7 p8 p9 =
  ifB (decide (p1 < (((List.length p4) : Nat) : Int)))
   (ifB (decide (p1 < (61 : Int)))
    (bindD ((ixAt p4 p1)) fun t140 =>
    ancepsref28_Few.l3 (Go.IntKind.wrap Go.IntKind.i64 (p0 + (((List.length t140) : Nat) : Int))) (Go.IntKind.wrap Go.IntKind.i64 (p1 + (1 : Int))) p2 p3 p4 p5 p6 p7 p8 p9)
   (ancepsref28_Few.l7 p0 (0 : Int) p2 p3 p4 p5 p6 p7 p8 p9))
  (ancepsref28_Few.l7 p0 (0 : Int) p2 p3 p4 p5 p6 p7 p8 p9) := (loopAt_step Go.Proofs.C28.ctx 12 3 _).trans (by kernel_rfl)
theorem difference_valid.f_eq (p0 : Int) (p1 : Int) (p2 : (List (List Int))) (p3 : (List Bool)) (p4 : Int) (p5 : Int) (p6 : (List (List Int))) (p7 : (List Bool)) : difference_valid.f p0 p1 p2 p3 p4 p5 p6 p7 =
  bindD (automaton_Valid.f p0 p1 p2 p3) fun t141 =>
  ifB (t141.1 != (0 : Int))
   (some ((1 : Int), ()))
  (bindD (automaton_Valid.f p4 p5 p6 p7) fun t142 =>
   ifB (t142.1 != (0 : Int))
    (some ((1 : Int), ()))
   (ifB (p0 != p4)
     (some ((1 : Int), ()))
    (some ((0 : Int), ())))) := (Einf_call Go.Proofs.C28.ctx 38 _).trans (by kernel_rfl)
theorem difference_apart.f_eq (p0 : Int) (p1 : Int) (p2 : (List (List Int))) (p3 : (List Bool)) (p4 : Int) (p5 : Int) (p6 : (List (List Int))) (p7 : (List Bool)) : difference_apart.f p0 p1 p2 p3 p4 p5 p6 p7 =
  bindD (difference_side.f1 p0 p1 p2 p3 p4 p5 p6 p7) fun t143 =>
  difference_apart.l3 (((List.length t143.1) : Nat) : Int) (0 : Int) p0 p1 p2 p3 p4 p5 p6 p7 t143.1 := (Einf_call Go.Proofs.C28.ctx 39 _).trans (by kernel_rfl)
theorem ancepsref28_valid.f_eq (p0 : Int) (p1 : Int) (p2 : (List (List Int))) (p3 : (List Bool)) (p4 : Int) (p5 : Int) (p6 : (List (List Int))) (p7 : (List Bool)) : ancepsref28_valid.f p0 p1 p2 p3 p4 p5 p6 p7 =
  bindD (ancepsref06_Valid.f p0 p1 p2 p3) fun t144 =>
  ifB (t144.1 != (0 : Int))
   (some ((1 : Int), ()))
  (bindD (ancepsref06_Valid.f p4 p5 p6 p7) fun t145 =>
   ifB (t145.1 != (0 : Int))
    (some ((1 : Int), ()))
   (ifB (p0 != p4)
     (some ((1 : Int), ()))
    (some ((0 : Int), ())))) := (Einf_call Go.Proofs.C28.ctx 44 _).trans (by kernel_rfl)
theorem ancepsref28_tells.f_eq (p0 : Int) (p1 : Int) (p2 : (List (List Int))) (p3 : (List Bool)) (p4 : Int) (p5 : Int) (p6 : (List (List Int))) (p7 : (List Bool)) : ancepsref28_tells.f p0 p1 p2 p3 p4 p5 p6 p7 =
  bindD (ancepsref28_reach.f p0 p1 p2 p3 p4 p5 p6 p7) fun t146 =>
  ancepsref28_tells.l3 (0 : Int) p0 p1 p2 p3 p4 p5 p6 p7 t146.1 t146.2.1 := (Einf_call Go.Proofs.C28.ctx 45 _).trans (by kernel_rfl)
theorem difference_within.f_eq (p0 : Int) (p1 : Int) (p2 : (List (List Int))) (p3 : (List Bool)) (p4 : Int) (p5 : Int) (p6 : (List (List Int))) (p7 : (List Bool)) : difference_within.f p0 p1 p2 p3 p4 p5 p6 p7 =
  bindD (difference_side.f p0 p1 p2 p3 p4 p5 p6 p7) fun t147 =>
  bindD (difference_visit.f1 t147.1 p0 p1 p2 p3 p4 p5 p6 p7) fun t148 =>
  some ((!t148.1), ()) := (Einf_call Go.Proofs.C28.ctx 40 _).trans (by kernel_rfl)
theorem ancepsref28_within.f_eq (p0 : Int) (p1 : Int) (p2 : (List (List Int))) (p3 : (List Bool)) (p4 : Int) (p5 : Int) (p6 : (List (List Int))) (p7 : (List Bool)) : ancepsref28_within.f p0 p1 p2 p3 p4 p5 p6 p7 =
  bindD (ancepsref28_reach.f p0 p1 p2 p3 p4 p5 p6 p7) fun t149 =>
  ancepsref28_within.l3 t149.1 (0 : Int) p0 p1 p2 p3 p4 p5 p6 p7 := (Einf_call Go.Proofs.C28.ctx 46 _).trans (by kernel_rfl)
theorem difference_side.f_eq (p0 : Int) (p1 : Int) (p2 : (List (List Int))) (p3 : (List Bool)) (p4 : Int) (p5 : Int) (p6 : (List (List Int))) (p7 : (List Bool)) : difference_side.f p0 p1 p2 p3 p4 p5 p6 p7 =
  bindD (difference_left.f p1 p5) fun t150 =>
  ifB (!t150.1)
   (some (([] : (List ((Int × Int) × (Int × Int)))), ()))
  (difference_side.l7 (0 : Int) p0 p1 p2 p3 p4 p5 p6 p7 (((p1, p5), ((-(1 : Int)), (-(1 : Int)))) :: ([] : (List ((Int × Int) × (Int × Int))))) (Go.Proofs.R.mput (Go.Proofs.R.Ty.pair (Go.Proofs.R.Ty.int Go.IntKind.i64) (Go.Proofs.R.Ty.int Go.IntKind.i64)) (p1, p5) true ([] : (List ((Int × Int) × Bool))))) := (Einf_call Go.Proofs.C28.ctx 54 _).trans (by kernel_rfl)
theorem difference_visit.f_eq (p0 : (List ((Int × Int) × (Int × Int)))) (p1 : Int) (p2 : Int) (p3 : (List (List Int))) (p4 : (List Bool)) (p5 : Int) (p6 : Int) (p7 : (List (List Int))) (p8 : (List Bool)) : difference_visit.f p0 p1 p2 p3 p4 p5 p6 p7 p8 =
  bindD (difference_visit_70.f p0 p1 p2 p3 p4 p5 p6 p7 p8) fun t151 =>
  some ((decide (t151.1 ≥ (0 : Int))), ()) := (Einf_call Go.Proofs.C28.ctx 53 _).trans (by kernel_rfl)
theorem ancepsref28_reach.f_eq (p0 : Int) (p1 : Int) (p2 : (List (List Int))) (p3 : (List Bool)) (p4 : Int) (p5 : Int) (p6 : (List (List Int))) (p7 : (List Bool)) : ancepsref28_reach.f p0 p1 p2 p3 p4 p5 p6 p7 =
  ifB (decide (p1 < (0 : Int)))
   (ifB (decide (p5 < (0 : Int)))
    (some (([] : (List (Int × Int))), (([] : (List (List Int))), ())))
   (ancepsref28_reach.l6 (0 : Int) p0 p1 p2 p3 p4 p5 p6 p7 ([] : (List (Int × Int))) ([] : (List (List Int))) ((p1, p5) :: ([] : (List (Int × Int)))) (([] : (List Int)) :: ([] : (List (List Int))))))
  (ancepsref28_reach.l6 (0 : Int) p0 p1 p2 p3 p4 p5 p6 p7 ([] : (List (Int × Int))) ([] : (List (List Int))) ((p1, p5) :: ([] : (List (Int × Int)))) (([] : (List Int)) :: ([] : (List (List Int))))) := (Einf_call Go.Proofs.C28.ctx 47 _).trans (by kernel_rfl)
theorem ancepsref28_Disjoint.l6_eq (p0 : (List (Int × Int))) (p1 : Int) (p2 : Int) (p3 : Int) (p4 : (List (List Int))) (p5 : (List Bool)) (p6 : Int) (p7 : Int) (p8 : (List (List Int))) (p9 : (List Bool)) : ancepsref28_Disjoint.l6 p0 p1 p2 p3 p4 p5 p6 p7 p8 p9 =
  ifB (decide (p1 < (((List.length p0) : Nat) : Int)))
   (bindD ((ixAt p0 p1)) fun t152 =>
   bindD (ancepsref28_accepts.f p2 p3 p4 p5 t152.1) fun t153 =>
   ifB t153.1
    (bindD ((ixAt p0 p1)) fun t154 =>
    bindD (ancepsref28_accepts.f p6 p7 p8 p9 t154.2) fun t155 =>
    ifB t155.1
     (some (false, ((0 : Int), ())))
    (ancepsref28_Disjoint.l6 p0 (Go.IntKind.wrap Go.IntKind.i64 (p1 + (1 : Int))) p2 p3 p4 p5 p6 p7 p8 p9))
   (ancepsref28_Disjoint.l6 p0 (Go.IntKind.wrap Go.IntKind.i64 (p1 + (1 : Int))) p2 p3 p4 p5 p6 p7 p8 p9))
  (some (true, ((0 : Int), ()))) := (loopAt_step Go.Proofs.C28.ctx 22 6 _).trans (by kernel_rfl)
theorem slices_Equal_int_int.l4_eq (p0 : (List Int)) (p1 : (List Int)) (p2 : Int) (p3 : Int) : slices_Equal_int_int.l4 p0 p1 p2 p3 =
  ifB (decide (p3 < p2))
   (bindD ((ixAt p0 p3)) fun t156 =>
   bindD ((ixAt p1 p3)) fun t157 =>
   ifB (t156 != t157)
    (some (false, ()))
   (slices_Equal_int_int.l4 p0 p1 p2 (Go.IntKind.wrap Go.IntKind.i64 (p3 + (1 : Int)))))
  (some (true, ())) := (loopAt_step Go.Proofs.C28.ctx 25 4 _).trans (by kernel_rfl)
theorem automaton_Valid.f_eq (p0 : Int) (p1 : Int) (p2 : (List (List Int))) (p3 : (List Bool)) : automaton_Valid.f p0 p1 p2 p3 =
  ifB (decide (p0 < (1 : Int)))
   (some ((1 : Int), ()))
  (ifB (decide (p0 > (8 : Int)))
    (some ((1 : Int), ()))
   (ifB (decide ((((List.length p2) : Nat) : Int) > (400 : Int)))
     (some ((1 : Int), ()))
    (ifB ((((List.length p3) : Nat) : Int) != (((List.length p2) : Nat) : Int))
      (some ((1 : Int), ()))
     (ifB (decide (p1 < (0 : Int)))
       (ifB (decide ((((List.length p2) : Nat) : Int) > (0 : Int)))
        (some ((1 : Int), ()))
       (ifB (p1 != (-(1 : Int)))
         (some ((1 : Int), ()))
        (ifB (decide (p1 ≥ (((List.length p2) : Nat) : Int)))
          (some ((1 : Int), ()))
         (automaton_Valid.l7 p2 (((List.length p2) : Nat) : Int) (0 : Int) p0 p1 p2 p3 (((List.length p2) : Nat) : Int)))))
      (ifB (decide (p1 ≥ (((List.length p2) : Nat) : Int)))
        (some ((1 : Int), ()))
       (automaton_Valid.l7 p2 (((List.length p2) : Nat) : Int) (0 : Int) p0 p1 p2 p3 (((List.length p2) : Nat) : Int))))))) := (Einf_call Go.Proofs.C28.ctx 57 _).trans (by kernel_rfl)
theorem automaton_Run.f_eq (p0 : Int) (p1 : Int) (p2 : (List (List Int))) (p3 : (List Bool)) (p4 : (List Int)) : automaton_Run.f p0 p1 p2 p3 p4 =
  bindD (automaton_Valid.f p0 p1 p2 p3) fun t158 =>
  ifB (t158.1 != (0 : Int))
   (some ((-(1 : Int)), ()))
  (automaton_Run.l5 p1 p4 (((List.length p4) : Nat) : Int) (0 : Int) p0 p1 p2 p3) := (Einf_call Go.Proofs.C28.ctx 59 _).trans (by kernel_rfl)
theorem automaton_ends.f_eq (p0 : Int) (p1 : Int) (p2 : (List (List Int))) (p3 : (List Bool)) (p4 : Int) : automaton_ends.f p0 p1 p2 p3 p4 =
  ifB (decide (p4 ≥ (0 : Int)))
   (bindD ((ixAt p3 p4)) fun t159 =>
   some (t159, ()))
  (some (false, ())) := (Einf_call Go.Proofs.C28.ctx 58 _).trans (by kernel_rfl)
theorem difference_either.f_eq (p0 : Int) (p1 : Int) : difference_either.f p0 p1 =
  ifB (decide (p0 ≥ (0 : Int)))
   (some (true, ()))
  (some ((decide (p1 ≥ (0 : Int))), ())) := (Einf_call Go.Proofs.C28.ctx 41 _).trans (by kernel_rfl)
theorem difference_Compare.l13_eq (p0 : Int) (p1 : Int) (p2 : Int) (p3 : Int) (p4 : (List (List Int))) (p5 : (List Bool)) (p6 : Int) (p7 : Int) (p8 : (List (List Int))) (p9 : (List Bool)) (p10 : Bool) (p11 : Bool) (p12 : Bool) (p13 : Bool) (p14 : Bool) (p15 : Bool) (p16 : (List ((Int × Int) × Int))) (p17 : (List Int)) (p18 : (List Int)) (p19 : (List Int)) (p20 : (List Int)) (p21 : (List Int)) (p22 : (List Int)) (p23 : (List Int)) (p24 : (List Int)) : difference_Compare.l13 p0 p1 p2 p3 p4 p5 p6 p7 p8 p9 p10 p11 p12 p13 p14 p15 p16 p17 p18 p19 p20 p21 p22 p23 p24 =
  ifB (decide (p1 < p0))
   (difference_Compare.l17 (0 : Int) (0 : Int) (0 : Int) p0 p1 p2 p3 p4 p5 p6 p7 p8 p9 p10 p11 p12 p13 p14 p15 ([] : (List ((Int × Int) × Int))) (List.length p16) ([] : (List Nat)) p17 p18 p19 p20 p21 p22 p23 p24 p16)
  (some (p13, (p14, (p15, (p21, (p22, (p23, (p24, ((0 : Int), ()))))))))) := (loopAt_step Go.Proofs.C28.ctx 13 13 _).trans (by kernel_rfl)
theorem ancepsref28_Compare.l13_eq (p0 : Int) (p1 : (List (Int × Int))) (p2 : Int) (p3 : Int) (p4 : Int) (p5 : (List (List Int))) (p6 : (List Bool)) (p7 : Int) (p8 : Int) (p9 : (List (List Int))) (p10 : (List Bool)) (p11 : Bool) (p12 : Bool) (p13 : Bool) (p14 : Bool) (p15 : Bool) (p16 : Bool) (p17 : (List Int)) (p18 : (List Int)) (p19 : (List Int)) (p20 : (List Int)) (p21 : (List Int)) (p22 : (List Int)) (p23 : (List Int)) (p24 : (List Int)) (p25 : (List Int)) : ancepsref28_Compare.l13 p0 p1 p2 p3 p4 p5 p6 p7 p8 p9 p10 p11 p12 p13 p14 p15 p16 p17 p18 p19 p20 p21 p22 p23 p24 p25 =
  ifB (decide (p2 ≤ p0))
   (bindD ((Go.Proofs.R.mkLen (((List.length p1) : Nat) : Int) (((List.length p1) : Nat) : Int))) fun t160 =>
   ancepsref28_Compare.l18 p0 p1 p2 (0 : Int) (0 : Int) (0 : Int) (0 : Int) p3 p4 p5 p6 p7 p8 p9 p10 p11 p12 p13 p14 p15 p16 p17 p18 (List.replicate t160 (0 : Int)) p19 p20 p21 p22 p23 p24 p25)
  (some (p14, (p15, (p16, (p17, (p23, (p24, (p25, ((0 : Int), ()))))))))) := (loopAt_step Go.Proofs.C28.ctx 14 13 _).trans (by kernel_rfl)
theorem ancepsref06_Equal.f_eq (p0 : (List Int)) (p1 : (List Int)) : ancepsref06_Equal.f p0 p1 =
  ifB ((((List.length p0) : Nat) : Int) != (((List.length p1) : Nat) : Int))
   (some (false, ()))
  (ancepsref06_Equal.l4 p0 p1 (0 : Int)) := (Einf_call Go.Proofs.C28.ctx 51 _).trans (by kernel_rfl)
theorem ancepsref28_numbers.f_eq (p0 : (List Int)) (p1 : (List Int)) : ancepsref28_numbers.f p0 p1 =
  ifB ((((List.length p0) : Nat) : Int) != (((List.length p1) : Nat) : Int))
   (some (false, ()))
  (ancepsref28_numbers.l4 p0 p1 (0 : Int)) := (Einf_call Go.Proofs.C28.ctx 52 _).trans (by kernel_rfl)
theorem ancepsref06_Made.l4_eq (p0 : Int) (p1 : Int) (p2 : Int) (p3 : (List Int)) (p4 : Int) (p5 : Int) (p6 : Int) (p7 : Int) (p8 : Int) (p9 : (List (List Int))) (p10 : (List Bool)) (p11 : (List (List Int))) (p12 : (List Bool)) : ancepsref06_Made.l4 p0 p1 p2 p3 p4 p5 p6 p7 p8 p9 p10 p11 p12 =
  ifB (decide (p1 < p0))
   (ancepsref06_Made.l8 p0 p1 (0 : Int) p2 p3 p4 p5 p6 p7 p8 ([] : (List Int)) p9 p10 p11 p12)
  (some (p7, (p8, (p11, (p12, ()))))) := (loopAt_step Go.Proofs.C28.ctx 16 4 _).trans (by kernel_rfl)
theorem difference_CheckWithin.l5_eq (p0 : (List (Int × Int))) (p1 : Int) (p2 : Int) (p3 : Int) (p4 : Int) (p5 : (List (List Int))) (p6 : (List Bool)) (p7 : Int) (p8 : Int) (p9 : (List (List Int))) (p10 : (List Bool)) (p11 : (List (Int × Int))) : difference_CheckWithin.l5 p0 p1 p2 p3 p4 p5 p6 p7 p8 p9 p10 p11 =
  ifB (decide (p2 < p1))
   (bindD ((ixAt p0 p2)) fun t161 =>
   ifB (decide (p2 > (0 : Int)))
    (bindD ((ixAt p11 (Go.IntKind.wrap Go.IntKind.i64 (p2 - (1 : Int))))) fun t162 =>
    bindD (difference_order.f t162.1 t162.2 t161.1 t161.2) fun t163 =>
    ifB (decide (t163.1 ≥ (0 : Int)))
     (some (false, ()))
    (ifB (decide (t161.1 < (0 : Int)))
      (some (false, ()))
     (ifB (decide (t161.1 ≥ (((List.length p5) : Nat) : Int)))
       (some (false, ()))
      (ifB (decide (t161.2 < (-(1 : Int))))
        (some (false, ()))
       (ifB (decide (t161.2 ≥ (((List.length p9) : Nat) : Int)))
         (some (false, ()))
        (difference_CheckWithin.l5 p0 p1 (Go.IntKind.wrap Go.IntKind.i64 (p2 + (1 : Int))) p3 p4 p5 p6 p7 p8 p9 p10 p11))))))
   (ifB (decide (t161.1 < (0 : Int)))
     (some (false, ()))
    (ifB (decide (t161.1 ≥ (((List.length p5) : Nat) : Int)))
      (some (false, ()))
     (ifB (decide (t161.2 < (-(1 : Int))))
       (some (false, ()))
      (ifB (decide (t161.2 ≥ (((List.length p9) : Nat) : Int)))
        (some (false, ()))
       (difference_CheckWithin.l5 p0 p1 (Go.IntKind.wrap Go.IntKind.i64 (p2 + (1 : Int))) p3 p4 p5 p6 p7 p8 p9 p10 p11))))))
  (difference_CheckWithin.l11 p11 (((List.length p11) : Nat) : Int) (0 : Int) p3 p4 p5 p6 p7 p8 p9 p10 p11) := (loopAt_step Go.Proofs.C28.ctx 27 5 _).trans (by kernel_rfl)
theorem ancepsref28_index.f_eq (p0 : (List (Int × Int))) (p1 : Int) (p2 : Int) : ancepsref28_index.f p0 p1 p2 =
  ancepsref28_index.l2 p0 (0 : Int) p1 p2 := (Einf_call Go.Proofs.C28.ctx 49 _).trans (by kernel_rfl)
theorem ancepsref28_CheckWithin.l4_eq (p0 : (List (Int × Int))) (p1 : Int) (p2 : Int) (p3 : Int) (p4 : (List (List Int))) (p5 : (List Bool)) (p6 : Int) (p7 : Int) (p8 : (List (List Int))) (p9 : (List Bool)) : ancepsref28_CheckWithin.l4 p0 p1 p2 p3 p4 p5 p6 p7 p8 p9 =
  ifB (decide (p1 < (((List.length p0) : Nat) : Int)))
   (bindD ((ixAt p0 p1)) fun t164 =>
   ifB (decide (t164.1 < (0 : Int)))
    (some (false, ()))
   (ifB (decide (t164.1 ≥ (((List.length p4) : Nat) : Int)))
     (some (false, ()))
    (ifB (decide (t164.2 < (-(1 : Int))))
      (some (false, ()))
     (ifB (decide (t164.2 ≥ (((List.length p8) : Nat) : Int)))
       (some (false, ()))
      (ifB (decide (p1 > (0 : Int)))
        (bindD ((ixAt p0 (Go.IntKind.wrap Go.IntKind.i64 (p1 - (1 : Int))))) fun t165 =>
        bindD (ancepsref28_less.f t165.1 t165.2 t164.1 t164.2) fun t166 =>
        ifB (!t166.1)
         (some (false, ()))
        (bindD (ancepsref28_accepts.f p2 p3 p4 p5 t164.1) fun t167 =>
         ifB t167.1
          (bindD (ancepsref28_accepts.f p6 p7 p8 p9 t164.2) fun t168 =>
          ifB (!t168.1)
           (some (false, ()))
          (ancepsref28_CheckWithin.l10 p0 p1 (0 : Int) p2 p3 p4 p5 p6 p7 p8 p9 t164.1 t164.2))
         (ancepsref28_CheckWithin.l10 p0 p1 (0 : Int) p2 p3 p4 p5 p6 p7 p8 p9 t164.1 t164.2)))
       (bindD (ancepsref28_accepts.f p2 p3 p4 p5 t164.1) fun t169 =>
        ifB t169.1
         (bindD (ancepsref28_accepts.f p6 p7 p8 p9 t164.2) fun t170 =>
         ifB (!t170.1)
          (some (false, ()))
         (ancepsref28_CheckWithin.l10 p0 p1 (0 : Int) p2 p3 p4 p5 p6 p7 p8 p9 t164.1 t164.2))
        (ancepsref28_CheckWithin.l10 p0 p1 (0 : Int) p2 p3 p4 p5 p6 p7 p8 p9 t164.1 t164.2)))))))
  (some (true, ())) := (loopAt_step Go.Proofs.C28.ctx 29 4 _).trans (by kernel_rfl)
theorem automaton_Product.f_eq (p0 : Int) (p1 : Int) (p2 : (List (List Int))) (p3 : (List Bool)) (p4 : Int) (p5 : Int) (p6 : (List (List Int))) (p7 : (List Bool)) (p8 : Int) : automaton_Product.f p0 p1 p2 p3 p4 p5 p6 p7 p8 =
  bindD (automaton_both.f p0 p1 p2 p3 p4 p5 p6 p7) fun t171 =>
  ifB (t171.1 != (0 : Int))
   (some ((0 : Int), ((0 : Int), (([] : (List (List Int))), (([] : (List Bool)), (t171.1, ()))))))
  (ifB (p8 != (1 : Int))
    (ifB (p8 != (2 : Int))
     (ifB (p8 != (3 : Int))
      (some ((0 : Int), ((0 : Int), (([] : (List (List Int))), (([] : (List Bool)), ((6 : Int), ()))))))
     (bindD (automaton_visits.f p0 p1 p2 p3 p4 p5 p6 p7) fun t172 =>
      automaton_Product.l9 p8 (((List.length t172.1) : Nat) : Int) (0 : Int) p0 p1 p2 p3 p4 p5 p6 p7 (0 : Int) (0 : Int) t172.1 ([] : (List ((Int × Int) × Int))) ([] : (List (List Int))) ([] : (List Bool))))
    (bindD (automaton_visits.f p0 p1 p2 p3 p4 p5 p6 p7) fun t173 =>
     automaton_Product.l9 p8 (((List.length t173.1) : Nat) : Int) (0 : Int) p0 p1 p2 p3 p4 p5 p6 p7 (0 : Int) (0 : Int) t173.1 ([] : (List ((Int × Int) × Int))) ([] : (List (List Int))) ([] : (List Bool))))
   (bindD (automaton_visits.f p0 p1 p2 p3 p4 p5 p6 p7) fun t174 =>
    automaton_Product.l9 p8 (((List.length t174.1) : Nat) : Int) (0 : Int) p0 p1 p2 p3 p4 p5 p6 p7 (0 : Int) (0 : Int) t174.1 ([] : (List ((Int × Int) × Int))) ([] : (List (List Int))) ([] : (List Bool)))) := (Einf_call Go.Proofs.C28.ctx 64 _).trans (by kernel_rfl)
theorem ancepsref28_Common.l7_eq (p0 : (List (Int × Int))) (p1 : Int) (p2 : Int) (p3 : Int) (p4 : (List (List Int))) (p5 : (List Bool)) (p6 : Int) (p7 : Int) (p8 : (List (List Int))) (p9 : (List Bool)) (p10 : Int) (p11 : Int) (p12 : Int) (p13 : Int) (p14 : (List (List Int))) (p15 : (List Bool)) (p16 : (List (List Int))) (p17 : (List Bool)) : ancepsref28_Common.l7 p0 p1 p2 p3 p4 p5 p6 p7 p8 p9 p10 p11 p12 p13 p14 p15 p16 p17 =
  ifB (decide (p1 < (((List.length p0) : Nat) : Int)))
   (ancepsref28_Common.l11 p0 p1 (0 : Int) p2 p3 p4 p5 p6 p7 p8 p9 p10 p11 p12 p13 ([] : (List Int)) p14 p15 p16 p17)
  (bindD (ancepsref06_Small.f p12 p13 p16 p17) fun t175 =>
   ifB (!t175.2.2.2.2.1)
    (some ((0 : Int), ((0 : Int), (([] : (List (List Int))), (([] : (List Bool)), ((3 : Int), ()))))))
   (some (t175.1, (t175.2.1, (t175.2.2.1, (t175.2.2.2.1, ((0 : Int), ()))))))) := (loopAt_step Go.Proofs.C28.ctx 31 7 _).trans (by kernel_rfl)
theorem ancepsref06_SameDFA.l4_eq (p0 : Int) (p1 : Int) (p2 : Int) (p3 : (List (List Int))) (p4 : (List Bool)) (p5 : Int) (p6 : Int) (p7 : (List (List Int))) (p8 : (List Bool)) : ancepsref06_SameDFA.l4 p0 p1 p2 p3 p4 p5 p6 p7 p8 =
  ifB (decide (p0 < (((List.length p3) : Nat) : Int)))
   (bindD ((ixAt p3 p0)) fun t176 =>
   bindD ((ixAt p7 p0)) fun t177 =>
   bindD (ancepsref06_Equal.f t176 t177) fun t178 =>
   ifB (!t178.1)
    (some (false, ()))
   (ancepsref06_SameDFA.l4 (Go.IntKind.wrap Go.IntKind.i64 (p0 + (1 : Int))) p1 p2 p3 p4 p5 p6 p7 p8))
  (ancepsref06_SameDFA.l9 (0 : Int) p1 p2 p3 p4 p5 p6 p7 p8) := (loopAt_step Go.Proofs.C28.ctx 32 4 _).trans (by kernel_rfl)
theorem automaton_Count.l10_eq (p0 : Int) (p1 : (List Bool)) (p2 : Int) (p3 : Int) (p4 : Int) (p5 : Int) (p6 : (List (List Int))) (p7 : (List Bool)) (p8 : (List Int)) : automaton_Count.l10 p0 p1 p2 p3 p4 p5 p6 p7 p8 =
  ifB (decide (p3 < p2))
   (bindD ((ixAt p1 p3)) fun t179 =>
   ifB t179
    (bindD ((ixAt p8 p3)) fun t180 =>
    bindD ((ixAt p8 p3)) fun t181 =>
    automaton_Count.l10 p0 p1 p2 (Go.IntKind.wrap Go.IntKind.i64 (p3 + (1 : Int))) p4 p5 p6 p7 (setRow p8 p3 (1 : Int)))
   (automaton_Count.l10 p0 p1 p2 (Go.IntKind.wrap Go.IntKind.i64 (p3 + (1 : Int))) p4 p5 p6 p7 p8))
  (automaton_Count.l16 p0 (0 : Int) p4 p5 p6 p7 p8) := (loopAt_step Go.Proofs.C28.ctx 33 10 _).trans (by kernel_rfl)
theorem ancepsref28_Few.l7_eq (p0 : Int) (p1 : Int) (p2 : Int) (p3 : Int) (p4 : (List (List Int))) (p5 : (List Bool)) (p6 : Int) (p7 : Int) (p8 : (List (List Int))) (p9 : (List Bool)) : ancepsref28_Few.l7 p0 p1 p2 p3 p4 p5 p6 p7 p8 p9 =
  ifB (decide (p1 < (((List.length p8) : Nat) : Int)))
   (ifB (decide (p1 < (61 : Int)))
    (bindD ((ixAt p8 p1)) fun t182 =>
    ancepsref28_Few.l7 (Go.IntKind.wrap Go.IntKind.i64 (p0 + (((List.length t182) : Nat) : Int))) (Go.IntKind.wrap Go.IntKind.i64 (p1 + (1 : Int))) p2 p3 p4 p5 p6 p7 p8 p9)
   (ifB (decide ((Go.IntKind.wrap Go.IntKind.i64 ((((List.length p4) : Nat) : Int) + (((List.length p8) : Nat) : Int))) ≤ (60 : Int)))
     (ifB (decide (p0 ≤ (500 : Int)))
      (ifB (decide ((((List.length p5) : Nat) : Int) ≤ (70 : Int)))
       (some ((decide ((((List.length p9) : Nat) : Int) ≤ (70 : Int))), ()))
      (some (false, ())))
     (some (false, ())))
    (some (false, ()))))
  (ifB (decide ((Go.IntKind.wrap Go.IntKind.i64 ((((List.length p4) : Nat) : Int) + (((List.length p8) : Nat) : Int))) ≤ (60 : Int)))
    (ifB (decide (p0 ≤ (500 : Int)))
     (ifB (decide ((((List.length p5) : Nat) : Int) ≤ (70 : Int)))
      (some ((decide ((((List.length p9) : Nat) : Int) ≤ (70 : Int))), ()))
     (some (false, ())))
    (some (false, ())))
   (some (false, ()))) := (loopAt_step Go.Proofs.C28.ctx 12 7 _).trans (by kernel_rfl)
theorem difference_side.f1_eq (p0 : Int) (p1 : Int) (p2 : (List (List Int))) (p3 : (List Bool)) (p4 : Int) (p5 : Int) (p6 : (List (List Int))) (p7 : (List Bool)) : difference_side.f1 p0 p1 p2 p3 p4 p5 p6 p7 =
  bindD (difference_either.f p1 p5) fun t183 =>
  ifB (!t183.1)
   (some (([] : (List ((Int × Int) × (Int × Int)))), ()))
  (difference_side.l7_1 (0 : Int) p0 p1 p2 p3 p4 p5 p6 p7 (((p1, p5), ((-(1 : Int)), (-(1 : Int)))) :: ([] : (List ((Int × Int) × (Int × Int))))) (Go.Proofs.R.mput (Go.Proofs.R.Ty.pair (Go.Proofs.R.Ty.int Go.IntKind.i64) (Go.Proofs.R.Ty.int Go.IntKind.i64)) (p1, p5) true ([] : (List ((Int × Int) × Bool))))) := (Einf_call Go.Proofs.C28.ctx 54 _).trans (by kernel_rfl)
theorem difference_apart.l3_eq (p0 : Int) (p1 : Int) (p2 : Int) (p3 : Int) (p4 : (List (List Int))) (p5 : (List Bool)) (p6 : Int) (p7 : Int) (p8 : (List (List Int))) (p9 : (List Bool)) (p10 : (List ((Int × Int) × (Int × Int)))) : difference_apart.l3 p0 p1 p2 p3 p4 p5 p6 p7 p8 p9 p10 =
  ifB (decide (p1 < p0))
   (bindD ((ixAt p10 p1)) fun t184 =>
   bindD ((ixAt p10 p1)) fun t185 =>
   bindD (difference_accepts.f p2 p3 p4 p5 t185.1.1) fun t186 =>
   bindD (difference_accepts.f p6 p7 p8 p9 t185.1.2) fun t187 =>
   ifB (t186.1 == t187.1)
    (difference_apart.l3 p0 (Go.IntKind.wrap Go.IntKind.i64 (p1 + (1 : Int))) p2 p3 p4 p5 p6 p7 p8 p9 p10)
   (difference_apart.l9 t186.1 p1 p10 ([] : (List Int))))
  (some (([] : (List Int)), ((0 : Int), ()))) := (loopAt_step Go.Proofs.C28.ctx 39 3 _).trans (by kernel_rfl)
theorem ancepsref06_Valid.f_eq (p0 : Int) (p1 : Int) (p2 : (List (List Int))) (p3 : (List Bool)) : ancepsref06_Valid.f p0 p1 p2 p3 =
  ifB (decide (p0 < (1 : Int)))
   (some ((1 : Int), ()))
  (ifB (decide (p0 > (8 : Int)))
    (some ((1 : Int), ()))
   (ifB (decide ((((List.length p2) : Nat) : Int) > (400 : Int)))
     (some ((1 : Int), ()))
    (ifB ((((List.length p3) : Nat) : Int) != (((List.length p2) : Nat) : Int))
      (some ((1 : Int), ()))
     (ifB ((((List.length p2) : Nat) : Int) == (0 : Int))
       (ifB (p1 != (-(1 : Int)))
        (some ((1 : Int), ()))
       (ifB (decide ((((List.length p2) : Nat) : Int) > (0 : Int)))
         (ifB (decide (p1 < (0 : Int)))
          (some ((1 : Int), ()))
         (ifB (decide (p1 ≥ (((List.length p2) : Nat) : Int)))
           (some ((1 : Int), ()))
          (ancepsref06_Valid.l7 (((List.length p2) : Nat) : Int) (0 : Int) p0 p1 p2 p3)))
        (ancepsref06_Valid.l7 (((List.length p2) : Nat) : Int) (0 : Int) p0 p1 p2 p3)))
      (ifB (decide ((((List.length p2) : Nat) : Int) > (0 : Int)))
        (ifB (decide (p1 < (0 : Int)))
         (some ((1 : Int), ()))
        (ifB (decide (p1 ≥ (((List.length p2) : Nat) : Int)))
          (some ((1 : Int), ()))
         (ancepsref06_Valid.l7 (((List.length p2) : Nat) : Int) (0 : Int) p0 p1 p2 p3)))
       (ancepsref06_Valid.l7 (((List.length p2) : Nat) : Int) (0 : Int) p0 p1 p2 p3)))))) := (Einf_call Go.Proofs.C28.ctx 69 _).trans (by kernel_rfl)
theorem ancepsref28_tells.l3_eq (p0 : Int) (p1 : Int) (p2 : Int) (p3 : (List (List Int))) (p4 : (List Bool)) (p5 : Int) (p6 : Int) (p7 : (List (List Int))) (p8 : (List Bool)) (p9 : (List (Int × Int))) (p10 : (List (List Int))) : ancepsref28_tells.l3 p0 p1 p2 p3 p4 p5 p6 p7 p8 p9 p10 =
  ifB (decide (p0 < (((List.length p9) : Nat) : Int)))
   (bindD ((ixAt p9 p0)) fun t188 =>
   bindD (ancepsref28_accepts.f p1 p2 p3 p4 t188.1) fun t189 =>
   bindD ((ixAt p9 p0)) fun t190 =>
   bindD (ancepsref28_accepts.f p5 p6 p7 p8 t190.2) fun t191 =>
   ifB t189.1
    (ifB (!t191.1)
     (bindD ((ixAt p10 p0)) fun t192 =>
     some (t192, ((1 : Int), ())))
    (ifB t191.1
      (ifB (!t189.1)
       (bindD ((ixAt p10 p0)) fun t193 =>
       some (t193, ((2 : Int), ())))
      (ancepsref28_tells.l3 (Go.IntKind.wrap Go.IntKind.i64 (p0 + (1 : Int))) p1 p2 p3 p4 p5 p6 p7 p8 p9 p10))
     (ancepsref28_tells.l3 (Go.IntKind.wrap Go.IntKind.i64 (p0 + (1 : Int))) p1 p2 p3 p4 p5 p6 p7 p8 p9 p10)))
   (ifB t191.1
     (ifB (!t189.1)
      (bindD ((ixAt p10 p0)) fun t194 =>
      some (t194, ((2 : Int), ())))
     (ancepsref28_tells.l3 (Go.IntKind.wrap Go.IntKind.i64 (p0 + (1 : Int))) p1 p2 p3 p4 p5 p6 p7 p8 p9 p10))
    (ancepsref28_tells.l3 (Go.IntKind.wrap Go.IntKind.i64 (p0 + (1 : Int))) p1 p2 p3 p4 p5 p6 p7 p8 p9 p10)))
  (some (([] : (List Int)), ((0 : Int), ()))) := (loopAt_step Go.Proofs.C28.ctx 45 3 _).trans (by kernel_rfl)
theorem difference_visit.f1_eq (p0 : (List ((Int × Int) × (Int × Int)))) (p1 : Int) (p2 : Int) (p3 : (List (List Int))) (p4 : (List Bool)) (p5 : Int) (p6 : Int) (p7 : (List (List Int))) (p8 : (List Bool)) : difference_visit.f1 p0 p1 p2 p3 p4 p5 p6 p7 p8 =
  bindD (difference_visit_70.f1 p0 p1 p2 p3 p4 p5 p6 p7 p8) fun t195 =>
  some ((decide (t195.1 ≥ (0 : Int))), ()) := (Einf_call Go.Proofs.C28.ctx 53 _).trans (by kernel_rfl)
theorem ancepsref28_within.l3_eq (p0 : (List (Int × Int))) (p1 : Int) (p2 : Int) (p3 : Int) (p4 : (List (List Int))) (p5 : (List Bool)) (p6 : Int) (p7 : Int) (p8 : (List (List Int))) (p9 : (List Bool)) : ancepsref28_within.l3 p0 p1 p2 p3 p4 p5 p6 p7 p8 p9 =
  ifB (decide (p1 < (((List.length p0) : Nat) : Int)))
   (bindD ((ixAt p0 p1)) fun t196 =>
   bindD (ancepsref28_accepts.f p2 p3 p4 p5 t196.1) fun t197 =>
   ifB t197.1
    (bindD ((ixAt p0 p1)) fun t198 =>
    bindD (ancepsref28_accepts.f p6 p7 p8 p9 t198.2) fun t199 =>
    ifB (!t199.1)
     (some (false, ()))
    (ancepsref28_within.l3 p0 (Go.IntKind.wrap Go.IntKind.i64 (p1 + (1 : Int))) p2 p3 p4 p5 p6 p7 p8 p9))
   (ancepsref28_within.l3 p0 (Go.IntKind.wrap Go.IntKind.i64 (p1 + (1 : Int))) p2 p3 p4 p5 p6 p7 p8 p9))
  (some (true, ())) := (loopAt_step Go.Proofs.C28.ctx 46 3 _).trans (by kernel_rfl)
theorem difference_left.f_eq (p0 : Int) (p1 : Int) : difference_left.f p0 p1 =
  some ((decide (p0 ≥ (0 : Int))), ()) := (Einf_call Go.Proofs.C28.ctx 55 _).trans (by kernel_rfl)
theorem difference_side.l7_eq (p0 : Int) (p1 : Int) (p2 : Int) (p3 : (List (List Int))) (p4 : (List Bool)) (p5 : Int) (p6 : Int) (p7 : (List (List Int))) (p8 : (List Bool)) (p9 : (List ((Int × Int) × (Int × Int)))) (p10 : (List ((Int × Int) × Bool))) : difference_side.l7 p0 p1 p2 p3 p4 p5 p6 p7 p8 p9 p10 =
  ifB (decide (p0 < (((List.length p9) : Nat) : Int)))
   (difference_side.l10 p0 p1 (0 : Int) p1 p2 p3 p4 p5 p6 p7 p8 p9 p10)
  (some (p9, ())) := (loopAt_step Go.Proofs.C28.ctx 54 7 _).trans (by kernel_rfl)
theorem difference_visit_70.f_eq (p0 : (List ((Int × Int) × (Int × Int)))) (p1 : Int) (p2 : Int) (p3 : (List (List Int))) (p4 : (List Bool)) (p5 : Int) (p6 : Int) (p7 : (List (List Int))) (p8 : (List Bool)) : difference_visit_70.f p0 p1 p2 p3 p4 p5 p6 p7 p8 =
  difference_visit_70.l2 p0 p1 p2 p3 p4 p5 p6 p7 p8 (((List.length p0) : Nat) : Int) (0 : Int) := (Einf_call Go.Proofs.C28.ctx 70 _).trans (by kernel_rfl)
theorem ancepsref28_reach.l6_eq (p0 : Int) (p1 : Int) (p2 : Int) (p3 : (List (List Int))) (p4 : (List Bool)) (p5 : Int) (p6 : Int) (p7 : (List (List Int))) (p8 : (List Bool)) (p9 : (List (Int × Int))) (p10 : (List (List Int))) (p11 : (List (Int × Int))) (p12 : (List (List Int))) : ancepsref28_reach.l6 p0 p1 p2 p3 p4 p5 p6 p7 p8 p9 p10 p11 p12 =
  ifB (decide (p0 < (((List.length p11) : Nat) : Int)))
   (ancepsref28_reach.l9 p0 (0 : Int) p1 p2 p3 p4 p5 p6 p7 p8 p9 p10 p11 p12)
  (some (p11, (p12, ()))) := (loopAt_step Go.Proofs.C28.ctx 47 6 _).trans (by kernel_rfl)
theorem ancepsref28_accepts.f_eq (p0 : Int) (p1 : Int) (p2 : (List (List Int))) (p3 : (List Bool)) (p4 : Int) : ancepsref28_accepts.f p0 p1 p2 p3 p4 =
  ifB (decide (p4 ≥ (0 : Int)))
   (bindD ((ixAt p3 p4)) fun t200 =>
   some (t200, ()))
  (some (false, ())) := (Einf_call Go.Proofs.C28.ctx 48 _).trans (by kernel_rfl)
theorem automaton_Valid.l7_eq (p0 : (List (List Int))) (p1 : Int) (p2 : Int) (p3 : Int) (p4 : Int) (p5 : (List (List Int))) (p6 : (List Bool)) (p7 : Int) : automaton_Valid.l7 p0 p1 p2 p3 p4 p5 p6 p7 =
  ifB (decide (p2 < p1))
   (bindD ((ixAt p0 p2)) fun t201 =>
   ifB ((((List.length t201) : Nat) : Int) != p3)
    (some ((1 : Int), ()))
   (bindD (slices_ContainsFunc_int_int.f t201 p7) fun t202 =>
    ifB t202.1
     (some ((1 : Int), ()))
    (automaton_Valid.l7 p0 p1 (Go.IntKind.wrap Go.IntKind.i64 (p2 + (1 : Int))) p3 p4 p5 p6 p7)))
  (some ((0 : Int), ())) := (loopAt_step Go.Proofs.C28.ctx 57 7 _).trans (by kernel_rfl)
theorem automaton_Run.l5_eq (p0 : Int) (p1 : (List Int)) (p2 : Int) (p3 : Int) (p4 : Int) (p5 : Int) (p6 : (List (List Int))) (p7 : (List Bool)) : automaton_Run.l5 p0 p1 p2 p3 p4 p5 p6 p7 =
  ifB (decide (p3 < p2))
   (bindD ((ixAt p1 p3)) fun t203 =>
   bindD (automaton_next.f p4 p5 p6 p7 p0 t203) fun t204 =>
   automaton_Run.l5 t204.1 p1 p2 (Go.IntKind.wrap Go.IntKind.i64 (p3 + (1 : Int))) p4 p5 p6 p7)
  (some (p0, ())) := (loopAt_step Go.Proofs.C28.ctx 59 5 _).trans (by kernel_rfl)
theorem difference_Compare.l17_eq (p0 : Int) (p1 : Int) (p2 : Int) (p3 : Int) (p4 : Int) (p5 : Int) (p6 : Int) (p7 : (List (List Int))) (p8 : (List Bool)) (p9 : Int) (p10 : Int) (p11 : (List (List Int))) (p12 : (List Bool)) (p13 : Bool) (p14 : Bool) (p15 : Bool) (p16 : Bool) (p17 : Bool) (p18 : Bool) (p19 : (List ((Int × Int) × Int))) (p20 : Nat) (p21 : (List Nat)) (p22 : (List Int)) (p23 : (List Int)) (p24 : (List Int)) (p25 : (List Int)) (p26 : (List Int)) (p27 : (List Int)) (p28 : (List Int)) (p29 : (List Int)) (p30 : (List ((Int × Int) × Int))) : difference_Compare.l17 p0 p1 p2 p3 p4 p5 p6 p7 p8 p9 p10 p11 p12 p13 p14 p15 p16 p17 p18 p19 p20 p21 p22 p23 p24 p25 p26 p27 p28 p29 p30 =
  eachB p30 p20 p21
   (bindD ((Go.Proofs.R.grow ((List.length p27) + (List.length (p0 :: ([] : (List Int))))))) fun t205 =>
   bindD ((Go.Proofs.R.grow ((List.length p28) + (List.length (p1 :: ([] : (List Int))))))) fun t206 =>
   bindD ((Go.Proofs.R.grow ((List.length p29) + (List.length (p2 :: ([] : (List Int))))))) fun t207 =>
   difference_Compare.l13 p3 (Go.IntKind.wrap Go.IntKind.i64 (p4 + (1 : Int))) p5 p6 p7 p8 p9 p10 p11 p12 p13 p14 p15 p16 p17 p18 p19 p22 p23 p24 p25 p26 (p27 ++ (p0 :: ([] : (List Int)))) (p28 ++ (p1 :: ([] : (List Int)))) (p29 ++ (p2 :: ([] : (List Int))))) fun t208 t209 =>
   bindD ((Go.Proofs.R.entryAt p30 p20 (Go.Proofs.R.seenAdd p21 t208))) fun t210 =>
   bindD (difference_accepts.f p5 p6 p7 p8 t210.1.1) fun t211 =>
   bindD (difference_accepts.f p9 p10 p11 p12 t210.1.2) fun t212 =>
   ifB t211.1
    (ifB t212.1
     (difference_Compare.l27 (Go.IntKind.wrap Go.IntKind.i64 (p0 + t210.2)) p1 p2 t210.2 p3 p4 p5 (0 : Int) p5 p6 p7 p8 p9 p10 p11 p12 p13 p14 p15 p16 p17 p18 p19 t210.1.1 t210.1.2 p20 (Go.Proofs.R.seenAdd p21 t208) p22 p23 p24 p25 p26 p27 p28 p29 p30)
    (ifB t211.1
      (difference_Compare.l27 p0 (Go.IntKind.wrap Go.IntKind.i64 (p1 + t210.2)) p2 t210.2 p3 p4 p5 (0 : Int) p5 p6 p7 p8 p9 p10 p11 p12 p13 p14 p15 p16 p17 p18 p19 t210.1.1 t210.1.2 p20 (Go.Proofs.R.seenAdd p21 t208) p22 p23 p24 p25 p26 p27 p28 p29 p30)
     (ifB t212.1
       (difference_Compare.l27 p0 p1 (Go.IntKind.wrap Go.IntKind.i64 (p2 + t210.2)) t210.2 p3 p4 p5 (0 : Int) p5 p6 p7 p8 p9 p10 p11 p12 p13 p14 p15 p16 p17 p18 p19 t210.1.1 t210.1.2 p20 (Go.Proofs.R.seenAdd p21 t208) p22 p23 p24 p25 p26 p27 p28 p29 p30)
      (difference_Compare.l27 p0 p1 p2 t210.2 p3 p4 p5 (0 : Int) p5 p6 p7 p8 p9 p10 p11 p12 p13 p14 p15 p16 p17 p18 p19 t210.1.1 t210.1.2 p20 (Go.Proofs.R.seenAdd p21 t208) p22 p23 p24 p25 p26 p27 p28 p29 p30))))
   (ifB t211.1
     (difference_Compare.l27 p0 (Go.IntKind.wrap Go.IntKind.i64 (p1 + t210.2)) p2 t210.2 p3 p4 p5 (0 : Int) p5 p6 p7 p8 p9 p10 p11 p12 p13 p14 p15 p16 p17 p18 p19 t210.1.1 t210.1.2 p20 (Go.Proofs.R.seenAdd p21 t208) p22 p23 p24 p25 p26 p27 p28 p29 p30)
    (ifB t212.1
      (difference_Compare.l27 p0 p1 (Go.IntKind.wrap Go.IntKind.i64 (p2 + t210.2)) t210.2 p3 p4 p5 (0 : Int) p5 p6 p7 p8 p9 p10 p11 p12 p13 p14 p15 p16 p17 p18 p19 t210.1.1 t210.1.2 p20 (Go.Proofs.R.seenAdd p21 t208) p22 p23 p24 p25 p26 p27 p28 p29 p30)
     (difference_Compare.l27 p0 p1 p2 t210.2 p3 p4 p5 (0 : Int) p5 p6 p7 p8 p9 p10 p11 p12 p13 p14 p15 p16 p17 p18 p19 t210.1.1 t210.1.2 p20 (Go.Proofs.R.seenAdd p21 t208) p22 p23 p24 p25 p26 p27 p28 p29 p30))) := (loopAt_step Go.Proofs.C28.ctx 13 17 _).trans (by kernel_rfl)
theorem ancepsref28_Compare.l18_eq (p0 : Int) (p1 : (List (Int × Int))) (p2 : Int) (p3 : Int) (p4 : Int) (p5 : Int) (p6 : Int) (p7 : Int) (p8 : Int) (p9 : (List (List Int))) (p10 : (List Bool)) (p11 : Int) (p12 : Int) (p13 : (List (List Int))) (p14 : (List Bool)) (p15 : Bool) (p16 : Bool) (p17 : Bool) (p18 : Bool) (p19 : Bool) (p20 : Bool) (p21 : (List Int)) (p22 : (List Int)) (p23 : (List Int)) (p24 : (List Int)) (p25 : (List Int)) (p26 : (List Int)) (p27 : (List Int)) (p28 : (List Int)) (p29 : (List Int)) (p30 : (List Int)) : ancepsref28_Compare.l18 p0 p1 p2 p3 p4 p5 p6 p7 p8 p9 p10 p11 p12 p13 p14 p15 p16 p17 p18 p19 p20 p21 p22 p23 p24 p25 p26 p27 p28 p29 p30 =
  ifB (decide (p6 < (((List.length p1) : Nat) : Int)))
   (bindD ((ixAt p1 p6)) fun t213 =>
   bindD (ancepsref28_accepts.f p7 p8 p9 p10 t213.1) fun t214 =>
   bindD ((ixAt p1 p6)) fun t215 =>
   bindD (ancepsref28_accepts.f p11 p12 p13 p14 t215.2) fun t216 =>
   ifB t214.1
    (ifB t216.1
     (bindD ((ixAt p22 p6)) fun t217 =>
     bindD ((ixAt p22 p6)) fun t218 =>
     ifB t214.1
      (ifB (!t216.1)
       (bindD ((ixAt p22 p6)) fun t219 =>
       bindD ((ixAt p22 p6)) fun t220 =>
       ifB t216.1
        (ifB (!t214.1)
         (bindD ((ixAt p22 p6)) fun t221 =>
         bindD ((ixAt p22 p6)) fun t222 =>
         ancepsref28_Compare.l28 p0 p1 p2 (Go.IntKind.wrap Go.IntKind.i64 (p3 + t218)) (Go.IntKind.wrap Go.IntKind.i64 (p4 + t220)) (Go.IntKind.wrap Go.IntKind.i64 (p5 + t222)) p6 (0 : Int) p7 p8 p9 p10 p11 p12 p13 p14 p15 p16 p17 p18 p19 p20 p21 p22 p23 p24 p25 p26 p27 p28 p29 p30)
        (ancepsref28_Compare.l28 p0 p1 p2 (Go.IntKind.wrap Go.IntKind.i64 (p3 + t218)) (Go.IntKind.wrap Go.IntKind.i64 (p4 + t220)) p5 p6 (0 : Int) p7 p8 p9 p10 p11 p12 p13 p14 p15 p16 p17 p18 p19 p20 p21 p22 p23 p24 p25 p26 p27 p28 p29 p30))
       (ancepsref28_Compare.l28 p0 p1 p2 (Go.IntKind.wrap Go.IntKind.i64 (p3 + t218)) (Go.IntKind.wrap Go.IntKind.i64 (p4 + t220)) p5 p6 (0 : Int) p7 p8 p9 p10 p11 p12 p13 p14 p15 p16 p17 p18 p19 p20 p21 p22 p23 p24 p25 p26 p27 p28 p29 p30))
      (ifB t216.1
        (ifB (!t214.1)
         (bindD ((ixAt p22 p6)) fun t223 =>
         bindD ((ixAt p22 p6)) fun t224 =>
         ancepsref28_Compare.l28 p0 p1 p2 (Go.IntKind.wrap Go.IntKind.i64 (p3 + t218)) p4 (Go.IntKind.wrap Go.IntKind.i64 (p5 + t224)) p6 (0 : Int) p7 p8 p9 p10 p11 p12 p13 p14 p15 p16 p17 p18 p19 p20 p21 p22 p23 p24 p25 p26 p27 p28 p29 p30)
        (ancepsref28_Compare.l28 p0 p1 p2 (Go.IntKind.wrap Go.IntKind.i64 (p3 + t218)) p4 p5 p6 (0 : Int) p7 p8 p9 p10 p11 p12 p13 p14 p15 p16 p17 p18 p19 p20 p21 p22 p23 p24 p25 p26 p27 p28 p29 p30))
       (ancepsref28_Compare.l28 p0 p1 p2 (Go.IntKind.wrap Go.IntKind.i64 (p3 + t218)) p4 p5 p6 (0 : Int) p7 p8 p9 p10 p11 p12 p13 p14 p15 p16 p17 p18 p19 p20 p21 p22 p23 p24 p25 p26 p27 p28 p29 p30)))
     (ifB t216.1
       (ifB (!t214.1)
        (bindD ((ixAt p22 p6)) fun t225 =>
        bindD ((ixAt p22 p6)) fun t226 =>
        ancepsref28_Compare.l28 p0 p1 p2 (Go.IntKind.wrap Go.IntKind.i64 (p3 + t218)) p4 (Go.IntKind.wrap Go.IntKind.i64 (p5 + t226)) p6 (0 : Int) p7 p8 p9 p10 p11 p12 p13 p14 p15 p16 p17 p18 p19 p20 p21 p22 p23 p24 p25 p26 p27 p28 p29 p30)
       (ancepsref28_Compare.l28 p0 p1 p2 (Go.IntKind.wrap Go.IntKind.i64 (p3 + t218)) p4 p5 p6 (0 : Int) p7 p8 p9 p10 p11 p12 p13 p14 p15 p16 p17 p18 p19 p20 p21 p22 p23 p24 p25 p26 p27 p28 p29 p30))
      (ancepsref28_Compare.l28 p0 p1 p2 (Go.IntKind.wrap Go.IntKind.i64 (p3 + t218)) p4 p5 p6 (0 : Int) p7 p8 p9 p10 p11 p12 p13 p14 p15 p16 p17 p18 p19 p20 p21 p22 p23 p24 p25 p26 p27 p28 p29 p30)))
    (ifB t214.1
      (ifB (!t216.1)
       (bindD ((ixAt p22 p6)) fun t227 =>
       bindD ((ixAt p22 p6)) fun t228 =>
       ifB t216.1
        (ifB (!t214.1)
         (bindD ((ixAt p22 p6)) fun t229 =>
         bindD ((ixAt p22 p6)) fun t230 =>
         ancepsref28_Compare.l28 p0 p1 p2 p3 (Go.IntKind.wrap Go.IntKind.i64 (p4 + t228)) (Go.IntKind.wrap Go.IntKind.i64 (p5 + t230)) p6 (0 : Int) p7 p8 p9 p10 p11 p12 p13 p14 p15 p16 p17 p18 p19 p20 p21 p22 p23 p24 p25 p26 p27 p28 p29 p30)
        (ancepsref28_Compare.l28 p0 p1 p2 p3 (Go.IntKind.wrap Go.IntKind.i64 (p4 + t228)) p5 p6 (0 : Int) p7 p8 p9 p10 p11 p12 p13 p14 p15 p16 p17 p18 p19 p20 p21 p22 p23 p24 p25 p26 p27 p28 p29 p30))
       (ancepsref28_Compare.l28 p0 p1 p2 p3 (Go.IntKind.wrap Go.IntKind.i64 (p4 + t228)) p5 p6 (0 : Int) p7 p8 p9 p10 p11 p12 p13 p14 p15 p16 p17 p18 p19 p20 p21 p22 p23 p24 p25 p26 p27 p28 p29 p30))
      (ifB t216.1
        (ifB (!t214.1)
         (bindD ((ixAt p22 p6)) fun t231 =>
         bindD ((ixAt p22 p6)) fun t232 =>
         ancepsref28_Compare.l28 p0 p1 p2 p3 p4 (Go.IntKind.wrap Go.IntKind.i64 (p5 + t232)) p6 (0 : Int) p7 p8 p9 p10 p11 p12 p13 p14 p15 p16 p17 p18 p19 p20 p21 p22 p23 p24 p25 p26 p27 p28 p29 p30)
        (ancepsref28_Compare.l28 p0 p1 p2 p3 p4 p5 p6 (0 : Int) p7 p8 p9 p10 p11 p12 p13 p14 p15 p16 p17 p18 p19 p20 p21 p22 p23 p24 p25 p26 p27 p28 p29 p30))
       (ancepsref28_Compare.l28 p0 p1 p2 p3 p4 p5 p6 (0 : Int) p7 p8 p9 p10 p11 p12 p13 p14 p15 p16 p17 p18 p19 p20 p21 p22 p23 p24 p25 p26 p27 p28 p29 p30)))
     (ifB t216.1
       (ifB (!t214.1)
        (bindD ((ixAt p22 p6)) fun t233 =>
        bindD ((ixAt p22 p6)) fun t234 =>
        ancepsref28_Compare.l28 p0 p1 p2 p3 p4 (Go.IntKind.wrap Go.IntKind.i64 (p5 + t234)) p6 (0 : Int) p7 p8 p9 p10 p11 p12 p13 p14 p15 p16 p17 p18 p19 p20 p21 p22 p23 p24 p25 p26 p27 p28 p29 p30)
       (ancepsref28_Compare.l28 p0 p1 p2 p3 p4 p5 p6 (0 : Int) p7 p8 p9 p10 p11 p12 p13 p14 p15 p16 p17 p18 p19 p20 p21 p22 p23 p24 p25 p26 p27 p28 p29 p30))
      (ancepsref28_Compare.l28 p0 p1 p2 p3 p4 p5 p6 (0 : Int) p7 p8 p9 p10 p11 p12 p13 p14 p15 p16 p17 p18 p19 p20 p21 p22 p23 p24 p25 p26 p27 p28 p29 p30))))
   (ifB t214.1
     (ifB (!t216.1)
      (bindD ((ixAt p22 p6)) fun t235 =>
      bindD ((ixAt p22 p6)) fun t236 =>
      ifB t216.1
       (ifB (!t214.1)
        (bindD ((ixAt p22 p6)) fun t237 =>
        bindD ((ixAt p22 p6)) fun t238 =>
        ancepsref28_Compare.l28 p0 p1 p2 p3 (Go.IntKind.wrap Go.IntKind.i64 (p4 + t236)) (Go.IntKind.wrap Go.IntKind.i64 (p5 + t238)) p6 (0 : Int) p7 p8 p9 p10 p11 p12 p13 p14 p15 p16 p17 p18 p19 p20 p21 p22 p23 p24 p25 p26 p27 p28 p29 p30)
       (ancepsref28_Compare.l28 p0 p1 p2 p3 (Go.IntKind.wrap Go.IntKind.i64 (p4 + t236)) p5 p6 (0 : Int) p7 p8 p9 p10 p11 p12 p13 p14 p15 p16 p17 p18 p19 p20 p21 p22 p23 p24 p25 p26 p27 p28 p29 p30))
      (ancepsref28_Compare.l28 p0 p1 p2 p3 (Go.IntKind.wrap Go.IntKind.i64 (p4 + t236)) p5 p6 (0 : Int) p7 p8 p9 p10 p11 p12 p13 p14 p15 p16 p17 p18 p19 p20 p21 p22 p23 p24 p25 p26 p27 p28 p29 p30))
     (ifB t216.1
       (ifB (!t214.1)
        (bindD ((ixAt p22 p6)) fun t239 =>
        bindD ((ixAt p22 p6)) fun t240 =>
        ancepsref28_Compare.l28 p0 p1 p2 p3 p4 (Go.IntKind.wrap Go.IntKind.i64 (p5 + t240)) p6 (0 : Int) p7 p8 p9 p10 p11 p12 p13 p14 p15 p16 p17 p18 p19 p20 p21 p22 p23 p24 p25 p26 p27 p28 p29 p30)
       (ancepsref28_Compare.l28 p0 p1 p2 p3 p4 p5 p6 (0 : Int) p7 p8 p9 p10 p11 p12 p13 p14 p15 p16 p17 p18 p19 p20 p21 p22 p23 p24 p25 p26 p27 p28 p29 p30))
      (ancepsref28_Compare.l28 p0 p1 p2 p3 p4 p5 p6 (0 : Int) p7 p8 p9 p10 p11 p12 p13 p14 p15 p16 p17 p18 p19 p20 p21 p22 p23 p24 p25 p26 p27 p28 p29 p30)))
    (ifB t216.1
      (ifB (!t214.1)
       (bindD ((ixAt p22 p6)) fun t241 =>
       bindD ((ixAt p22 p6)) fun t242 =>
       ancepsref28_Compare.l28 p0 p1 p2 p3 p4 (Go.IntKind.wrap Go.IntKind.i64 (p5 + t242)) p6 (0 : Int) p7 p8 p9 p10 p11 p12 p13 p14 p15 p16 p17 p18 p19 p20 p21 p22 p23 p24 p25 p26 p27 p28 p29 p30)
      (ancepsref28_Compare.l28 p0 p1 p2 p3 p4 p5 p6 (0 : Int) p7 p8 p9 p10 p11 p12 p13 p14 p15 p16 p17 p18 p19 p20 p21 p22 p23 p24 p25 p26 p27 p28 p29 p30))
     (ancepsref28_Compare.l28 p0 p1 p2 p3 p4 p5 p6 (0 : Int) p7 p8 p9 p10 p11 p12 p13 p14 p15 p16 p17 p18 p19 p20 p21 p22 p23 p24 p25 p26 p27 p28 p29 p30))))
  (bindD ((Go.Proofs.R.grow ((List.length p28) + (List.length (p3 :: ([] : (List Int))))))) fun t243 =>
   bindD ((Go.Proofs.R.grow ((List.length p29) + (List.length (p4 :: ([] : (List Int))))))) fun t244 =>
   bindD ((Go.Proofs.R.grow ((List.length p30) + (List.length (p5 :: ([] : (List Int))))))) fun t245 =>
   ancepsref28_Compare.l13 p0 p1 (Go.IntKind.wrap Go.IntKind.i64 (p2 + (1 : Int))) p7 p8 p9 p10 p11 p12 p13 p14 p15 p16 p17 p18 p19 p20 p21 p23 p24 p25 p26 p27 (p28 ++ (p3 :: ([] : (List Int)))) (p29 ++ (p4 :: ([] : (List Int)))) (p30 ++ (p5 :: ([] : (List Int))))) := (loopAt_step Go.Proofs.C28.ctx 14 18 _).trans (by kernel_rfl)
theorem ancepsref06_Equal.l4_eq (p0 : (List Int)) (p1 : (List Int)) (p2 : Int) : ancepsref06_Equal.l4 p0 p1 p2 =
  ifB (decide (p2 < (((List.length p0) : Nat) : Int)))
   (bindD ((ixAt p0 p2)) fun t246 =>
   bindD ((ixAt p1 p2)) fun t247 =>
   ifB (t246 != t247)
    (some (false, ()))
   (ancepsref06_Equal.l4 p0 p1 (Go.IntKind.wrap Go.IntKind.i64 (p2 + (1 : Int)))))
  (some (true, ())) := (loopAt_step Go.Proofs.C28.ctx 51 4 _).trans (by kernel_rfl)
theorem ancepsref28_numbers.l4_eq (p0 : (List Int)) (p1 : (List Int)) (p2 : Int) : ancepsref28_numbers.l4 p0 p1 p2 =
  ifB (decide (p2 < (((List.length p0) : Nat) : Int)))
   (bindD ((ixAt p0 p2)) fun t248 =>
   bindD ((ixAt p1 p2)) fun t249 =>
   ifB (t248 != t249)
    (some (false, ()))
   (ancepsref28_numbers.l4 p0 p1 (Go.IntKind.wrap Go.IntKind.i64 (p2 + (1 : Int)))))
  (some (true, ())) := (loopAt_step Go.Proofs.C28.ctx 52 4 _).trans (by kernel_rfl)
theorem ancepsref06_Made.l8_eq (p0 : Int) (p1 : Int) (p2 : Int) (p3 : Int) (p4 : (List Int)) (p5 : Int) (p6 : Int) (p7 : Int) (p8 : Int) (p9 : Int) (p10 : (List Int)) (p11 : (List (List Int))) (p12 : (List Bool)) (p13 : (List (List Int))) (p14 : (List Bool)) : ancepsref06_Made.l8 p0 p1 p2 p3 p4 p5 p6 p7 p8 p9 p10 p11 p12 p13 p14 =
  ifB (decide (p2 < p8))
   (bindD ((ixAt p4 (Go.IntKind.wrap Go.IntKind.i64 ((Go.IntKind.wrap Go.IntKind.i64 (p1 * p8)) + p2)))) fun t250 =>
   ifB ((Go.IntKind.wrap Go.IntKind.i64 (p0 + (1 : Int))) == (0 : Int))
    (none)
   (bindD ((Go.Proofs.R.grow ((List.length p10) + (List.length ((Go.IntKind.wrap Go.IntKind.i64 ((Int.tmod (Go.IntKind.wrap Go.IntKind.i64 t250) (Go.IntKind.wrap Go.IntKind.i64 (p0 + (1 : Int)))) - (1 : Int))) :: ([] : (List Int))))))) fun t251 =>
    ancepsref06_Made.l8 p0 p1 (Go.IntKind.wrap Go.IntKind.i64 (p2 + (1 : Int))) p3 p4 p5 p6 p7 p8 p9 (p10 ++ ((Go.IntKind.wrap Go.IntKind.i64 ((Int.tmod (Go.IntKind.wrap Go.IntKind.i64 t250) (Go.IntKind.wrap Go.IntKind.i64 (p0 + (1 : Int)))) - (1 : Int))) :: ([] : (List Int)))) p11 p12 p13 p14))
  (bindD ((Go.Proofs.R.grow ((List.length p13) + (List.length (p10 :: ([] : (List (List Int)))))))) fun t252 =>
   ifB (decide (p1 < (0 : Int)))
    (none)
   (bindD ((Go.Proofs.R.grow ((List.length p14) + (List.length (((Go.Proofs.R.bitsOp Go.BinOp.and Go.IntKind.u16 (Go.Proofs.R.shrInt Go.IntKind.u16 p5 p1) (1 : Int)) == (1 : Int)) :: ([] : (List Bool))))))) fun t253 =>
    ancepsref06_Made.l4 p0 (Go.IntKind.wrap Go.IntKind.i64 (p1 + (1 : Int))) p3 p4 p5 p6 p7 p8 (0 : Int) p11 p12 (p13 ++ (p10 :: ([] : (List (List Int))))) (p14 ++ (((Go.Proofs.R.bitsOp Go.BinOp.and Go.IntKind.u16 (Go.Proofs.R.shrInt Go.IntKind.u16 p5 p1) (1 : Int)) == (1 : Int)) :: ([] : (List Bool)))))) := (loopAt_step Go.Proofs.C28.ctx 16 8 _).trans (by kernel_rfl)
theorem difference_order.f_eq (p0 : Int) (p1 : Int) (p2 : Int) (p3 : Int) : difference_order.f p0 p1 p2 p3 =
  bindD (cmp_Compare_int.f p0 p2) fun t254 =>
  bindD (cmp_Compare_int.f p1 p3) fun t255 =>
  bindD (cmp_Or_int.f (t254.1 :: (t255.1 :: ([] : (List Int))))) fun t256 =>
  some (t256.1, ()) := (Einf_call Go.Proofs.C28.ctx 62 _).trans (by kernel_rfl)
theorem difference_CheckWithin.l11_eq (p0 : (List (Int × Int))) (p1 : Int) (p2 : Int) (p3 : Int) (p4 : Int) (p5 : (List (List Int))) (p6 : (List Bool)) (p7 : Int) (p8 : Int) (p9 : (List (List Int))) (p10 : (List Bool)) (p11 : (List (Int × Int))) : difference_CheckWithin.l11 p0 p1 p2 p3 p4 p5 p6 p7 p8 p9 p10 p11 =
  ifB (decide (p2 < p1))
   (bindD ((ixAt p0 p2)) fun t257 =>
   bindD (difference_accepts.f p3 p4 p5 p6 t257.1) fun t258 =>
   ifB t258.1
    (bindD (difference_accepts.f p7 p8 p9 p10 t257.2) fun t259 =>
    ifB (!t259.1)
     (some (false, ()))
    (difference_CheckWithin.l16 p0 p1 p2 p3 (0 : Int) p3 p4 p5 p6 p7 p8 p9 p10 p11 t257.1 t257.2))
   (difference_CheckWithin.l16 p0 p1 p2 p3 (0 : Int) p3 p4 p5 p6 p7 p8 p9 p10 p11 t257.1 t257.2))
  (ifB (decide (p4 < (0 : Int)))
    (some (true, ()))
   (bindD (difference_CheckWithin_1.f p4 p8 p11) fun t260 =>
    some (t260.1, ()))) := (loopAt_step Go.Proofs.C28.ctx 27 11 _).trans (by kernel_rfl)
theorem ancepsref28_index.l2_eq (p0 : (List (Int × Int))) (p1 : Int) (p2 : Int) (p3 : Int) : ancepsref28_index.l2 p0 p1 p2 p3 =
  ifB (decide (p1 < (((List.length p0) : Nat) : Int)))
   (bindD ((ixAt p0 p1)) fun t261 =>
   ifB ((t261.1 == p2) && (t261.2 == p3))
    (some (p1, ()))
   (ancepsref28_index.l2 p0 (Go.IntKind.wrap Go.IntKind.i64 (p1 + (1 : Int))) p2 p3))
  (some ((-(1 : Int)), ())) := (loopAt_step Go.Proofs.C28.ctx 49 2 _).trans (by kernel_rfl)
theorem ancepsref28_less.f_eq (p0 : Int) (p1 : Int) (p2 : Int) (p3 : Int) : ancepsref28_less.f p0 p1 p2 p3 =
  ifB (decide (p0 < p2))
   (some (true, ()))
  (ifB (p0 == p2)
    (some ((decide (p1 < p3)), ()))
   (some (false, ()))) := (Einf_call Go.Proofs.C28.ctx 63 _).trans (by kernel_rfl)
theorem ancepsref28_CheckWithin.l10_eq (p0 : (List (Int × Int))) (p1 : Int) (p2 : Int) (p3 : Int) (p4 : Int) (p5 : (List (List Int))) (p6 : (List Bool)) (p7 : Int) (p8 : Int) (p9 : (List (List Int))) (p10 : (List Bool)) (p11 : Int) (p12 : Int) : ancepsref28_CheckWithin.l10 p0 p1 p2 p3 p4 p5 p6 p7 p8 p9 p10 p11 p12 =
  ifB (decide (p2 < p3))
   (bindD (ancepsref28_next.f p3 p4 p5 p6 p11 p2) fun t262 =>
   bindD (ancepsref28_next.f p7 p8 p9 p10 p12 p2) fun t263 =>
   ifB (decide (t262.1 ≥ (0 : Int)))
    (bindD (ancepsref28_index.f p0 t262.1 t263.1) fun t264 =>
    ifB (decide (t264.1 < (0 : Int)))
     (some (false, ()))
    (ancepsref28_CheckWithin.l10 p0 p1 (Go.IntKind.wrap Go.IntKind.i64 (p2 + (1 : Int))) p3 p4 p5 p6 p7 p8 p9 p10 p11 p12))
   (ancepsref28_CheckWithin.l10 p0 p1 (Go.IntKind.wrap Go.IntKind.i64 (p2 + (1 : Int))) p3 p4 p5 p6 p7 p8 p9 p10 p11 p12))
  (ancepsref28_CheckWithin.l4 p0 (Go.IntKind.wrap Go.IntKind.i64 (p1 + (1 : Int))) p3 p4 p5 p6 p7 p8 p9 p10) := (loopAt_step Go.Proofs.C28.ctx 29 10 _).trans (by kernel_rfl)
theorem automaton_both.f_eq (p0 : Int) (p1 : Int) (p2 : (List (List Int))) (p3 : (List Bool)) (p4 : Int) (p5 : Int) (p6 : (List (List Int))) (p7 : (List Bool)) : automaton_both.f p0 p1 p2 p3 p4 p5 p6 p7 =
  bindD (automaton_Valid.f p0 p1 p2 p3) fun t265 =>
  ifB (t265.1 != (0 : Int))
   (some ((1 : Int), ()))
  (bindD (automaton_Valid.f p4 p5 p6 p7) fun t266 =>
   ifB (t266.1 != (0 : Int))
    (some ((1 : Int), ()))
   (ifB (p0 != p4)
     (some ((1 : Int), ()))
    (some ((0 : Int), ())))) := (Einf_call Go.Proofs.C28.ctx 76 _).trans (by kernel_rfl)
theorem automaton_visits.f_eq (p0 : Int) (p1 : Int) (p2 : (List (List Int))) (p3 : (List Bool)) (p4 : Int) (p5 : Int) (p6 : (List (List Int))) (p7 : (List Bool)) : automaton_visits.f p0 p1 p2 p3 p4 p5 p6 p7 =
  bindD ((ixAt (((p1, p5), ((-(1 : Int)), (0 : Int))) :: ([] : (List ((Int × Int) × (Int × Int))))) (0 : Int))) fun t267 =>
  bindD ((ixAt (((p1, p5), ((-(1 : Int)), (0 : Int))) :: ([] : (List ((Int × Int) × (Int × Int))))) (0 : Int))) fun t268 =>
  automaton_visits.l4 (0 : Int) p0 p1 p2 p3 p4 p5 p6 p7 (((p1, p5), ((-(1 : Int)), (0 : Int))) :: ([] : (List ((Int × Int) × (Int × Int))))) (Go.Proofs.R.mput (Go.Proofs.R.Ty.pair (Go.Proofs.R.Ty.int Go.IntKind.i64) (Go.Proofs.R.Ty.int Go.IntKind.i64)) (t268.1.1, t268.1.2) true ([] : (List ((Int × Int) × Bool)))) := (Einf_call Go.Proofs.C28.ctx 77 _).trans (by kernel_rfl)
theorem automaton_Product.l9_eq (p0 : Int) (p1 : Int) (p2 : Int) (p3 : Int) (p4 : Int) (p5 : (List (List Int))) (p6 : (List Bool)) (p7 : Int) (p8 : Int) (p9 : (List (List Int))) (p10 : (List Bool)) (p11 : Int) (p12 : Int) (p13 : (List ((Int × Int) × (Int × Int)))) (p14 : (List ((Int × Int) × Int))) (p15 : (List (List Int))) (p16 : (List Bool)) : automaton_Product.l9 p0 p1 p2 p3 p4 p5 p6 p7 p8 p9 p10 p11 p12 p13 p14 p15 p16 =
  ifB (decide (p2 < p1))
   (bindD ((ixAt p13 p2)) fun t269 =>
   bindD ((ixAt p13 p2)) fun t270 =>
   automaton_Product.l9 p0 p1 (Go.IntKind.wrap Go.IntKind.i64 (p2 + (1 : Int))) p3 p4 p5 p6 p7 p8 p9 p10 p11 p12 p13 (Go.Proofs.R.mput (Go.Proofs.R.Ty.pair (Go.Proofs.R.Ty.int Go.IntKind.i64) (Go.Proofs.R.Ty.int Go.IntKind.i64)) (t270.1.1, t270.1.2) p2 p14) p15 p16)
  (automaton_Product.l15 p0 (((List.length p13) : Nat) : Int) (0 : Int) p3 p4 p5 p6 p7 p8 p9 p10 p11 p12 p14 p3 (0 : Int) p13 p15 p16 ([] : (List (List Int))) ([] : (List Bool))) := (loopAt_step Go.Proofs.C28.ctx 64 9 _).trans (by kernel_rfl)
theorem ancepsref28_Common.l11_eq (p0 : (List (Int × Int))) (p1 : Int) (p2 : Int) (p3 : Int) (p4 : Int) (p5 : (List (List Int))) (p6 : (List Bool)) (p7 : Int) (p8 : Int) (p9 : (List (List Int))) (p10 : (List Bool)) (p11 : Int) (p12 : Int) (p13 : Int) (p14 : Int) (p15 : (List Int)) (p16 : (List (List Int))) (p17 : (List Bool)) (p18 : (List (List Int))) (p19 : (List Bool)) : ancepsref28_Common.l11 p0 p1 p2 p3 p4 p5 p6 p7 p8 p9 p10 p11 p12 p13 p14 p15 p16 p17 p18 p19 =
  ifB (decide (p2 < p3))
   (bindD ((ixAt p0 p1)) fun t271 =>
   bindD (ancepsref28_next.f p3 p4 p5 p6 t271.1 p2) fun t272 =>
   bindD ((ixAt p0 p1)) fun t273 =>
   bindD (ancepsref28_next.f p7 p8 p9 p10 t273.2 p2) fun t274 =>
   bindD (ancepsref28_index.f p0 t272.1 t274.1) fun t275 =>
   bindD ((Go.Proofs.R.grow ((List.length p15) + (List.length (t275.1 :: ([] : (List Int))))))) fun t276 =>
   ancepsref28_Common.l11 p0 p1 (Go.IntKind.wrap Go.IntKind.i64 (p2 + (1 : Int))) p3 p4 p5 p6 p7 p8 p9 p10 p11 p12 p13 p14 (p15 ++ (t275.1 :: ([] : (List Int)))) p16 p17 p18 p19)
  (bindD ((Go.Proofs.R.grow ((List.length p18) + (List.length (p15 :: ([] : (List (List Int)))))))) fun t277 =>
   bindD ((ixAt p0 p1)) fun t278 =>
   bindD (ancepsref28_accepts.f p3 p4 p5 p6 t278.1) fun t279 =>
   ifB t279.1
    (bindD ((ixAt p0 p1)) fun t280 =>
    bindD (ancepsref28_accepts.f p7 p8 p9 p10 t280.2) fun t281 =>
    bindD ((Go.Proofs.R.grow ((List.length p19) + (List.length (t281.1 :: ([] : (List Bool))))))) fun t282 =>
    ancepsref28_Common.l7 p0 (Go.IntKind.wrap Go.IntKind.i64 (p1 + (1 : Int))) p3 p4 p5 p6 p7 p8 p9 p10 p11 p12 p13 (0 : Int) p16 p17 (p18 ++ (p15 :: ([] : (List (List Int))))) (p19 ++ (t281.1 :: ([] : (List Bool)))))
   (bindD ((Go.Proofs.R.grow ((List.length p19) + (List.length (false :: ([] : (List Bool))))))) fun t283 =>
    ancepsref28_Common.l7 p0 (Go.IntKind.wrap Go.IntKind.i64 (p1 + (1 : Int))) p3 p4 p5 p6 p7 p8 p9 p10 p11 p12 p13 (0 : Int) p16 p17 (p18 ++ (p15 :: ([] : (List (List Int))))) (p19 ++ (false :: ([] : (List Bool)))))) := (loopAt_step Go.Proofs.C28.ctx 31 11 _).trans (by kernel_rfl)
theorem ancepsref06_Small.f_eq (p0 : Int) (p1 : Int) (p2 : (List (List Int))) (p3 : (List Bool)) : ancepsref06_Small.f p0 p1 p2 p3 =
  bindD (ancepsref06_minimal.f p0 p1 p2 p3) fun t284 =>
  ifB (decide ((((List.length t284.2.2.1) : Nat) : Int) > (400 : Int)))
   (some ((0 : Int), ((0 : Int), (([] : (List (List Int))), (([] : (List Bool)), (false, ()))))))
  (some (t284.1, (t284.2.1, (t284.2.2.1, (t284.2.2.2.1, (true, ())))))) := (Einf_call Go.Proofs.C28.ctx 65 _).trans (by kernel_rfl)
theorem ancepsref06_SameDFA.l9_eq (p0 : Int) (p1 : Int) (p2 : Int) (p3 : (List (List Int))) (p4 : (List Bool)) (p5 : Int) (p6 : Int) (p7 : (List (List Int))) (p8 : (List Bool)) : ancepsref06_SameDFA.l9 p0 p1 p2 p3 p4 p5 p6 p7 p8 =
  ifB (decide (p0 < (((List.length p4) : Nat) : Int)))
   (bindD ((ixAt p4 p0)) fun t285 =>
   bindD ((ixAt p8 p0)) fun t286 =>
   ifB (!(t285 == t286))
    (some (false, ()))
   (ancepsref06_SameDFA.l9 (Go.IntKind.wrap Go.IntKind.i64 (p0 + (1 : Int))) p1 p2 p3 p4 p5 p6 p7 p8))
  (some (true, ())) := (loopAt_step Go.Proofs.C28.ctx 32 9 _).trans (by kernel_rfl)
theorem automaton_Count.l16_eq (p0 : Int) (p1 : Int) (p2 : Int) (p3 : Int) (p4 : (List (List Int))) (p5 : (List Bool)) (p6 : (List Int)) : automaton_Count.l16 p0 p1 p2 p3 p4 p5 p6 =
  ifB (decide (p1 < p0))
   (bindD ((Go.Proofs.R.mkLen (((List.length p6) : Nat) : Int) (((List.length p6) : Nat) : Int))) fun t287 =>
   automaton_Count.l19 p0 p1 p4 (((List.length p4) : Nat) : Int) (0 : Int) p2 p3 p4 p5 p6 (List.replicate t287 (0 : Int)))
  (bindD ((ixAt p6 p3)) fun t288 =>
   bindD ((ixAt p6 p3)) fun t289 =>
   ifB (decide (t289 > (4611686018427387904 : Int)))
    (some ((0 : Int), ((3 : Int), ())))
   (bindD ((ixAt p6 p3)) fun t290 =>
    bindD ((ixAt p6 p3)) fun t291 =>
    some ((Go.IntKind.wrap Go.IntKind.i64 t291), ((0 : Int), ())))) := (loopAt_step Go.Proofs.C28.ctx 33 16 _).trans (by kernel_rfl)
theorem difference_side.l7_1_eq (p0 : Int) (p1 : Int) (p2 : Int) (p3 : (List (List Int))) (p4 : (List Bool)) (p5 : Int) (p6 : Int) (p7 : (List (List Int))) (p8 : (List Bool)) (p9 : (List ((Int × Int) × (Int × Int)))) (p10 : (List ((Int × Int) × Bool))) : difference_side.l7_1 p0 p1 p2 p3 p4 p5 p6 p7 p8 p9 p10 =
  ifB (decide (p0 < (((List.length p9) : Nat) : Int)))
   (difference_side.l10_1 p0 p1 (0 : Int) p1 p2 p3 p4 p5 p6 p7 p8 p9 p10)
  (some (p9, ())) := (loopAt_step Go.Proofs.C28.ctx 54 7 _).trans (by kernel_rfl)
theorem difference_accepts.f_eq (p0 : Int) (p1 : Int) (p2 : (List (List Int))) (p3 : (List Bool)) (p4 : Int) : difference_accepts.f p0 p1 p2 p3 p4 =
  ifB (decide (p4 ≥ (0 : Int)))
   (bindD ((ixAt p3 p4)) fun t292 =>
   some (t292, ()))
  (some (false, ())) := (Einf_call Go.Proofs.C28.ctx 42 _).trans (by kernel_rfl)
theorem difference_apart.l9_eq (p0 : Bool) (p1 : Int) (p2 : (List ((Int × Int) × (Int × Int)))) (p3 : (List Int)) : difference_apart.l9 p0 p1 p2 p3 =
  ifB (decide (p1 > (0 : Int)))
   (bindD ((ixAt p2 p1)) fun t293 =>
   bindD ((ixAt p2 p1)) fun t294 =>
   bindD ((Go.Proofs.R.grow ((List.length p3) + (List.length (t294.2.2 :: ([] : (List Int))))))) fun t295 =>
   bindD ((ixAt p2 p1)) fun t296 =>
   bindD ((ixAt p2 p1)) fun t297 =>
   difference_apart.l9 p0 t297.2.1 p2 (p3 ++ (t294.2.2 :: ([] : (List Int)))))
  (bindD ((Go.Proofs.R.grow (List.length p3))) fun t298 =>
   ifB p0
    (some ((Go.Proofs.R.revL p3), ((1 : Int), ())))
   (some ((Go.Proofs.R.revL p3), ((2 : Int), ())))) := (loopAt_step Go.Proofs.C28.ctx 39 9 _).trans (by kernel_rfl)
theorem ancepsref06_Valid.l7_eq (p0 : Int) (p1 : Int) (p2 : Int) (p3 : Int) (p4 : (List (List Int))) (p5 : (List Bool)) : ancepsref06_Valid.l7 p0 p1 p2 p3 p4 p5 =
  ifB (decide (p1 < p0))
   (bindD ((ixAt p4 p1)) fun t299 =>
   ifB ((((List.length t299) : Nat) : Int) != p2)
    (some ((1 : Int), ()))
   (ancepsref06_Valid.l12 p0 p1 (0 : Int) p2 p3 p4 p5))
  (some ((0 : Int), ())) := (loopAt_step Go.Proofs.C28.ctx 69 7 _).trans (by kernel_rfl)
theorem difference_visit_70.f1_eq (p0 : (List ((Int × Int) × (Int × Int)))) (p1 : Int) (p2 : Int) (p3 : (List (List Int))) (p4 : (List Bool)) (p5 : Int) (p6 : Int) (p7 : (List (List Int))) (p8 : (List Bool)) : difference_visit_70.f1 p0 p1 p2 p3 p4 p5 p6 p7 p8 =
  difference_visit_70.l2_1 p0 p1 p2 p3 p4 p5 p6 p7 p8 (((List.length p0) : Nat) : Int) (0 : Int) := (Einf_call Go.Proofs.C28.ctx 70 _).trans (by kernel_rfl)
theorem difference_side.l10_eq (p0 : Int) (p1 : Int) (p2 : Int) (p3 : Int) (p4 : Int) (p5 : (List (List Int))) (p6 : (List Bool)) (p7 : Int) (p8 : Int) (p9 : (List (List Int))) (p10 : (List Bool)) (p11 : (List ((Int × Int) × (Int × Int)))) (p12 : (List ((Int × Int) × Bool))) : difference_side.l10 p0 p1 p2 p3 p4 p5 p6 p7 p8 p9 p10 p11 p12 =
  ifB (decide (p2 < p1))
   (bindD ((ixAt p11 p0)) fun t300 =>
   bindD ((ixAt p11 p0)) fun t301 =>
   bindD (difference_step.f p3 p4 p5 p6 t301.1.1 p2) fun t302 =>
   bindD ((ixAt p11 p0)) fun t303 =>
   bindD ((ixAt p11 p0)) fun t304 =>
   bindD (difference_step.f p7 p8 p9 p10 t304.1.2 p2) fun t305 =>
   bindD (difference_left.f t302.1 t305.1) fun t306 =>
   ifB t306.1
    (ifB (!(Go.Proofs.R.mget (Go.Proofs.R.Ty.pair (Go.Proofs.R.Ty.int Go.IntKind.i64) (Go.Proofs.R.Ty.int Go.IntKind.i64)) false (t302.1, t305.1) p12).1)
     (bindD ((Go.Proofs.R.grow ((List.length p11) + (List.length (((t302.1, t305.1), (p0, p2)) :: ([] : (List ((Int × Int) × (Int × Int))))))))) fun t307 =>
     difference_side.l10 p0 p1 (Go.IntKind.wrap Go.IntKind.i64 (p2 + (1 : Int))) p3 p4 p5 p6 p7 p8 p9 p10 (p11 ++ (((t302.1, t305.1), (p0, p2)) :: ([] : (List ((Int × Int) × (Int × Int)))))) (Go.Proofs.R.mput (Go.Proofs.R.Ty.pair (Go.Proofs.R.Ty.int Go.IntKind.i64) (Go.Proofs.R.Ty.int Go.IntKind.i64)) (t302.1, t305.1) true p12))
    (difference_side.l10 p0 p1 (Go.IntKind.wrap Go.IntKind.i64 (p2 + (1 : Int))) p3 p4 p5 p6 p7 p8 p9 p10 p11 p12))
   (difference_side.l10 p0 p1 (Go.IntKind.wrap Go.IntKind.i64 (p2 + (1 : Int))) p3 p4 p5 p6 p7 p8 p9 p10 p11 p12))
  (difference_side.l7 (Go.IntKind.wrap Go.IntKind.i64 (p0 + (1 : Int))) p3 p4 p5 p6 p7 p8 p9 p10 p11 p12) := (loopAt_step Go.Proofs.C28.ctx 54 10 _).trans (by kernel_rfl)
theorem difference_visit_70.l2_eq (p0 : (List ((Int × Int) × (Int × Int)))) (p1 : Int) (p2 : Int) (p3 : (List (List Int))) (p4 : (List Bool)) (p5 : Int) (p6 : Int) (p7 : (List (List Int))) (p8 : (List Bool)) (p9 : Int) (p10 : Int) : difference_visit_70.l2 p0 p1 p2 p3 p4 p5 p6 p7 p8 p9 p10 =
  ifB (decide (p10 < p9))
   (bindD ((ixAt p0 p10)) fun t308 =>
   bindD (difference_Disjoint_1.f t308.1.1 t308.1.2 t308.2.1 t308.2.2 p1 p2 p3 p4 p5 p6 p7 p8) fun t309 =>
   ifB t309.1
    (some (p10, ()))
   (difference_visit_70.l2 p0 p1 p2 p3 p4 p5 p6 p7 p8 p9 (Go.IntKind.wrap Go.IntKind.i64 (p10 + (1 : Int)))))
  (some ((-(1 : Int)), ())) := (loopAt_step Go.Proofs.C28.ctx 70 2 _).trans (by kernel_rfl)
theorem ancepsref28_reach.l9_eq (p0 : Int) (p1 : Int) (p2 : Int) (p3 : Int) (p4 : (List (List Int))) (p5 : (List Bool)) (p6 : Int) (p7 : Int) (p8 : (List (List Int))) (p9 : (List Bool)) (p10 : (List (Int × Int))) (p11 : (List (List Int))) (p12 : (List (Int × Int))) (p13 : (List (List Int))) : ancepsref28_reach.l9 p0 p1 p2 p3 p4 p5 p6 p7 p8 p9 p10 p11 p12 p13 =
  ifB (decide (p1 < p2))
   (bindD ((ixAt p12 p0)) fun t310 =>
   bindD ((ixAt p12 p0)) fun t311 =>
   bindD (ancepsref28_next.f p2 p3 p4 p5 t311.1 p1) fun t312 =>
   bindD ((ixAt p12 p0)) fun t313 =>
   bindD ((ixAt p12 p0)) fun t314 =>
   bindD (ancepsref28_next.f p6 p7 p8 p9 t314.2 p1) fun t315 =>
   ifB (decide (t312.1 < (0 : Int)))
    (ifB (decide (t315.1 < (0 : Int)))
     (ancepsref28_reach.l9 p0 (Go.IntKind.wrap Go.IntKind.i64 (p1 + (1 : Int))) p2 p3 p4 p5 p6 p7 p8 p9 p10 p11 p12 p13)
    (bindD (ancepsref28_index.f p12 t312.1 t315.1) fun t316 =>
     ifB (decide (t316.1 ≥ (0 : Int)))
      (ancepsref28_reach.l9 p0 (Go.IntKind.wrap Go.IntKind.i64 (p1 + (1 : Int))) p2 p3 p4 p5 p6 p7 p8 p9 p10 p11 p12 p13)
     (bindD ((Go.Proofs.R.grow ((List.length p12) + (List.length ((t312.1, t315.1) :: ([] : (List (Int × Int)))))))) fun t317 =>
      bindD ((ixAt p13 p0)) fun t318 =>
      bindD ((ixAt p13 p0)) fun t319 =>
      bindD ((Go.Proofs.R.grow ((List.length ([] : (List Int))) + (List.length t319)))) fun t320 =>
      bindD ((Go.Proofs.R.grow ((List.length (([] : (List Int)) ++ t319)) + (List.length (p1 :: ([] : (List Int))))))) fun t321 =>
      bindD ((Go.Proofs.R.grow ((List.length p13) + (List.length (((([] : (List Int)) ++ t319) ++ (p1 :: ([] : (List Int)))) :: ([] : (List (List Int)))))))) fun t322 =>
      ancepsref28_reach.l9 p0 (Go.IntKind.wrap Go.IntKind.i64 (p1 + (1 : Int))) p2 p3 p4 p5 p6 p7 p8 p9 p10 p11 (p12 ++ ((t312.1, t315.1) :: ([] : (List (Int × Int))))) (p13 ++ (((([] : (List Int)) ++ t319) ++ (p1 :: ([] : (List Int)))) :: ([] : (List (List Int))))))))
   (bindD (ancepsref28_index.f p12 t312.1 t315.1) fun t323 =>
    ifB (decide (t323.1 ≥ (0 : Int)))
     (ancepsref28_reach.l9 p0 (Go.IntKind.wrap Go.IntKind.i64 (p1 + (1 : Int))) p2 p3 p4 p5 p6 p7 p8 p9 p10 p11 p12 p13)
    (bindD ((Go.Proofs.R.grow ((List.length p12) + (List.length ((t312.1, t315.1) :: ([] : (List (Int × Int)))))))) fun t324 =>
     bindD ((ixAt p13 p0)) fun t325 =>
     bindD ((ixAt p13 p0)) fun t326 =>
     bindD ((Go.Proofs.R.grow ((List.length ([] : (List Int))) + (List.length t326)))) fun t327 =>
     bindD ((Go.Proofs.R.grow ((List.length (([] : (List Int)) ++ t326)) + (List.length (p1 :: ([] : (List Int))))))) fun t328 =>
     bindD ((Go.Proofs.R.grow ((List.length p13) + (List.length (((([] : (List Int)) ++ t326) ++ (p1 :: ([] : (List Int)))) :: ([] : (List (List Int)))))))) fun t329 =>
     ancepsref28_reach.l9 p0 (Go.IntKind.wrap Go.IntKind.i64 (p1 + (1 : Int))) p2 p3 p4 p5 p6 p7 p8 p9 p10 p11 (p12 ++ ((t312.1, t315.1) :: ([] : (List (Int × Int))))) (p13 ++ (((([] : (List Int)) ++ t326) ++ (p1 :: ([] : (List Int)))) :: ([] : (List (List Int))))))))
  (ancepsref28_reach.l6 (Go.IntKind.wrap Go.IntKind.i64 (p0 + (1 : Int))) p2 p3 p4 p5 p6 p7 p8 p9 p10 p11 p12 p13) := (loopAt_step Go.Proofs.C28.ctx 47 9 _).trans (by kernel_rfl)
theorem slices_ContainsFunc_int_int.f_eq (p0 : (List Int)) (p1 : Int) : slices_ContainsFunc_int_int.f p0 p1 =
  bindD (slices_IndexFunc_int_int.f p0 p1) fun t330 =>
  some ((decide (t330.1 ≥ (0 : Int))), ()) := (Einf_call Go.Proofs.C28.ctx 71 _).trans (by kernel_rfl)
theorem automaton_next.f_eq (p0 : Int) (p1 : Int) (p2 : (List (List Int))) (p3 : (List Bool)) (p4 : Int) (p5 : Int) : automaton_next.f p0 p1 p2 p3 p4 p5 =
  ifB (decide (p4 < (0 : Int)))
   (some ((-(1 : Int)), ()))
  (ifB (decide (p5 < (0 : Int)))
    (some ((-(1 : Int)), ()))
   (ifB (decide (p5 ≥ p0))
     (some ((-(1 : Int)), ()))
    (bindD ((ixAt p2 p4)) fun t331 =>
     bindD ((ixAt t331 p5)) fun t332 =>
     some (t332, ())))) := (Einf_call Go.Proofs.C28.ctx 73 _).trans (by kernel_rfl)
theorem difference_Compare.l27_eq (p0 : Int) (p1 : Int) (p2 : Int) (p3 : Int) (p4 : Int) (p5 : Int) (p6 : Int) (p7 : Int) (p8 : Int) (p9 : Int) (p10 : (List (List Int))) (p11 : (List Bool)) (p12 : Int) (p13 : Int) (p14 : (List (List Int))) (p15 : (List Bool)) (p16 : Bool) (p17 : Bool) (p18 : Bool) (p19 : Bool) (p20 : Bool) (p21 : Bool) (p22 : (List ((Int × Int) × Int))) (p23 : Int) (p24 : Int) (p25 : Nat) (p26 : (List Nat)) (p27 : (List Int)) (p28 : (List Int)) (p29 : (List Int)) (p30 : (List Int)) (p31 : (List Int)) (p32 : (List Int)) (p33 : (List Int)) (p34 : (List Int)) (p35 : (List ((Int × Int) × Int))) : difference_Compare.l27 p0 p1 p2 p3 p4 p5 p6 p7 p8 p9 p10 p11 p12 p13 p14 p15 p16 p17 p18 p19 p20 p21 p22 p23 p24 p25 p26 p27 p28 p29 p30 p31 p32 p33 p34 p35 =
  ifB (decide (p7 < p6))
   (bindD (difference_step.f p8 p9 p10 p11 p23 p7) fun t333 =>
   bindD (difference_step.f p12 p13 p14 p15 p24 p7) fun t334 =>
   bindD (difference_either.f t333.1 t334.1) fun t335 =>
   ifB t335.1
    (bindD ((Go.Proofs.R.mstore (Go.Proofs.R.mput (Go.Proofs.R.Ty.pair (Go.Proofs.R.Ty.int Go.IntKind.i64) (Go.Proofs.R.Ty.int Go.IntKind.i64)) (t333.1, t334.1) (Go.Proofs.R.mget (Go.Proofs.R.Ty.pair (Go.Proofs.R.Ty.int Go.IntKind.i64) (Go.Proofs.R.Ty.int Go.IntKind.i64)) (0 : Int) (t333.1, t334.1) p22).1 p22) (((Go.Proofs.R.mfind (Go.Proofs.R.Ty.pair (Go.Proofs.R.Ty.int Go.IntKind.i64) (Go.Proofs.R.Ty.int Go.IntKind.i64)) (t333.1, t334.1) p22) : Nat) : Int) (Go.IntKind.wrap Go.IntKind.i64 ((Go.Proofs.R.mget (Go.Proofs.R.Ty.pair (Go.Proofs.R.Ty.int Go.IntKind.i64) (Go.Proofs.R.Ty.int Go.IntKind.i64)) (0 : Int) (t333.1, t334.1) p22).1 + p3)))) fun t336 =>
    difference_Compare.l27 p0 p1 p2 p3 p4 p5 p6 (Go.IntKind.wrap Go.IntKind.i64 (p7 + (1 : Int))) p8 p9 p10 p11 p12 p13 p14 p15 p16 p17 p18 p19 p20 p21 t336 p23 p24 p25 p26 p27 p28 p29 p30 p31 p32 p33 p34 p35)
   (difference_Compare.l27 p0 p1 p2 p3 p4 p5 p6 (Go.IntKind.wrap Go.IntKind.i64 (p7 + (1 : Int))) p8 p9 p10 p11 p12 p13 p14 p15 p16 p17 p18 p19 p20 p21 p22 p23 p24 p25 p26 p27 p28 p29 p30 p31 p32 p33 p34 p35))
  (difference_Compare.l17 p0 p1 p2 p4 p5 p8 p9 p10 p11 p12 p13 p14 p15 p16 p17 p18 p19 p20 p21 p22 p25 p26 p27 p28 p29 p30 p31 p32 p33 p34 p35) := (loopAt_step Go.Proofs.C28.ctx 13 27 _).trans (by kernel_rfl)
theorem ancepsref28_Compare.l28_eq (p0 : Int) (p1 : (List (Int × Int))) (p2 : Int) (p3 : Int) (p4 : Int) (p5 : Int) (p6 : Int) (p7 : Int) (p8 : Int) (p9 : Int) (p10 : (List (List Int))) (p11 : (List Bool)) (p12 : Int) (p13 : Int) (p14 : (List (List Int))) (p15 : (List Bool)) (p16 : Bool) (p17 : Bool) (p18 : Bool) (p19 : Bool) (p20 : Bool) (p21 : Bool) (p22 : (List Int)) (p23 : (List Int)) (p24 : (List Int)) (p25 : (List Int)) (p26 : (List Int)) (p27 : (List Int)) (p28 : (List Int)) (p29 : (List Int)) (p30 : (List Int)) (p31 : (List Int)) : ancepsref28_Compare.l28 p0 p1 p2 p3 p4 p5 p6 p7 p8 p9 p10 p11 p12 p13 p14 p15 p16 p17 p18 p19 p20 p21 p22 p23 p24 p25 p26 p27 p28 p29 p30 p31 =
  ifB (decide (p7 < p8))
   (bindD ((ixAt p23 p6)) fun t337 =>
   bindD ((ixAt p23 p6)) fun t338 =>
   ifB (decide (t338 > (0 : Int)))
    (bindD ((ixAt p1 p6)) fun t339 =>
    bindD (ancepsref28_next.f p8 p9 p10 p11 t339.1 p7) fun t340 =>
    bindD ((ixAt p1 p6)) fun t341 =>
    bindD (ancepsref28_next.f p12 p13 p14 p15 t341.2 p7) fun t342 =>
    bindD (ancepsref28_index.f p1 t340.1 t342.1) fun t343 =>
    ifB (decide (t343.1 ≥ (0 : Int)))
     (bindD ((ixAt p24 t343.1)) fun t344 =>
     bindD ((ixAt p24 t343.1)) fun t345 =>
     bindD ((ixAt p23 p6)) fun t346 =>
     bindD ((ixAt p23 p6)) fun t347 =>
     bindD ((ixAt p24 t343.1)) fun t348 =>
     bindD ((ixAt p24 t343.1)) fun t349 =>
     ancepsref28_Compare.l28 p0 p1 p2 p3 p4 p5 p6 (Go.IntKind.wrap Go.IntKind.i64 (p7 + (1 : Int))) p8 p9 p10 p11 p12 p13 p14 p15 p16 p17 p18 p19 p20 p21 p22 p23 (setRow p24 t343.1 (Go.IntKind.wrap Go.IntKind.i64 (t345 + t347))) p25 p26 p27 p28 p29 p30 p31)
    (ancepsref28_Compare.l28 p0 p1 p2 p3 p4 p5 p6 (Go.IntKind.wrap Go.IntKind.i64 (p7 + (1 : Int))) p8 p9 p10 p11 p12 p13 p14 p15 p16 p17 p18 p19 p20 p21 p22 p23 p24 p25 p26 p27 p28 p29 p30 p31))
   (ancepsref28_Compare.l18 p0 p1 p2 p3 p4 p5 (Go.IntKind.wrap Go.IntKind.i64 (p6 + (1 : Int))) p8 p9 p10 p11 p12 p13 p14 p15 p16 p17 p18 p19 p20 p21 p22 p23 p24 p25 p26 p27 p28 p29 p30 p31))
  (ancepsref28_Compare.l18 p0 p1 p2 p3 p4 p5 (Go.IntKind.wrap Go.IntKind.i64 (p6 + (1 : Int))) p8 p9 p10 p11 p12 p13 p14 p15 p16 p17 p18 p19 p20 p21 p22 p23 p24 p25 p26 p27 p28 p29 p30 p31) := (loopAt_step Go.Proofs.C28.ctx 14 28 _).trans (by kernel_rfl)
theorem cmp_Compare_int.f_eq (p0 : Int) (p1 : Int) : cmp_Compare_int.f p0 p1 =
  bindD (cmp_isNaN_int.f p0) fun t350 =>
  bindD (cmp_isNaN_int.f p1) fun t351 =>
  ifB t350.1
   (ifB t351.1
    (some ((0 : Int), ()))
   (some ((-(1 : Int)), ())))
  (ifB t351.1
    (some ((1 : Int), ()))
   (ifB (decide (p0 < p1))
     (some ((-(1 : Int)), ()))
    (ifB (decide (p0 > p1))
      (some ((1 : Int), ()))
     (some ((0 : Int), ()))))) := (Einf_call Go.Proofs.C28.ctx 75 _).trans (by kernel_rfl)
theorem cmp_Or_int.f_eq (p0 : (List Int)) : cmp_Or_int.f p0 =
  cmp_Or_int.l3 (0 : Int) p0 (((List.length p0) : Nat) : Int) (0 : Int) := (Einf_call Go.Proofs.C28.ctx 74 _).trans (by kernel_rfl)
theorem difference_CheckWithin.l16_eq (p0 : (List (Int × Int))) (p1 : Int) (p2 : Int) (p3 : Int) (p4 : Int) (p5 : Int) (p6 : Int) (p7 : (List (List Int))) (p8 : (List Bool)) (p9 : Int) (p10 : Int) (p11 : (List (List Int))) (p12 : (List Bool)) (p13 : (List (Int × Int))) (p14 : Int) (p15 : Int) : difference_CheckWithin.l16 p0 p1 p2 p3 p4 p5 p6 p7 p8 p9 p10 p11 p12 p13 p14 p15 =
  ifB (decide (p4 < p3))
   (bindD (difference_step.f p5 p6 p7 p8 p14 p4) fun t352 =>
   bindD (difference_step.f p9 p10 p11 p12 p15 p4) fun t353 =>
   ifB (decide (t352.1 ≥ (0 : Int)))
    (bindD (difference_CheckWithin_1.f t352.1 t353.1 p13) fun t354 =>
    ifB (!t354.1)
     (some (false, ()))
    (difference_CheckWithin.l16 p0 p1 p2 p3 (Go.IntKind.wrap Go.IntKind.i64 (p4 + (1 : Int))) p5 p6 p7 p8 p9 p10 p11 p12 p13 p14 p15))
   (difference_CheckWithin.l16 p0 p1 p2 p3 (Go.IntKind.wrap Go.IntKind.i64 (p4 + (1 : Int))) p5 p6 p7 p8 p9 p10 p11 p12 p13 p14 p15))
  (difference_CheckWithin.l11 p0 p1 (Go.IntKind.wrap Go.IntKind.i64 (p2 + (1 : Int))) p5 p6 p7 p8 p9 p10 p11 p12 p13) := (loopAt_step Go.Proofs.C28.ctx 27 16 _).trans (by kernel_rfl)
theorem difference_CheckWithin_1.f_eq (p0 : Int) (p1 : Int) (p2 : (List (Int × Int))) : difference_CheckWithin_1.f p0 p1 p2 =
  bindD (api_Pair_61.f p2 p0 p1) fun t355 =>
  some (t355.2.1, ()) := (Einf_call Go.Proofs.C28.ctx 60 _).trans (by kernel_rfl)
theorem ancepsref28_next.f_eq (p0 : Int) (p1 : Int) (p2 : (List (List Int))) (p3 : (List Bool)) (p4 : Int) (p5 : Int) : ancepsref28_next.f p0 p1 p2 p3 p4 p5 =
  ifB (decide (p4 < (0 : Int)))
   (some ((-(1 : Int)), ()))
  (bindD ((ixAt p2 p4)) fun t356 =>
   bindD ((ixAt t356 p5)) fun t357 =>
   some (t357, ())) := (Einf_call Go.Proofs.C28.ctx 50 _).trans (by kernel_rfl)
theorem automaton_visits.l4_eq (p0 : Int) (p1 : Int) (p2 : Int) (p3 : (List (List Int))) (p4 : (List Bool)) (p5 : Int) (p6 : Int) (p7 : (List (List Int))) (p8 : (List Bool)) (p9 : (List ((Int × Int) × (Int × Int)))) (p10 : (List ((Int × Int) × Bool))) : automaton_visits.l4 p0 p1 p2 p3 p4 p5 p6 p7 p8 p9 p10 =
  ifB (decide (p0 < (((List.length p9) : Nat) : Int)))
   (bindD ((ixAt p9 p0)) fun t358 =>
   bindD ((ixAt p9 p0)) fun t359 =>
   automaton_visits.l8 p0 p1 (0 : Int) p1 p2 p3 p4 p5 p6 p7 p8 p9 p10 t359.1.1 t359.1.2)
  (some (p9, ())) := (loopAt_step Go.Proofs.C28.ctx 77 4 _).trans (by kernel_rfl)
theorem automaton_Product.l15_eq (p0 : Int) (p1 : Int) (p2 : Int) (p3 : Int) (p4 : Int) (p5 : (List (List Int))) (p6 : (List Bool)) (p7 : Int) (p8 : Int) (p9 : (List (List Int))) (p10 : (List Bool)) (p11 : Int) (p12 : Int) (p13 : (List ((Int × Int) × Int))) (p14 : Int) (p15 : Int) (p16 : (List ((Int × Int) × (Int × Int)))) (p17 : (List (List Int))) (p18 : (List Bool)) (p19 : (List (List Int))) (p20 : (List Bool)) : automaton_Product.l15 p0 p1 p2 p3 p4 p5 p6 p7 p8 p9 p10 p11 p12 p13 p14 p15 p16 p17 p18 p19 p20 =
  ifB (decide (p2 < p1))
   (bindD ((ixAt p16 p2)) fun t360 =>
   bindD ((ixAt p16 p2)) fun t361 =>
   bindD ((Go.Proofs.R.mkLen p3 p3)) fun t362 =>
   automaton_Product.l19 p0 p1 p2 (((List.length (List.replicate t362 (0 : Int))) : Nat) : Int) (0 : Int) p3 p4 p5 p6 p7 p8 p9 p10 p11 p12 p13 p14 p15 t361.1.1 t361.1.2 t361.2.1 t361.2.2 (List.replicate t362 (0 : Int)) p16 p17 p18 p19 p20)
  (bindD (automaton_minimal.f p14 p15 p19 p20) fun t363 =>
   ifB (decide ((((List.length t363.2.2.1) : Nat) : Int) > (400 : Int)))
    (some ((0 : Int), ((0 : Int), (([] : (List (List Int))), (([] : (List Bool)), ((3 : Int), ()))))))
   (some (t363.1, (t363.2.1, (t363.2.2.1, (t363.2.2.2.1, ((0 : Int), ()))))))) := (loopAt_step Go.Proofs.C28.ctx 64 15 _).trans (by kernel_rfl)
theorem ancepsref06_minimal.f_eq (p0 : Int) (p1 : Int) (p2 : (List (List Int))) (p3 : (List Bool)) : ancepsref06_minimal.f p0 p1 p2 p3 =
  bindD (ancepsref06_classes.f p0 p1 p2 p3) fun t364 =>
  ifB (decide (p1 < (0 : Int)))
   (some (p0, ((-(1 : Int)), (([] : (List (List Int))), (([] : (List Bool)), ())))))
  (bindD ((ixAt t364.1 p1)) fun t365 =>
   bindD ((ixAt t364.1 p1)) fun t366 =>
   ifB (t366 == (0 : Int))
    (some (p0, ((-(1 : Int)), (([] : (List (List Int))), (([] : (List Bool)), ())))))
   (bindD ((ixAt t364.1 p1)) fun t367 =>
    bindD ((ixAt t364.1 p1)) fun t368 =>
    ancepsref06_minimal.l9 (0 : Int) p0 p1 p2 p3 (0 : Int) (0 : Int) p0 (0 : Int) t364.1 (p1 :: ([] : (List Int))) (Go.Proofs.R.mput (Go.Proofs.R.Ty.int Go.IntKind.i64) t368 (0 : Int) ([] : (List (Int × Int)))) ([] : (List (List Int))) ([] : (List Bool)) ([] : (List (List Int))) ([] : (List Bool)))) := (Einf_call Go.Proofs.C28.ctx 79 _).trans (by kernel_rfl)
theorem automaton_Count.l19_eq (p0 : Int) (p1 : Int) (p2 : (List (List Int))) (p3 : Int) (p4 : Int) (p5 : Int) (p6 : Int) (p7 : (List (List Int))) (p8 : (List Bool)) (p9 : (List Int)) (p10 : (List Int)) : automaton_Count.l19 p0 p1 p2 p3 p4 p5 p6 p7 p8 p9 p10 =
  ifB (decide (p4 < p3))
   (bindD ((ixAt p2 p4)) fun t369 =>
   automaton_Count.l22 p4 p0 p1 p2 p3 p4 t369 (((List.length t369) : Nat) : Int) (0 : Int) p5 p6 p7 p8 p9 p10)
  (automaton_Count.l16 p0 (Go.IntKind.wrap Go.IntKind.i64 (p1 + (1 : Int))) p5 p6 p7 p8 p10) := (loopAt_step Go.Proofs.C28.ctx 33 19 _).trans (by kernel_rfl)
theorem difference_side.l10_1_eq (p0 : Int) (p1 : Int) (p2 : Int) (p3 : Int) (p4 : Int) (p5 : (List (List Int))) (p6 : (List Bool)) (p7 : Int) (p8 : Int) (p9 : (List (List Int))) (p10 : (List Bool)) (p11 : (List ((Int × Int) × (Int × Int)))) (p12 : (List ((Int × Int) × Bool))) : difference_side.l10_1 p0 p1 p2 p3 p4 p5 p6 p7 p8 p9 p10 p11 p12 =
  ifB (decide (p2 < p1))
   (bindD ((ixAt p11 p0)) fun t370 =>
   bindD ((ixAt p11 p0)) fun t371 =>
   bindD (difference_step.f p3 p4 p5 p6 t371.1.1 p2) fun t372 =>
   bindD ((ixAt p11 p0)) fun t373 =>
   bindD ((ixAt p11 p0)) fun t374 =>
   bindD (difference_step.f p7 p8 p9 p10 t374.1.2 p2) fun t375 =>
   bindD (difference_either.f t372.1 t375.1) fun t376 =>
   ifB t376.1
    (ifB (!(Go.Proofs.R.mget (Go.Proofs.R.Ty.pair (Go.Proofs.R.Ty.int Go.IntKind.i64) (Go.Proofs.R.Ty.int Go.IntKind.i64)) false (t372.1, t375.1) p12).1)
     (bindD ((Go.Proofs.R.grow ((List.length p11) + (List.length (((t372.1, t375.1), (p0, p2)) :: ([] : (List ((Int × Int) × (Int × Int))))))))) fun t377 =>
     difference_side.l10_1 p0 p1 (Go.IntKind.wrap Go.IntKind.i64 (p2 + (1 : Int))) p3 p4 p5 p6 p7 p8 p9 p10 (p11 ++ (((t372.1, t375.1), (p0, p2)) :: ([] : (List ((Int × Int) × (Int × Int)))))) (Go.Proofs.R.mput (Go.Proofs.R.Ty.pair (Go.Proofs.R.Ty.int Go.IntKind.i64) (Go.Proofs.R.Ty.int Go.IntKind.i64)) (t372.1, t375.1) true p12))
    (difference_side.l10_1 p0 p1 (Go.IntKind.wrap Go.IntKind.i64 (p2 + (1 : Int))) p3 p4 p5 p6 p7 p8 p9 p10 p11 p12))
   (difference_side.l10_1 p0 p1 (Go.IntKind.wrap Go.IntKind.i64 (p2 + (1 : Int))) p3 p4 p5 p6 p7 p8 p9 p10 p11 p12))
  (difference_side.l7_1 (Go.IntKind.wrap Go.IntKind.i64 (p0 + (1 : Int))) p3 p4 p5 p6 p7 p8 p9 p10 p11 p12) := (loopAt_step Go.Proofs.C28.ctx 54 10 _).trans (by kernel_rfl)
theorem ancepsref06_Valid.l12_eq (p0 : Int) (p1 : Int) (p2 : Int) (p3 : Int) (p4 : Int) (p5 : (List (List Int))) (p6 : (List Bool)) : ancepsref06_Valid.l12 p0 p1 p2 p3 p4 p5 p6 =
  ifB (decide (p2 < p3))
   (bindD ((ixAt p5 p1)) fun t378 =>
   bindD ((ixAt t378 p2)) fun t379 =>
   ifB (decide (t379 < (-(1 : Int))))
    (some ((1 : Int), ()))
   (bindD ((ixAt p5 p1)) fun t380 =>
    bindD ((ixAt t380 p2)) fun t381 =>
    ifB (decide (t381 ≥ p0))
     (some ((1 : Int), ()))
    (ancepsref06_Valid.l12 p0 p1 (Go.IntKind.wrap Go.IntKind.i64 (p2 + (1 : Int))) p3 p4 p5 p6)))
  (ancepsref06_Valid.l7 p0 (Go.IntKind.wrap Go.IntKind.i64 (p1 + (1 : Int))) p3 p4 p5 p6) := (loopAt_step Go.Proofs.C28.ctx 69 12 _).trans (by kernel_rfl)
theorem difference_visit_70.l2_1_eq (p0 : (List ((Int × Int) × (Int × Int)))) (p1 : Int) (p2 : Int) (p3 : (List (List Int))) (p4 : (List Bool)) (p5 : Int) (p6 : Int) (p7 : (List (List Int))) (p8 : (List Bool)) (p9 : Int) (p10 : Int) : difference_visit_70.l2_1 p0 p1 p2 p3 p4 p5 p6 p7 p8 p9 p10 =
  ifB (decide (p10 < p9))
   (bindD ((ixAt p0 p10)) fun t382 =>
   bindD (difference_within_1.f t382.1.1 t382.1.2 t382.2.1 t382.2.2 p1 p2 p3 p4 p5 p6 p7 p8) fun t383 =>
   ifB t383.1
    (some (p10, ()))
   (difference_visit_70.l2_1 p0 p1 p2 p3 p4 p5 p6 p7 p8 p9 (Go.IntKind.wrap Go.IntKind.i64 (p10 + (1 : Int)))))
  (some ((-(1 : Int)), ())) := (loopAt_step Go.Proofs.C28.ctx 70 2 _).trans (by kernel_rfl)
theorem difference_step.f_eq (p0 : Int) (p1 : Int) (p2 : (List (List Int))) (p3 : (List Bool)) (p4 : Int) (p5 : Int) : difference_step.f p0 p1 p2 p3 p4 p5 =
  ifB (decide (p4 < (0 : Int)))
   (some ((-(1 : Int)), ()))
  (bindD ((ixAt p2 p4)) fun t384 =>
   bindD ((ixAt t384 p5)) fun t385 =>
   some (t385, ())) := (Einf_call Go.Proofs.C28.ctx 43 _).trans (by kernel_rfl)
theorem difference_Disjoint_1.f_eq (p0 : Int) (p1 : Int) (p2 : Int) (p3 : Int) (p4 : Int) (p5 : Int) (p6 : (List (List Int))) (p7 : (List Bool)) (p8 : Int) (p9 : Int) (p10 : (List (List Int))) (p11 : (List Bool)) : difference_Disjoint_1.f p0 p1 p2 p3 p4 p5 p6 p7 p8 p9 p10 p11 =
  bindD (difference_accepts.f p4 p5 p6 p7 p0) fun t386 =>
  ifB t386.1
   (bindD (difference_accepts.f p8 p9 p10 p11 p1) fun t387 =>
   some (t387.1, ()))
  (some (false, ())) := (Einf_call Go.Proofs.C28.ctx 56 _).trans (by kernel_rfl)
theorem slices_IndexFunc_int_int.f_eq (p0 : (List Int)) (p1 : Int) : slices_IndexFunc_int_int.f p0 p1 =
  slices_IndexFunc_int_int.l2 p0 p1 (((List.length p0) : Nat) : Int) (0 : Int) := (Einf_call Go.Proofs.C28.ctx 82 _).trans (by kernel_rfl)
theorem cmp_isNaN_int.f_eq (p0 : Int) : cmp_isNaN_int.f p0 =
  some ((p0 != p0), ()) := (Einf_call Go.Proofs.C28.ctx 83 _).trans (by kernel_rfl)
theorem cmp_Or_int.l3_eq (p0 : Int) (p1 : (List Int)) (p2 : Int) (p3 : Int) : cmp_Or_int.l3 p0 p1 p2 p3 =
  ifB (decide (p3 < p2))
   (bindD ((ixAt p1 p3)) fun t388 =>
   ifB (t388 != p0)
    (some (t388, ()))
   (cmp_Or_int.l3 p0 p1 p2 (Go.IntKind.wrap Go.IntKind.i64 (p3 + (1 : Int)))))
  (some (p0, ())) := (loopAt_step Go.Proofs.C28.ctx 74 3 _).trans (by kernel_rfl)
theorem api_Pair_61.f_eq (p0 : (List (Int × Int))) (p1 : Int) (p2 : Int) : api_Pair_61.f p0 p1 p2 =
  api_Pair_61.l3 p0 (((List.length p0) : Nat) : Int) (0 : Int) (((List.length p0) : Nat) : Int) p1 p2 := (Einf_call Go.Proofs.C28.ctx 61 _).trans (by kernel_rfl)
theorem automaton_visits.l8_eq (p0 : Int) (p1 : Int) (p2 : Int) (p3 : Int) (p4 : Int) (p5 : (List (List Int))) (p6 : (List Bool)) (p7 : Int) (p8 : Int) (p9 : (List (List Int))) (p10 : (List Bool)) (p11 : (List ((Int × Int) × (Int × Int)))) (p12 : (List ((Int × Int) × Bool))) (p13 : Int) (p14 : Int) : automaton_visits.l8 p0 p1 p2 p3 p4 p5 p6 p7 p8 p9 p10 p11 p12 p13 p14 =
  ifB (decide (p2 < p1))
   (bindD (automaton_next.f p3 p4 p5 p6 p13 p2) fun t389 =>
   bindD (automaton_next.f p7 p8 p9 p10 p14 p2) fun t390 =>
   ifB (!(Go.Proofs.R.mget (Go.Proofs.R.Ty.pair (Go.Proofs.R.Ty.int Go.IntKind.i64) (Go.Proofs.R.Ty.int Go.IntKind.i64)) false (t389.1, t390.1) p12).1)
    (bindD ((Go.Proofs.R.grow ((List.length p11) + (List.length (((t389.1, t390.1), (p0, p2)) :: ([] : (List ((Int × Int) × (Int × Int))))))))) fun t391 =>
    automaton_visits.l8 p0 p1 (Go.IntKind.wrap Go.IntKind.i64 (p2 + (1 : Int))) p3 p4 p5 p6 p7 p8 p9 p10 (p11 ++ (((t389.1, t390.1), (p0, p2)) :: ([] : (List ((Int × Int) × (Int × Int)))))) (Go.Proofs.R.mput (Go.Proofs.R.Ty.pair (Go.Proofs.R.Ty.int Go.IntKind.i64) (Go.Proofs.R.Ty.int Go.IntKind.i64)) (t389.1, t390.1) true p12) p13 p14)
   (automaton_visits.l8 p0 p1 (Go.IntKind.wrap Go.IntKind.i64 (p2 + (1 : Int))) p3 p4 p5 p6 p7 p8 p9 p10 p11 p12 p13 p14))
  (automaton_visits.l4 (Go.IntKind.wrap Go.IntKind.i64 (p0 + (1 : Int))) p3 p4 p5 p6 p7 p8 p9 p10 p11 p12) := (loopAt_step Go.Proofs.C28.ctx 77 8 _).trans (by kernel_rfl)
theorem automaton_Product.l19_eq (p0 : Int) (p1 : Int) (p2 : Int) (p3 : Int) (p4 : Int) (p5 : Int) (p6 : Int) (p7 : (List (List Int))) (p8 : (List Bool)) (p9 : Int) (p10 : Int) (p11 : (List (List Int))) (p12 : (List Bool)) (p13 : Int) (p14 : Int) (p15 : (List ((Int × Int) × Int))) (p16 : Int) (p17 : Int) (p18 : Int) (p19 : Int) (p20 : Int) (p21 : Int) (p22 : (List Int)) (p23 : (List ((Int × Int) × (Int × Int)))) (p24 : (List (List Int))) (p25 : (List Bool)) (p26 : (List (List Int))) (p27 : (List Bool)) : automaton_Product.l19 p0 p1 p2 p3 p4 p5 p6 p7 p8 p9 p10 p11 p12 p13 p14 p15 p16 p17 p18 p19 p20 p21 p22 p23 p24 p25 p26 p27 =
  ifB (decide (p4 < p3))
   (bindD (automaton_next.f p5 p6 p7 p8 p18 p4) fun t392 =>
   bindD (automaton_next.f p9 p10 p11 p12 p19 p4) fun t393 =>
   bindD ((ixAt p22 p4)) fun t394 =>
   bindD ((ixAt p22 p4)) fun t395 =>
   automaton_Product.l19 p0 p1 p2 p3 (Go.IntKind.wrap Go.IntKind.i64 (p4 + (1 : Int))) p5 p6 p7 p8 p9 p10 p11 p12 p13 p14 p15 p16 p17 p18 p19 p20 p21 (setRow p22 p4 (Go.Proofs.R.mget (Go.Proofs.R.Ty.pair (Go.Proofs.R.Ty.int Go.IntKind.i64) (Go.Proofs.R.Ty.int Go.IntKind.i64)) (0 : Int) (t392.1, t393.1) p15).1) p23 p24 p25 p26 p27)
  (bindD (automaton_ends.f p5 p6 p7 p8 p18) fun t396 =>
   bindD (automaton_ends.f p9 p10 p11 p12 p19) fun t397 =>
   ifB t396.1
    (ifB (p0 == (2 : Int))
     (ifB t396.1
      (bindD ((Go.Proofs.R.grow ((List.length p26) + (List.length (p22 :: ([] : (List (List Int)))))))) fun t398 =>
      bindD ((Go.Proofs.R.grow ((List.length p27) + (List.length (true :: ([] : (List Bool))))))) fun t399 =>
      automaton_Product.l15 p0 p1 (Go.IntKind.wrap Go.IntKind.i64 (p2 + (1 : Int))) p5 p6 p7 p8 p9 p10 p11 p12 p13 p14 p15 p16 p17 p23 p24 p25 (p26 ++ (p22 :: ([] : (List (List Int))))) (p27 ++ (true :: ([] : (List Bool)))))
     (bindD ((Go.Proofs.R.grow ((List.length p26) + (List.length (p22 :: ([] : (List (List Int)))))))) fun t400 =>
      bindD ((Go.Proofs.R.grow ((List.length p27) + (List.length (t397.1 :: ([] : (List Bool))))))) fun t401 =>
      automaton_Product.l15 p0 p1 (Go.IntKind.wrap Go.IntKind.i64 (p2 + (1 : Int))) p5 p6 p7 p8 p9 p10 p11 p12 p13 p14 p15 p16 p17 p23 p24 p25 (p26 ++ (p22 :: ([] : (List (List Int))))) (p27 ++ (t397.1 :: ([] : (List Bool))))))
    (ifB (p0 == (3 : Int))
      (ifB t396.1
       (bindD ((Go.Proofs.R.grow ((List.length p26) + (List.length (p22 :: ([] : (List (List Int)))))))) fun t402 =>
       bindD ((Go.Proofs.R.grow ((List.length p27) + (List.length ((!t397.1) :: ([] : (List Bool))))))) fun t403 =>
       automaton_Product.l15 p0 p1 (Go.IntKind.wrap Go.IntKind.i64 (p2 + (1 : Int))) p5 p6 p7 p8 p9 p10 p11 p12 p13 p14 p15 p16 p17 p23 p24 p25 (p26 ++ (p22 :: ([] : (List (List Int))))) (p27 ++ ((!t397.1) :: ([] : (List Bool)))))
      (bindD ((Go.Proofs.R.grow ((List.length p26) + (List.length (p22 :: ([] : (List (List Int)))))))) fun t404 =>
       bindD ((Go.Proofs.R.grow ((List.length p27) + (List.length (false :: ([] : (List Bool))))))) fun t405 =>
       automaton_Product.l15 p0 p1 (Go.IntKind.wrap Go.IntKind.i64 (p2 + (1 : Int))) p5 p6 p7 p8 p9 p10 p11 p12 p13 p14 p15 p16 p17 p23 p24 p25 (p26 ++ (p22 :: ([] : (List (List Int))))) (p27 ++ (false :: ([] : (List Bool))))))
     (bindD ((Go.Proofs.R.grow ((List.length p26) + (List.length (p22 :: ([] : (List (List Int)))))))) fun t406 =>
      bindD ((Go.Proofs.R.grow ((List.length p27) + (List.length (t397.1 :: ([] : (List Bool))))))) fun t407 =>
      automaton_Product.l15 p0 p1 (Go.IntKind.wrap Go.IntKind.i64 (p2 + (1 : Int))) p5 p6 p7 p8 p9 p10 p11 p12 p13 p14 p15 p16 p17 p23 p24 p25 (p26 ++ (p22 :: ([] : (List (List Int))))) (p27 ++ (t397.1 :: ([] : (List Bool)))))))
   (ifB (p0 == (2 : Int))
     (ifB t396.1
      (bindD ((Go.Proofs.R.grow ((List.length p26) + (List.length (p22 :: ([] : (List (List Int)))))))) fun t408 =>
      bindD ((Go.Proofs.R.grow ((List.length p27) + (List.length (true :: ([] : (List Bool))))))) fun t409 =>
      automaton_Product.l15 p0 p1 (Go.IntKind.wrap Go.IntKind.i64 (p2 + (1 : Int))) p5 p6 p7 p8 p9 p10 p11 p12 p13 p14 p15 p16 p17 p23 p24 p25 (p26 ++ (p22 :: ([] : (List (List Int))))) (p27 ++ (true :: ([] : (List Bool)))))
     (bindD ((Go.Proofs.R.grow ((List.length p26) + (List.length (p22 :: ([] : (List (List Int)))))))) fun t410 =>
      bindD ((Go.Proofs.R.grow ((List.length p27) + (List.length (t397.1 :: ([] : (List Bool))))))) fun t411 =>
      automaton_Product.l15 p0 p1 (Go.IntKind.wrap Go.IntKind.i64 (p2 + (1 : Int))) p5 p6 p7 p8 p9 p10 p11 p12 p13 p14 p15 p16 p17 p23 p24 p25 (p26 ++ (p22 :: ([] : (List (List Int))))) (p27 ++ (t397.1 :: ([] : (List Bool))))))
    (ifB (p0 == (3 : Int))
      (ifB t396.1
       (bindD ((Go.Proofs.R.grow ((List.length p26) + (List.length (p22 :: ([] : (List (List Int)))))))) fun t412 =>
       bindD ((Go.Proofs.R.grow ((List.length p27) + (List.length ((!t397.1) :: ([] : (List Bool))))))) fun t413 =>
       automaton_Product.l15 p0 p1 (Go.IntKind.wrap Go.IntKind.i64 (p2 + (1 : Int))) p5 p6 p7 p8 p9 p10 p11 p12 p13 p14 p15 p16 p17 p23 p24 p25 (p26 ++ (p22 :: ([] : (List (List Int))))) (p27 ++ ((!t397.1) :: ([] : (List Bool)))))
      (bindD ((Go.Proofs.R.grow ((List.length p26) + (List.length (p22 :: ([] : (List (List Int)))))))) fun t414 =>
       bindD ((Go.Proofs.R.grow ((List.length p27) + (List.length (false :: ([] : (List Bool))))))) fun t415 =>
       automaton_Product.l15 p0 p1 (Go.IntKind.wrap Go.IntKind.i64 (p2 + (1 : Int))) p5 p6 p7 p8 p9 p10 p11 p12 p13 p14 p15 p16 p17 p23 p24 p25 (p26 ++ (p22 :: ([] : (List (List Int))))) (p27 ++ (false :: ([] : (List Bool))))))
     (bindD ((Go.Proofs.R.grow ((List.length p26) + (List.length (p22 :: ([] : (List (List Int)))))))) fun t416 =>
      bindD ((Go.Proofs.R.grow ((List.length p27) + (List.length (false :: ([] : (List Bool))))))) fun t417 =>
      automaton_Product.l15 p0 p1 (Go.IntKind.wrap Go.IntKind.i64 (p2 + (1 : Int))) p5 p6 p7 p8 p9 p10 p11 p12 p13 p14 p15 p16 p17 p23 p24 p25 (p26 ++ (p22 :: ([] : (List (List Int))))) (p27 ++ (false :: ([] : (List Bool)))))))) := (loopAt_step Go.Proofs.C28.ctx 64 19 _).trans (by kernel_rfl)
theorem automaton_minimal.f_eq (p0 : Int) (p1 : Int) (p2 : (List (List Int))) (p3 : (List Bool)) : automaton_minimal.f p0 p1 p2 p3 =
  ifB (decide (p1 < (0 : Int)))
   (some (p0, ((-(1 : Int)), (([] : (List (List Int))), (([] : (List Bool)), ())))))
  (bindD (automaton_classes.f p0 p1 p2 p3) fun t418 =>
   bindD ((ixAt t418.1 p1)) fun t419 =>
   bindD ((ixAt t418.1 p1)) fun t420 =>
   ifB (t420 == (0 : Int))
    (some (p0, ((-(1 : Int)), (([] : (List (List Int))), (([] : (List Bool)), ())))))
   (bindD ((ixAt t418.1 p1)) fun t421 =>
    bindD ((ixAt t418.1 p1)) fun t422 =>
    automaton_minimal.l11 (0 : Int) p0 p1 p2 p3 (0 : Int) (0 : Int) p0 (0 : Int) t418.1 (Go.Proofs.R.mput (Go.Proofs.R.Ty.int Go.IntKind.i64) t422 (0 : Int) ([] : (List (Int × Int)))) (p1 :: ([] : (List Int))) ([] : (List (List Int))) ([] : (List Bool)) ([] : (List (List Int))) ([] : (List Bool)))) := (Einf_call Go.Proofs.C28.ctx 78 _).trans (by kernel_rfl)
theorem ancepsref06_classes.f_eq (p0 : Int) (p1 : Int) (p2 : (List (List Int))) (p3 : (List Bool)) : ancepsref06_classes.f p0 p1 p2 p3 =
  bindD (ancepsref06_Live.f p0 p1 p2 p3) fun t423 =>
  bindD ((Go.Proofs.R.mkLen (((List.length p2) : Nat) : Int) (((List.length p2) : Nat) : Int))) fun t424 =>
  ancepsref06_classes.l4 (0 : Int) p0 p1 p2 p3 t423.1 (List.replicate t424 (0 : Int)) := (Einf_call Go.Proofs.C28.ctx 85 _).trans (by kernel_rfl)
theorem ancepsref06_minimal.l9_eq (p0 : Int) (p1 : Int) (p2 : Int) (p3 : (List (List Int))) (p4 : (List Bool)) (p5 : Int) (p6 : Int) (p7 : Int) (p8 : Int) (p9 : (List Int)) (p10 : (List Int)) (p11 : (List (Int × Int))) (p12 : (List (List Int))) (p13 : (List Bool)) (p14 : (List (List Int))) (p15 : (List Bool)) : ancepsref06_minimal.l9 p0 p1 p2 p3 p4 p5 p6 p7 p8 p9 p10 p11 p12 p13 p14 p15 =
  ifB (decide (p0 < (((List.length p10) : Nat) : Int)))
   (ancepsref06_minimal.l13 p0 (0 : Int) p1 p2 p3 p4 p5 p6 p7 p8 p9 p10 p11 ([] : (List Int)) p12 p13 p14 p15)
  (some (p7, (p8, (p14, (p15, ()))))) := (loopAt_step Go.Proofs.C28.ctx 79 9 _).trans (by kernel_rfl)
theorem automaton_Count.l22_eq (p0 : Int) (p1 : Int) (p2 : Int) (p3 : (List (List Int))) (p4 : Int) (p5 : Int) (p6 : (List Int)) (p7 : Int) (p8 : Int) (p9 : Int) (p10 : Int) (p11 : (List (List Int))) (p12 : (List Bool)) (p13 : (List Int)) (p14 : (List Int)) : automaton_Count.l22 p0 p1 p2 p3 p4 p5 p6 p7 p8 p9 p10 p11 p12 p13 p14 =
  ifB (decide (p8 < p7))
   (bindD ((ixAt p6 p8)) fun t425 =>
   ifB (decide (t425 ≥ (0 : Int)))
    (bindD ((ixAt p14 p0)) fun t426 =>
    bindD ((ixAt p14 p0)) fun t427 =>
    bindD ((ixAt p13 t425)) fun t428 =>
    bindD ((ixAt p13 t425)) fun t429 =>
    bindD ((ixAt p14 p0)) fun t430 =>
    bindD ((ixAt p14 p0)) fun t431 =>
    automaton_Count.l22 p0 p1 p2 p3 p4 p5 p6 p7 (Go.IntKind.wrap Go.IntKind.i64 (p8 + (1 : Int))) p9 p10 p11 p12 p13 (setRow p14 p0 (if ((4611686018427387905 : Int) < (Go.IntKind.wrap Go.IntKind.u64 (t427 + t429))) then (4611686018427387905 : Int) else (Go.IntKind.wrap Go.IntKind.u64 (t427 + t429)))))
   (automaton_Count.l22 p0 p1 p2 p3 p4 p5 p6 p7 (Go.IntKind.wrap Go.IntKind.i64 (p8 + (1 : Int))) p9 p10 p11 p12 p13 p14))
  (automaton_Count.l19 p1 p2 p3 p4 (Go.IntKind.wrap Go.IntKind.i64 (p5 + (1 : Int))) p9 p10 p11 p12 p13 p14) := (loopAt_step Go.Proofs.C28.ctx 33 22 _).trans (by kernel_rfl)
theorem difference_within_1.f_eq (p0 : Int) (p1 : Int) (p2 : Int) (p3 : Int) (p4 : Int) (p5 : Int) (p6 : (List (List Int))) (p7 : (List Bool)) (p8 : Int) (p9 : Int) (p10 : (List (List Int))) (p11 : (List Bool)) : difference_within_1.f p0 p1 p2 p3 p4 p5 p6 p7 p8 p9 p10 p11 =
  bindD (difference_accepts.f p4 p5 p6 p7 p0) fun t432 =>
  ifB t432.1
   (bindD (difference_accepts.f p8 p9 p10 p11 p1) fun t433 =>
   some ((!t433.1), ()))
  (some (false, ())) := (Einf_call Go.Proofs.C28.ctx 68 _).trans (by kernel_rfl)
theorem slices_IndexFunc_int_int.l2_eq (p0 : (List Int)) (p1 : Int) (p2 : Int) (p3 : Int) : slices_IndexFunc_int_int.l2 p0 p1 p2 p3 =
  ifB (decide (p3 < p2))
   (bindD ((ixAt p0 p3)) fun t434 =>
   bindD (automaton_Valid_1.f t434 p1) fun t435 =>
   ifB t435.1
    (some (p3, ()))
   (slices_IndexFunc_int_int.l2 p0 p1 p2 (Go.IntKind.wrap Go.IntKind.i64 (p3 + (1 : Int)))))
  (some ((-(1 : Int)), ())) := (loopAt_step Go.Proofs.C28.ctx 82 2 _).trans (by kernel_rfl)
theorem api_Pair_61.l3_eq (p0 : (List (Int × Int))) (p1 : Int) (p2 : Int) (p3 : Int) (p4 : Int) (p5 : Int) : api_Pair_61.l3 p0 p1 p2 p3 p4 p5 =
  ifB (decide (p2 < p3))
   (bindD ((ixAt p0 (Go.IntKind.wrap Go.IntKind.i64 (Go.Proofs.R.shrInt Go.IntKind.u64 (Go.IntKind.wrap Go.IntKind.u64 (Go.IntKind.wrap Go.IntKind.i64 (p2 + p3))) (1 : Int))))) fun t436 =>
   bindD (difference_order.f t436.1 t436.2 p4 p5) fun t437 =>
   ifB (decide (t437.1 < (0 : Int)))
    (api_Pair_61.l3 p0 p1 (Go.IntKind.wrap Go.IntKind.i64 ((Go.IntKind.wrap Go.IntKind.i64 (Go.Proofs.R.shrInt Go.IntKind.u64 (Go.IntKind.wrap Go.IntKind.u64 (Go.IntKind.wrap Go.IntKind.i64 (p2 + p3))) (1 : Int))) + (1 : Int))) p3 p4 p5)
   (api_Pair_61.l3 p0 p1 p2 (Go.IntKind.wrap Go.IntKind.i64 (Go.Proofs.R.shrInt Go.IntKind.u64 (Go.IntKind.wrap Go.IntKind.u64 (Go.IntKind.wrap Go.IntKind.i64 (p2 + p3))) (1 : Int))) p4 p5))
  (ifB (decide (p2 < p1))
    (bindD ((ixAt p0 p2)) fun t438 =>
    bindD (difference_order.f t438.1 t438.2 p4 p5) fun t439 =>
    some (p2, ((t439.1 == (0 : Int)), ())))
   (some (p2, (false, ())))) := (loopAt_step Go.Proofs.C28.ctx 61 3 _).trans (by kernel_rfl)
theorem automaton_classes.f_eq (p0 : Int) (p1 : Int) (p2 : (List (List Int))) (p3 : (List Bool)) : automaton_classes.f p0 p1 p2 p3 =
  bindD (automaton_useful.f p0 p1 p2 p3) fun t440 =>
  bindD ((Go.Proofs.R.mkLen (((List.length p2) : Nat) : Int) (((List.length p2) : Nat) : Int))) fun t441 =>
  automaton_classes.l4 (((List.length (List.replicate t441 (0 : Int))) : Nat) : Int) (0 : Int) p0 p1 p2 p3 t440.1 (List.replicate t441 (0 : Int)) := (Einf_call Go.Proofs.C28.ctx 84 _).trans (by kernel_rfl)
theorem automaton_minimal.l11_eq (p0 : Int) (p1 : Int) (p2 : Int) (p3 : (List (List Int))) (p4 : (List Bool)) (p5 : Int) (p6 : Int) (p7 : Int) (p8 : Int) (p9 : (List Int)) (p10 : (List (Int × Int))) (p11 : (List Int)) (p12 : (List (List Int))) (p13 : (List Bool)) (p14 : (List (List Int))) (p15 : (List Bool)) : automaton_minimal.l11 p0 p1 p2 p3 p4 p5 p6 p7 p8 p9 p10 p11 p12 p13 p14 p15 =
  ifB (decide (p0 < (((List.length p11) : Nat) : Int)))
   (bindD ((ixAt p11 p0)) fun t442 =>
   bindD ((ixAt p11 p0)) fun t443 =>
   bindD ((Go.Proofs.R.mkLen p1 p1)) fun t444 =>
   bindD ((ixAt p3 t443)) fun t445 =>
   automaton_minimal.l16 p0 t443 t445 (((List.length t445) : Nat) : Int) (0 : Int) p1 p2 p3 p4 p5 p6 p7 p8 p9 p10 p11 (List.replicate t444 (0 : Int)) p12 p13 p14 p15)
  (some (p7, (p8, (p14, (p15, ()))))) := (loopAt_step Go.Proofs.C28.ctx 78 11 _).trans (by kernel_rfl)
theorem ancepsref06_Live.f_eq (p0 : Int) (p1 : Int) (p2 : (List (List Int))) (p3 : (List Bool)) : ancepsref06_Live.f p0 p1 p2 p3 =
  bindD ((Go.Proofs.R.grow ((List.length ([] : (List Bool))) + (List.length p3)))) fun t446 =>
  ancepsref06_Live.l3 true p0 p1 p2 p3 (([] : (List Bool)) ++ p3) := (Einf_call Go.Proofs.C28.ctx 97 _).trans (by kernel_rfl)
theorem ancepsref06_classes.l4_eq (p0 : Int) (p1 : Int) (p2 : Int) (p3 : (List (List Int))) (p4 : (List Bool)) (p5 : (List Bool)) (p6 : (List Int)) : ancepsref06_classes.l4 p0 p1 p2 p3 p4 p5 p6 =
  ifB (decide (p0 < (((List.length p6) : Nat) : Int)))
   (bindD ((ixAt p5 p0)) fun t447 =>
   bindD ((ixAt p5 p0)) fun t448 =>
   ifB t448
    (bindD ((ixAt p6 p0)) fun t449 =>
    bindD ((ixAt p6 p0)) fun t450 =>
    bindD ((ixAt p4 p0)) fun t451 =>
    ifB t451
     (bindD ((ixAt (setRow p6 p0 (1 : Int)) p0)) fun t452 =>
     bindD ((ixAt (setRow p6 p0 (1 : Int)) p0)) fun t453 =>
     ancepsref06_classes.l4 (Go.IntKind.wrap Go.IntKind.i64 (p0 + (1 : Int))) p1 p2 p3 p4 p5 (setRow (setRow p6 p0 (1 : Int)) p0 (2 : Int)))
    (ancepsref06_classes.l4 (Go.IntKind.wrap Go.IntKind.i64 (p0 + (1 : Int))) p1 p2 p3 p4 p5 (setRow p6 p0 (1 : Int))))
   (ancepsref06_classes.l4 (Go.IntKind.wrap Go.IntKind.i64 (p0 + (1 : Int))) p1 p2 p3 p4 p5 p6))
  (ancepsref06_classes.l11 (0 : Int) p1 p2 p3 p4 p5 p6) := (loopAt_step Go.Proofs.C28.ctx 85 4 _).trans (by kernel_rfl)
theorem ancepsref06_minimal.l13_eq (p0 : Int) (p1 : Int) (p2 : Int) (p3 : Int) (p4 : (List (List Int))) (p5 : (List Bool)) (p6 : Int) (p7 : Int) (p8 : Int) (p9 : Int) (p10 : (List Int)) (p11 : (List Int)) (p12 : (List (Int × Int))) (p13 : (List Int)) (p14 : (List (List Int))) (p15 : (List Bool)) (p16 : (List (List Int))) (p17 : (List Bool)) : ancepsref06_minimal.l13 p0 p1 p2 p3 p4 p5 p6 p7 p8 p9 p10 p11 p12 p13 p14 p15 p16 p17 =
  ifB (decide (p1 < p2))
   (bindD ((ixAt p11 p0)) fun t454 =>
   bindD ((ixAt p11 p0)) fun t455 =>
   bindD ((ixAt p4 t455)) fun t456 =>
   bindD ((ixAt t456 p1)) fun t457 =>
   ifB (decide (t457 < (0 : Int)))
    (bindD ((Go.Proofs.R.grow ((List.length p13) + (List.length ((-(1 : Int)) :: ([] : (List Int))))))) fun t458 =>
    ancepsref06_minimal.l13 p0 (Go.IntKind.wrap Go.IntKind.i64 (p1 + (1 : Int))) p2 p3 p4 p5 p6 p7 p8 p9 p10 p11 p12 (p13 ++ ((-(1 : Int)) :: ([] : (List Int)))) p14 p15 p16 p17)
   (bindD ((ixAt p10 t457)) fun t459 =>
    bindD ((ixAt p10 t457)) fun t460 =>
    ifB (t460 == (0 : Int))
     (bindD ((Go.Proofs.R.grow ((List.length p13) + (List.length ((-(1 : Int)) :: ([] : (List Int))))))) fun t461 =>
     ancepsref06_minimal.l13 p0 (Go.IntKind.wrap Go.IntKind.i64 (p1 + (1 : Int))) p2 p3 p4 p5 p6 p7 p8 p9 p10 p11 p12 (p13 ++ ((-(1 : Int)) :: ([] : (List Int)))) p14 p15 p16 p17)
    (bindD ((ixAt p10 t457)) fun t462 =>
     bindD ((ixAt p10 t457)) fun t463 =>
     ifB (!(Go.Proofs.R.mget (Go.Proofs.R.Ty.int Go.IntKind.i64) (0 : Int) t463 p12).2)
      (bindD ((ixAt p10 t457)) fun t464 =>
      bindD ((ixAt p10 t457)) fun t465 =>
      bindD ((Go.Proofs.R.grow ((List.length p11) + (List.length (t457 :: ([] : (List Int))))))) fun t466 =>
      bindD ((Go.Proofs.R.grow ((List.length p13) + (List.length ((((List.length p11) : Nat) : Int) :: ([] : (List Int))))))) fun t467 =>
      ancepsref06_minimal.l13 p0 (Go.IntKind.wrap Go.IntKind.i64 (p1 + (1 : Int))) p2 p3 p4 p5 p6 p7 p8 p9 p10 (p11 ++ (t457 :: ([] : (List Int)))) (Go.Proofs.R.mput (Go.Proofs.R.Ty.int Go.IntKind.i64) t465 (((List.length p11) : Nat) : Int) p12) (p13 ++ ((((List.length p11) : Nat) : Int) :: ([] : (List Int)))) p14 p15 p16 p17)
     (bindD ((Go.Proofs.R.grow ((List.length p13) + (List.length ((Go.Proofs.R.mget (Go.Proofs.R.Ty.int Go.IntKind.i64) (0 : Int) t463 p12).1 :: ([] : (List Int))))))) fun t468 =>
      ancepsref06_minimal.l13 p0 (Go.IntKind.wrap Go.IntKind.i64 (p1 + (1 : Int))) p2 p3 p4 p5 p6 p7 p8 p9 p10 p11 p12 (p13 ++ ((Go.Proofs.R.mget (Go.Proofs.R.Ty.int Go.IntKind.i64) (0 : Int) t463 p12).1 :: ([] : (List Int)))) p14 p15 p16 p17))))
  (bindD ((Go.Proofs.R.grow ((List.length p16) + (List.length (p13 :: ([] : (List (List Int)))))))) fun t469 =>
   bindD ((ixAt p11 p0)) fun t470 =>
   bindD ((ixAt p11 p0)) fun t471 =>
   bindD ((ixAt p5 t471)) fun t472 =>
   bindD ((Go.Proofs.R.grow ((List.length p17) + (List.length (t472 :: ([] : (List Bool))))))) fun t473 =>
   ancepsref06_minimal.l9 (Go.IntKind.wrap Go.IntKind.i64 (p0 + (1 : Int))) p2 p3 p4 p5 p6 p7 p8 p9 p10 p11 p12 p14 p15 (p16 ++ (p13 :: ([] : (List (List Int))))) (p17 ++ (t472 :: ([] : (List Bool))))) := (loopAt_step Go.Proofs.C28.ctx 79 13 _).trans (by kernel_rfl)
theorem automaton_Valid_1.f_eq (p0 : Int) (p1 : Int) : automaton_Valid_1.f p0 p1 =
  ifB (decide (p0 < (-(1 : Int))))
   (some (true, ()))
  (some ((decide (p0 ≥ p1)), ())) := (Einf_call Go.Proofs.C28.ctx 72 _).trans (by kernel_rfl)
theorem automaton_useful.f_eq (p0 : Int) (p1 : Int) (p2 : (List (List Int))) (p3 : (List Bool)) : automaton_useful.f p0 p1 p2 p3 =
  bindD ((Go.Proofs.R.mkLen (((List.length p2) : Nat) : Int) (((List.length p2) : Nat) : Int))) fun t474 =>
  automaton_useful.l3 p2 (((List.length p2) : Nat) : Int) (0 : Int) p0 p1 p2 p3 (List.replicate t474 ([] : (List Int))) := (Einf_call Go.Proofs.C28.ctx 96 _).trans (by kernel_rfl)
theorem automaton_classes.l4_eq (p0 : Int) (p1 : Int) (p2 : Int) (p3 : Int) (p4 : (List (List Int))) (p5 : (List Bool)) (p6 : (List Bool)) (p7 : (List Int)) : automaton_classes.l4 p0 p1 p2 p3 p4 p5 p6 p7 =
  ifB (decide (p1 < p0))
   (bindD ((ixAt p6 p1)) fun t475 =>
   bindD ((ixAt p6 p1)) fun t476 =>
   ifB t476
    (bindD ((ixAt p7 p1)) fun t477 =>
    bindD ((ixAt p7 p1)) fun t478 =>
    bindD ((ixAt p5 p1)) fun t479 =>
    ifB t479
     (bindD ((ixAt (setRow p7 p1 (1 : Int)) p1)) fun t480 =>
     bindD ((ixAt (setRow p7 p1 (1 : Int)) p1)) fun t481 =>
     automaton_classes.l4 p0 (Go.IntKind.wrap Go.IntKind.i64 (p1 + (1 : Int))) p2 p3 p4 p5 p6 (setRow (setRow p7 p1 (1 : Int)) p1 (2 : Int)))
    (automaton_classes.l4 p0 (Go.IntKind.wrap Go.IntKind.i64 (p1 + (1 : Int))) p2 p3 p4 p5 p6 (setRow p7 p1 (1 : Int))))
   (bindD ((ixAt p5 p1)) fun t482 =>
    ifB t482
     (bindD ((ixAt p7 p1)) fun t483 =>
     bindD ((ixAt p7 p1)) fun t484 =>
     automaton_classes.l4 p0 (Go.IntKind.wrap Go.IntKind.i64 (p1 + (1 : Int))) p2 p3 p4 p5 p6 (setRow p7 p1 (2 : Int)))
    (automaton_classes.l4 p0 (Go.IntKind.wrap Go.IntKind.i64 (p1 + (1 : Int))) p2 p3 p4 p5 p6 p7)))
  (automaton_classes.l12 (0 : Int) p2 p3 p4 p5 p7) := (loopAt_step Go.Proofs.C28.ctx 84 4 _).trans (by kernel_rfl)
theorem automaton_minimal.l16_eq (p0 : Int) (p1 : Int) (p2 : (List Int)) (p3 : Int) (p4 : Int) (p5 : Int) (p6 : Int) (p7 : (List (List Int))) (p8 : (List Bool)) (p9 : Int) (p10 : Int) (p11 : Int) (p12 : Int) (p13 : (List Int)) (p14 : (List (Int × Int))) (p15 : (List Int)) (p16 : (List Int)) (p17 : (List (List Int))) (p18 : (List Bool)) (p19 : (List (List Int))) (p20 : (List Bool)) : automaton_minimal.l16 p0 p1 p2 p3 p4 p5 p6 p7 p8 p9 p10 p11 p12 p13 p14 p15 p16 p17 p18 p19 p20 =
  ifB (decide (p4 < p3))
   (bindD ((ixAt p2 p4)) fun t485 =>
   ifB (decide (t485 < (0 : Int)))
    (bindD ((ixAt p16 p4)) fun t486 =>
    bindD ((ixAt p16 p4)) fun t487 =>
    automaton_minimal.l16 p0 p1 p2 p3 (Go.IntKind.wrap Go.IntKind.i64 (p4 + (1 : Int))) p5 p6 p7 p8 p9 p10 p11 p12 p13 p14 p15 (setRow p16 p4 (-(1 : Int))) p17 p18 p19 p20)
   (bindD ((ixAt p13 t485)) fun t488 =>
    bindD ((ixAt p13 t485)) fun t489 =>
    ifB (t489 == (0 : Int))
     (bindD ((ixAt p16 p4)) fun t490 =>
     bindD ((ixAt p16 p4)) fun t491 =>
     automaton_minimal.l16 p0 p1 p2 p3 (Go.IntKind.wrap Go.IntKind.i64 (p4 + (1 : Int))) p5 p6 p7 p8 p9 p10 p11 p12 p13 p14 p15 (setRow p16 p4 (-(1 : Int))) p17 p18 p19 p20)
    (bindD ((ixAt p13 t485)) fun t492 =>
     bindD ((ixAt p13 t485)) fun t493 =>
     ifB (!(Go.Proofs.R.mget (Go.Proofs.R.Ty.int Go.IntKind.i64) (0 : Int) t493 p14).2)
      (bindD ((ixAt p13 t485)) fun t494 =>
      bindD ((ixAt p13 t485)) fun t495 =>
      bindD ((Go.Proofs.R.grow ((List.length p15) + (List.length (t485 :: ([] : (List Int))))))) fun t496 =>
      bindD ((ixAt p16 p4)) fun t497 =>
      bindD ((ixAt p16 p4)) fun t498 =>
      automaton_minimal.l16 p0 p1 p2 p3 (Go.IntKind.wrap Go.IntKind.i64 (p4 + (1 : Int))) p5 p6 p7 p8 p9 p10 p11 p12 p13 (Go.Proofs.R.mput (Go.Proofs.R.Ty.int Go.IntKind.i64) t495 (((List.length p15) : Nat) : Int) p14) (p15 ++ (t485 :: ([] : (List Int)))) (setRow p16 p4 (((List.length p15) : Nat) : Int)) p17 p18 p19 p20)
     (bindD ((ixAt p16 p4)) fun t499 =>
      bindD ((ixAt p16 p4)) fun t500 =>
      automaton_minimal.l16 p0 p1 p2 p3 (Go.IntKind.wrap Go.IntKind.i64 (p4 + (1 : Int))) p5 p6 p7 p8 p9 p10 p11 p12 p13 p14 p15 (setRow p16 p4 (Go.Proofs.R.mget (Go.Proofs.R.Ty.int Go.IntKind.i64) (0 : Int) t493 p14).1) p17 p18 p19 p20))))
  (bindD ((Go.Proofs.R.grow ((List.length p19) + (List.length (p16 :: ([] : (List (List Int)))))))) fun t501 =>
   bindD ((ixAt p8 p1)) fun t502 =>
   bindD ((Go.Proofs.R.grow ((List.length p20) + (List.length (t502 :: ([] : (List Bool))))))) fun t503 =>
   automaton_minimal.l11 (Go.IntKind.wrap Go.IntKind.i64 (p0 + (1 : Int))) p5 p6 p7 p8 p9 p10 p11 p12 p13 p14 p15 p17 p18 (p19 ++ (p16 :: ([] : (List (List Int))))) (p20 ++ (t502 :: ([] : (List Bool))))) := (loopAt_step Go.Proofs.C28.ctx 78 16 _).trans (by kernel_rfl)
theorem ancepsref06_Live.l3_eq (p0 : Bool) (p1 : Int) (p2 : Int) (p3 : (List (List Int))) (p4 : (List Bool)) (p5 : (List Bool)) : ancepsref06_Live.l3 p0 p1 p2 p3 p4 p5 =
  ifB p0
   (ancepsref06_Live.l6 false (0 : Int) p1 p2 p3 p4 p5)
  (some (p5, ())) := (loopAt_step Go.Proofs.C28.ctx 97 3 _).trans (by kernel_rfl)
theorem ancepsref06_classes.l11_eq (p0 : Int) (p1 : Int) (p2 : Int) (p3 : (List (List Int))) (p4 : (List Bool)) (p5 : (List Bool)) (p6 : (List Int)) : ancepsref06_classes.l11 p0 p1 p2 p3 p4 p5 p6 =
  bindD ((Go.Proofs.R.mkLen (((List.length p6) : Nat) : Int) (((List.length p6) : Nat) : Int))) fun t504 =>
  ancepsref06_classes.l14 p0 (0 : Int) p1 p2 p3 p4 p5 p6 (List.replicate t504 (0 : Int)) ([] : (List (List Int))) := (loopAt_step Go.Proofs.C28.ctx 85 11 _).trans (by kernel_rfl)
theorem automaton_useful.l3_eq (p0 : (List (List Int))) (p1 : Int) (p2 : Int) (p3 : Int) (p4 : Int) (p5 : (List (List Int))) (p6 : (List Bool)) (p7 : (List (List Int))) : automaton_useful.l3 p0 p1 p2 p3 p4 p5 p6 p7 =
  ifB (decide (p2 < p1))
   (bindD ((ixAt p0 p2)) fun t505 =>
   automaton_useful.l6 p2 p0 p1 p2 t505 (((List.length t505) : Nat) : Int) (0 : Int) p3 p4 p5 p6 p7)
  (bindD ((Go.Proofs.R.mkLen (((List.length p5) : Nat) : Int) (((List.length p5) : Nat) : Int))) fun t506 =>
   automaton_useful.l15 p6 (((List.length p6) : Nat) : Int) (0 : Int) p7 (List.replicate t506 false) ([] : (List Int))) := (loopAt_step Go.Proofs.C28.ctx 96 3 _).trans (by kernel_rfl)
theorem automaton_classes.l12_eq (p0 : Int) (p1 : Int) (p2 : Int) (p3 : (List (List Int))) (p4 : (List Bool)) (p5 : (List Int)) : automaton_classes.l12 p0 p1 p2 p3 p4 p5 =
  bindD ((Go.Proofs.R.mkLen (((List.length p5) : Nat) : Int) (((List.length p5) : Nat) : Int))) fun t507 =>
  automaton_classes.l15 p0 p3 (((List.length p3) : Nat) : Int) (0 : Int) p1 p2 p3 p4 p5 ([] : (List ((List Int) × Int))) (List.replicate t507 (0 : Int)) := (loopAt_step Go.Proofs.C28.ctx 84 12 _).trans (by kernel_rfl)
theorem ancepsref06_Live.l6_eq (p0 : Bool) (p1 : Int) (p2 : Int) (p3 : Int) (p4 : (List (List Int))) (p5 : (List Bool)) (p6 : (List Bool)) : ancepsref06_Live.l6 p0 p1 p2 p3 p4 p5 p6 =
  ifB (decide (p1 < (((List.length p4) : Nat) : Int)))
   (ancepsref06_Live.l9 p0 p1 (0 : Int) p2 p3 p4 p5 p6)
  (ancepsref06_Live.l3 p0 p2 p3 p4 p5 p6) := (loopAt_step Go.Proofs.C28.ctx 97 6 _).trans (by kernel_rfl)
theorem ancepsref06_classes.l14_eq (p0 : Int) (p1 : Int) (p2 : Int) (p3 : Int) (p4 : (List (List Int))) (p5 : (List Bool)) (p6 : (List Bool)) (p7 : (List Int)) (p8 : (List Int)) (p9 : (List (List Int))) : ancepsref06_classes.l14 p0 p1 p2 p3 p4 p5 p6 p7 p8 p9 =
  ifB (decide (p1 < (((List.length p7) : Nat) : Int)))
   (bindD ((ixAt p6 p1)) fun t508 =>
   bindD ((ixAt p6 p1)) fun t509 =>
   ifB (!t509)
    (ancepsref06_classes.l14 p0 (Go.IntKind.wrap Go.IntKind.i64 (p1 + (1 : Int))) p2 p3 p4 p5 p6 p7 p8 p9)
   (bindD ((ixAt p7 p1)) fun t510 =>
    bindD ((ixAt p7 p1)) fun t511 =>
    ancepsref06_classes.l19 p0 p1 (0 : Int) p2 p3 p4 p5 p6 p7 p8 p9 (t511 :: ([] : (List Int)))))
  (ifB ((((List.length p9) : Nat) : Int) == p0)
    (some (p8, ()))
   (ancepsref06_classes.l11 (((List.length p9) : Nat) : Int) p2 p3 p4 p5 p6 p8)) := (loopAt_step Go.Proofs.C28.ctx 85 14 _).trans (by kernel_rfl)
theorem automaton_useful.l6_eq (p0 : Int) (p1 : (List (List Int))) (p2 : Int) (p3 : Int) (p4 : (List Int)) (p5 : Int) (p6 : Int) (p7 : Int) (p8 : Int) (p9 : (List (List Int))) (p10 : (List Bool)) (p11 : (List (List Int))) : automaton_useful.l6 p0 p1 p2 p3 p4 p5 p6 p7 p8 p9 p10 p11 =
  ifB (decide (p6 < p5))
   (bindD ((ixAt p4 p6)) fun t512 =>
   ifB (decide (t512 ≥ (0 : Int)))
    (bindD ((ixAt p11 t512)) fun t513 =>
    bindD ((ixAt p11 t512)) fun t514 =>
    bindD ((ixAt p11 t512)) fun t515 =>
    bindD ((Go.Proofs.R.grow ((List.length t515) + (List.length (p0 :: ([] : (List Int))))))) fun t516 =>
    bindD ((ixAt p11 t512)) fun t517 =>
    ifB (decide (t512 = t512))
     (automaton_useful.l6 p0 p1 p2 p3 p4 p5 (Go.IntKind.wrap Go.IntKind.i64 (p6 + (1 : Int))) p7 p8 p9 p10 (setRow p11 t512 (t515 ++ (p0 :: ([] : (List Int))))))
    (none))
   (automaton_useful.l6 p0 p1 p2 p3 p4 p5 (Go.IntKind.wrap Go.IntKind.i64 (p6 + (1 : Int))) p7 p8 p9 p10 p11))
  (automaton_useful.l3 p1 p2 (Go.IntKind.wrap Go.IntKind.i64 (p3 + (1 : Int))) p7 p8 p9 p10 p11) := (loopAt_step Go.Proofs.C28.ctx 96 6 _).trans (by kernel_rfl)
theorem automaton_useful.l15_eq (p0 : (List Bool)) (p1 : Int) (p2 : Int) (p3 : (List (List Int))) (p4 : (List Bool)) (p5 : (List Int)) : automaton_useful.l15 p0 p1 p2 p3 p4 p5 =
  ifB (decide (p2 < p1))
   (bindD ((ixAt p0 p2)) fun t518 =>
   ifB t518
    (bindD ((ixAt p4 p2)) fun t519 =>
    bindD ((ixAt p4 p2)) fun t520 =>
    bindD ((Go.Proofs.R.grow ((List.length p5) + (List.length (p2 :: ([] : (List Int))))))) fun t521 =>
    automaton_useful.l15 p0 p1 (Go.IntKind.wrap Go.IntKind.i64 (p2 + (1 : Int))) p3 (setRow p4 p2 true) (p5 ++ (p2 :: ([] : (List Int)))))
   (automaton_useful.l15 p0 p1 (Go.IntKind.wrap Go.IntKind.i64 (p2 + (1 : Int))) p3 p4 p5))
  (automaton_useful.l21 p3 p4 p5) := (loopAt_step Go.Proofs.C28.ctx 96 15 _).trans (by kernel_rfl)
theorem automaton_classes.l15_eq (p0 : Int) (p1 : (List (List Int))) (p2 : Int) (p3 : Int) (p4 : Int) (p5 : Int) (p6 : (List (List Int))) (p7 : (List Bool)) (p8 : (List Int)) (p9 : (List ((List Int) × Int))) (p10 : (List Int)) : automaton_classes.l15 p0 p1 p2 p3 p4 p5 p6 p7 p8 p9 p10 =
  ifB (decide (p3 < p2))
   (bindD ((ixAt p1 p3)) fun t522 =>
   bindD ((ixAt p8 p3)) fun t523 =>
   bindD ((ixAt p8 p3)) fun t524 =>
   ifB (t524 == (0 : Int))
    (automaton_classes.l15 p0 p1 p2 (Go.IntKind.wrap Go.IntKind.i64 (p3 + (1 : Int))) p4 p5 p6 p7 p8 p9 p10)
   (bindD ((ixAt p8 p3)) fun t525 =>
    bindD ((ixAt p8 p3)) fun t526 =>
    automaton_classes.l20 p0 p3 p1 p2 p3 t522 (((List.length t522) : Nat) : Int) (0 : Int) p4 p5 p6 p7 p8 p9 p10 (List.set (List.replicate (9 : Nat) (0 : Int)) (0 : Nat) t526)))
  (ifB ((((List.length p9) : Nat) : Int) == p0)
    (some (p10, ()))
   (automaton_classes.l12 (((List.length p9) : Nat) : Int) p4 p5 p6 p7 p10)) := (loopAt_step Go.Proofs.C28.ctx 84 15 _).trans (by kernel_rfl)
theorem ancepsref06_Live.l9_eq (p0 : Bool) (p1 : Int) (p2 : Int) (p3 : Int) (p4 : Int) (p5 : (List (List Int))) (p6 : (List Bool)) (p7 : (List Bool)) : ancepsref06_Live.l9 p0 p1 p2 p3 p4 p5 p6 p7 =
  ifB (decide (p2 < p3))
   (bindD ((ixAt p7 p1)) fun t527 =>
   bindD ((ixAt p7 p1)) fun t528 =>
   ifB (!t528)
    (bindD ((ixAt p5 p1)) fun t529 =>
    bindD ((ixAt t529 p2)) fun t530 =>
    ifB (decide (t530 ≥ (0 : Int)))
     (bindD ((ixAt p7 t530)) fun t531 =>
     bindD ((ixAt p7 t530)) fun t532 =>
     ifB t532
      (bindD ((ixAt p7 p1)) fun t533 =>
      bindD ((ixAt p7 p1)) fun t534 =>
      ancepsref06_Live.l9 true p1 (Go.IntKind.wrap Go.IntKind.i64 (p2 + (1 : Int))) p3 p4 p5 p6 (setRow p7 p1 true))
     (ancepsref06_Live.l9 p0 p1 (Go.IntKind.wrap Go.IntKind.i64 (p2 + (1 : Int))) p3 p4 p5 p6 p7))
    (ancepsref06_Live.l9 p0 p1 (Go.IntKind.wrap Go.IntKind.i64 (p2 + (1 : Int))) p3 p4 p5 p6 p7))
   (ancepsref06_Live.l6 p0 (Go.IntKind.wrap Go.IntKind.i64 (p1 + (1 : Int))) p3 p4 p5 p6 p7))
  (ancepsref06_Live.l6 p0 (Go.IntKind.wrap Go.IntKind.i64 (p1 + (1 : Int))) p3 p4 p5 p6 p7) := (loopAt_step Go.Proofs.C28.ctx 97 9 _).trans (by kernel_rfl)
theorem ancepsref06_classes.l19_eq (p0 : Int) (p1 : Int) (p2 : Int) (p3 : Int) (p4 : Int) (p5 : (List (List Int))) (p6 : (List Bool)) (p7 : (List Bool)) (p8 : (List Int)) (p9 : (List Int)) (p10 : (List (List Int))) (p11 : (List Int)) : ancepsref06_classes.l19 p0 p1 p2 p3 p4 p5 p6 p7 p8 p9 p10 p11 =
  ifB (decide (p2 < p3))
   (bindD ((ixAt p5 p1)) fun t535 =>
   bindD ((ixAt t535 p2)) fun t536 =>
   ifB (decide (t536 ≥ (0 : Int)))
    (bindD ((ixAt p5 p1)) fun t537 =>
    bindD ((ixAt t537 p2)) fun t538 =>
    bindD ((ixAt p8 t538)) fun t539 =>
    bindD ((ixAt p8 t538)) fun t540 =>
    bindD ((Go.Proofs.R.grow ((List.length p11) + (List.length (t540 :: ([] : (List Int))))))) fun t541 =>
    ancepsref06_classes.l19 p0 p1 (Go.IntKind.wrap Go.IntKind.i64 (p2 + (1 : Int))) p3 p4 p5 p6 p7 p8 p9 p10 (p11 ++ (t540 :: ([] : (List Int)))))
   (bindD ((Go.Proofs.R.grow ((List.length p11) + (List.length ((0 : Int) :: ([] : (List Int))))))) fun t542 =>
    ancepsref06_classes.l19 p0 p1 (Go.IntKind.wrap Go.IntKind.i64 (p2 + (1 : Int))) p3 p4 p5 p6 p7 p8 p9 p10 (p11 ++ ((0 : Int) :: ([] : (List Int))))))
  (bindD (ancepsref06_index.f p10 p11) fun t543 =>
   ifB (decide (t543.1 < (0 : Int)))
    (bindD ((Go.Proofs.R.grow ((List.length p10) + (List.length (p11 :: ([] : (List (List Int)))))))) fun t544 =>
    bindD ((ixAt p9 p1)) fun t545 =>
    bindD ((ixAt p9 p1)) fun t546 =>
    ancepsref06_classes.l14 p0 (Go.IntKind.wrap Go.IntKind.i64 (p1 + (1 : Int))) p3 p4 p5 p6 p7 p8 (setRow p9 p1 (Go.IntKind.wrap Go.IntKind.i64 ((Go.IntKind.wrap Go.IntKind.i64 ((((List.length (p10 ++ (p11 :: ([] : (List (List Int)))))) : Nat) : Int) - (1 : Int))) + (1 : Int)))) (p10 ++ (p11 :: ([] : (List (List Int))))))
   (bindD ((ixAt p9 p1)) fun t547 =>
    bindD ((ixAt p9 p1)) fun t548 =>
    ancepsref06_classes.l14 p0 (Go.IntKind.wrap Go.IntKind.i64 (p1 + (1 : Int))) p3 p4 p5 p6 p7 p8 (setRow p9 p1 (Go.IntKind.wrap Go.IntKind.i64 (t543.1 + (1 : Int)))) p10)) := (loopAt_step Go.Proofs.C28.ctx 85 19 _).trans (by kernel_rfl)
theorem automaton_useful.l21_eq (p0 : (List (List Int))) (p1 : (List Bool)) (p2 : (List Int)) : automaton_useful.l21 p0 p1 p2 =
  ifB (decide ((((List.length p2) : Nat) : Int) > (0 : Int)))
   (bindD ((ixAt p2 (0 : Int))) fun t549 =>
   bindD ((ixAt p2 (0 : Int))) fun t550 =>
   bindD ((subL p2 (1 : Int) (((List.length p2) : Nat) : Int))) fun t551 =>
   bindD ((ixAt p0 t550)) fun t552 =>
   bindD ((ixAt p0 t550)) fun t553 =>
   automaton_useful.l25 t553 (((List.length t553) : Nat) : Int) (0 : Int) p0 p1 t551)
  (some (p1, ())) := (loopAt_step Go.Proofs.C28.ctx 96 21 _).trans (by kernel_rfl)
theorem automaton_classes.l20_eq (p0 : Int) (p1 : Int) (p2 : (List (List Int))) (p3 : Int) (p4 : Int) (p5 : (List Int)) (p6 : Int) (p7 : Int) (p8 : Int) (p9 : Int) (p10 : (List (List Int))) (p11 : (List Bool)) (p12 : (List Int)) (p13 : (List ((List Int) × Int))) (p14 : (List Int)) (p15 : (List Int)) : automaton_classes.l20 p0 p1 p2 p3 p4 p5 p6 p7 p8 p9 p10 p11 p12 p13 p14 p15 =
  ifB (decide (p7 < p6))
   (bindD ((ixAt p5 p7)) fun t554 =>
   ifB (decide (t554 ≥ (0 : Int)))
    (bindD ((ixAt p12 t554)) fun t555 =>
    bindD ((ixAt p12 t554)) fun t556 =>
    bindD ((ixAt p15 (Go.IntKind.wrap Go.IntKind.i64 (p7 + (1 : Int))))) fun t557 =>
    bindD ((ixAt p15 (Go.IntKind.wrap Go.IntKind.i64 (p7 + (1 : Int))))) fun t558 =>
    automaton_classes.l20 p0 p1 p2 p3 p4 p5 p6 (Go.IntKind.wrap Go.IntKind.i64 (p7 + (1 : Int))) p8 p9 p10 p11 p12 p13 p14 (setRow p15 (Go.IntKind.wrap Go.IntKind.i64 (p7 + (1 : Int))) t556))
   (automaton_classes.l20 p0 p1 p2 p3 p4 p5 p6 (Go.IntKind.wrap Go.IntKind.i64 (p7 + (1 : Int))) p8 p9 p10 p11 p12 p13 p14 p15))
  (ifB ((Go.Proofs.R.mget (Go.Proofs.R.Ty.arr (9 : Nat) (Go.Proofs.R.Ty.int Go.IntKind.i64)) (0 : Int) p15 p13).1 == (0 : Int))
    (bindD ((ixAt p14 p1)) fun t559 =>
    bindD ((ixAt p14 p1)) fun t560 =>
    automaton_classes.l15 p0 p2 p3 (Go.IntKind.wrap Go.IntKind.i64 (p4 + (1 : Int))) p8 p9 p10 p11 p12 (Go.Proofs.R.mput (Go.Proofs.R.Ty.arr (9 : Nat) (Go.Proofs.R.Ty.int Go.IntKind.i64)) p15 (Go.IntKind.wrap Go.IntKind.i64 ((((List.length p13) : Nat) : Int) + (1 : Int))) p13) (setRow p14 p1 (Go.Proofs.R.mget (Go.Proofs.R.Ty.arr (9 : Nat) (Go.Proofs.R.Ty.int Go.IntKind.i64)) (0 : Int) p15 (Go.Proofs.R.mput (Go.Proofs.R.Ty.arr (9 : Nat) (Go.Proofs.R.Ty.int Go.IntKind.i64)) p15 (Go.IntKind.wrap Go.IntKind.i64 ((((List.length p13) : Nat) : Int) + (1 : Int))) p13)).1))
   (bindD ((ixAt p14 p1)) fun t561 =>
    bindD ((ixAt p14 p1)) fun t562 =>
    automaton_classes.l15 p0 p2 p3 (Go.IntKind.wrap Go.IntKind.i64 (p4 + (1 : Int))) p8 p9 p10 p11 p12 p13 (setRow p14 p1 (Go.Proofs.R.mget (Go.Proofs.R.Ty.arr (9 : Nat) (Go.Proofs.R.Ty.int Go.IntKind.i64)) (0 : Int) p15 p13).1))) := (loopAt_step Go.Proofs.C28.ctx 84 20 _).trans (by kernel_rfl)
theorem ancepsref06_index.f_eq (p0 : (List (List Int))) (p1 : (List Int)) : ancepsref06_index.f p0 p1 =
  ancepsref06_index.l2 p0 p1 (0 : Int) := (Einf_call Go.Proofs.C28.ctx 98 _).trans (by kernel_rfl)
theorem automaton_useful.l25_eq (p0 : (List Int)) (p1 : Int) (p2 : Int) (p3 : (List (List Int))) (p4 : (List Bool)) (p5 : (List Int)) : automaton_useful.l25 p0 p1 p2 p3 p4 p5 =
  ifB (decide (p2 < p1))
   (bindD ((ixAt p0 p2)) fun t563 =>
   bindD ((ixAt p4 t563)) fun t564 =>
   bindD ((ixAt p4 t563)) fun t565 =>
   ifB (!t565)
    (bindD ((ixAt p4 t563)) fun t566 =>
    bindD ((ixAt p4 t563)) fun t567 =>
    bindD ((Go.Proofs.R.grow ((List.length p5) + (List.length (t563 :: ([] : (List Int))))))) fun t568 =>
    automaton_useful.l25 p0 p1 (Go.IntKind.wrap Go.IntKind.i64 (p2 + (1 : Int))) p3 (setRow p4 t563 true) (p5 ++ (t563 :: ([] : (List Int)))))
   (automaton_useful.l25 p0 p1 (Go.IntKind.wrap Go.IntKind.i64 (p2 + (1 : Int))) p3 p4 p5))
  (automaton_useful.l21 p3 p4 p5) := (loopAt_step Go.Proofs.C28.ctx 96 25 _).trans (by kernel_rfl)
theorem ancepsref06_index.l2_eq (p0 : (List (List Int))) (p1 : (List Int)) (p2 : Int) : ancepsref06_index.l2 p0 p1 p2 =
  ifB (decide (p2 < (((List.length p0) : Nat) : Int)))
   (bindD ((ixAt p0 p2)) fun t569 =>
   bindD (ancepsref06_Equal.f t569 p1) fun t570 =>
   ifB t570.1
    (some (p2, ()))
   (ancepsref06_index.l2 p0 p1 (Go.IntKind.wrap Go.IntKind.i64 (p2 + (1 : Int)))))
  (some ((-(1 : Int)), ())) := (loopAt_step Go.Proofs.C28.ctx 98 2 _).trans (by kernel_rfl)
end Go.Proofs.C28
