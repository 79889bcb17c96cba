/- C27B: what the row's functions are, as the evaluator tells them. No condition. -/
import Derived.Test.YtpkckffbdojegaaC27
set_option linter.unusedVariables false
set_option linter.unusedSimpArgs false
set_option maxRecDepth 100000
set_option linter.unusedVariables false
namespace Go.Proofs.C27
open Go Go.Proofs.R
noncomputable def ancepslaw27_CaesuraBreaks.f (p0 : (List Int)) (p1 : (List (ByteArray × (Int × Int)))) (p2 : (List Int)) (p3 : (List (ByteArray × (Int × Bool)))) : Option (Bool × Unit) := (Go.Proofs.R.Einf Go.Proofs.C27.ctx).call 4 [(.one (.v (.sl (.int .i64)) p0)), (.agg [(.v (.sl (.pair .str (.pair (.int .i64) (.int .i64)))) p1), (.v (.sl (.int .i64)) p2), (.v (.sl (.pair .str (.pair (.int .i64) .bool))) p3)])]
noncomputable def ancepslaw27_CaesuraCola.f (p0 : (List Int)) : Option (Bool × Unit) := (Go.Proofs.R.Einf Go.Proofs.C27.ctx).call 5 [(.one (.v (.sl (.int .i64)) p0))]
noncomputable def ancepslaw27_CaesuraText.f (p0 : (List Int)) (p1 : (List (Int × (Int × (Int × (Int × (List ByteArray))))))) : Option (Bool × Unit) := (Go.Proofs.R.Einf Go.Proofs.C27.ctx).call 6 [(.one (.v (.sl (.int .i64)) p0)), (.one (.v (.sl (.pair (.int .i64) (.pair (.int .i64) (.pair (.int .i64) (.pair (.int .i64) (.sl .str)))))) p1))]
noncomputable def ancepslaw27_awake.f : Option (Bool × Unit) := (Go.Proofs.R.Einf Go.Proofs.C27.ctx).call 11 []
noncomputable def ancepsref26_Few.f (p0 : (List (ByteArray × (Int × Int)))) (p1 : (List Int)) (p2 : (List (ByteArray × (Int × Bool)))) : Option (Bool × Unit) := (Go.Proofs.R.Einf Go.Proofs.C27.ctx).call 18 [(.agg [(.v (.sl (.pair .str (.pair (.int .i64) (.int .i64)))) p0), (.v (.sl (.int .i64)) p1), (.v (.sl (.pair .str (.pair (.int .i64) .bool))) p2)])]
noncomputable def slices_Clone_int_int.f (p0 : (List Int)) : Option ((List Int) × Unit) := (Go.Proofs.R.Einf Go.Proofs.C27.ctx).call 19 [(.one (.v (.sl (.int .i64)) p0))]
noncomputable def caesura_Breaks.f (p0 : (List Int)) (p1 : (List (ByteArray × (Int × Int)))) (p2 : (List Int)) (p3 : (List (ByteArray × (Int × Bool)))) : Option ((List (Int × (Int × (Int × (Int × (List ByteArray)))))) × (Int × Unit)) := (Go.Proofs.R.Einf Go.Proofs.C27.ctx).call 15 [(.one (.v (.sl (.int .i64)) p0)), (.agg [(.v (.sl (.pair .str (.pair (.int .i64) (.int .i64)))) p1), (.v (.sl (.int .i64)) p2), (.v (.sl (.pair .str (.pair (.int .i64) .bool))) p3)])]
noncomputable def ancepsref27_Breaks.f (p0 : (List Int)) (p1 : (List (ByteArray × (Int × Int)))) (p2 : (List Int)) (p3 : (List (ByteArray × (Int × Bool)))) : Option ((List (Int × (Int × (Int × (Int × (List ByteArray)))))) × (Int × Unit)) := (Go.Proofs.R.Einf Go.Proofs.C27.ctx).call 20 [(.one (.v (.sl (.int .i64)) p0)), (.agg [(.v (.sl (.pair .str (.pair (.int .i64) (.int .i64)))) p1), (.v (.sl (.int .i64)) p2), (.v (.sl (.pair .str (.pair (.int .i64) .bool))) p3)])]
noncomputable def ancepsref27_Same.f (p0 : (List (Int × (Int × (Int × (Int × (List ByteArray))))))) (p1 : (List (Int × (Int × (Int × (Int × (List ByteArray))))))) : Option (Bool × Unit) := (Go.Proofs.R.Einf Go.Proofs.C27.ctx).call 21 [(.one (.v (.sl (.pair (.int .i64) (.pair (.int .i64) (.pair (.int .i64) (.pair (.int .i64) (.sl .str)))))) p0)), (.one (.v (.sl (.pair (.int .i64) (.pair (.int .i64) (.pair (.int .i64) (.pair (.int .i64) (.sl .str)))))) p1))]
noncomputable def caesura_Cola.f (p0 : (List Int)) : Option ((List Int) × (Int × Unit)) := (Go.Proofs.R.Einf Go.Proofs.C27.ctx).call 16 [(.one (.v (.sl (.int .i64)) p0))]
noncomputable def ancepsref27_Cola.f (p0 : (List Int)) : Option ((List Int) × (Int × Unit)) := (Go.Proofs.R.Einf Go.Proofs.C27.ctx).call 22 [(.one (.v (.sl (.int .i64)) p0))]
noncomputable def ancepslaw27_CaesuraCola.l7 (p0 : (List Int)) (p1 : Int) (p2 : Int) (p3 : Int) (p4 : Int) (p5 : Int) (p6 : (List Int)) (p7 : (List Int)) : Option (Bool × Unit) := Go.Proofs.R.loopAt Go.Proofs.C27.ctx (Go.Proofs.R.Einf Go.Proofs.C27.ctx) 5 7 (.mk [(0, (.one (.v (.sl (.int .i64)) p0))), (3, (.one (.row 7))), (4, (.one (.v (.int .i64) p1))), (5, (.one (.row 15))), (6, (.one (.v (.int .i64) p2))), (7, (.one (.v (.int .i64) p3))), (29, (.one (.row 7))), (30, (.one (.v (.int .i64) p4))), (31, (.one (.v (.int .i64) p5)))] [(7, (.row 3 (.int .i64) p6 false)), (15, (.row 3 (.int .i64) p7 false))])
noncomputable def api_Break.f (p0 : (List (Int × (Int × (Int × (Int × (List ByteArray))))))) : Option ((List (Int × (Int × (Int × (Int × (List ByteArray)))))) × Unit) := (Go.Proofs.R.Einf Go.Proofs.C27.ctx).call 24 [(.one (.v (.sl (.pair (.int .i64) (.pair (.int .i64) (.pair (.int .i64) (.pair (.int .i64) (.sl .str)))))) p0))]
noncomputable def caesura_Text.f (p0 : (List Int)) (p1 : (List (Int × (Int × (Int × (Int × (List ByteArray))))))) : Option (ByteArray × (Int × Unit)) := (Go.Proofs.R.Einf Go.Proofs.C27.ctx).call 23 [(.one (.v (.sl (.int .i64)) p0)), (.one (.v (.sl (.pair (.int .i64) (.pair (.int .i64) (.pair (.int .i64) (.pair (.int .i64) (.sl .str)))))) p1))]
noncomputable def ancepsref27_Text.f (p0 : (List Int)) (p1 : (List (Int × (Int × (Int × (Int × (List ByteArray))))))) : Option (ByteArray × (Int × Unit)) := (Go.Proofs.R.Einf Go.Proofs.C27.ctx).call 25 [(.one (.v (.sl (.int .i64)) p0)), (.one (.v (.sl (.pair (.int .i64) (.pair (.int .i64) (.pair (.int .i64) (.pair (.int .i64) (.sl .str)))))) p1))]
noncomputable def slices_Equal_int_int.f (p0 : (List Int)) (p1 : (List Int)) : Option (Bool × Unit) := (Go.Proofs.R.Einf Go.Proofs.C27.ctx).call 17 [(.one (.v (.sl (.int .i64)) p0)), (.one (.v (.sl (.int .i64)) p1))]
noncomputable def ancepsref26_Few.l5 (p0 : Int) (p1 : Int) (p2 : (List (ByteArray × (Int × Int)))) (p3 : (List Int)) (p4 : (List (ByteArray × (Int × Bool)))) : Option (Bool × Unit) := Go.Proofs.R.loopAt Go.Proofs.C27.ctx (Go.Proofs.R.Einf Go.Proofs.C27.ctx) 18 5 (.mk [(1, (.one (.ref 7 0))), (3, (.one (.v (.int .i64) p0))), (4, (.one (.v (.int .i64) p1)))] [(7, (.box 43 [(.v (.sl (.pair .str (.pair (.int .i64) (.int .i64)))) p2), (.v (.sl (.int .i64)) p3), (.v (.sl (.pair .str (.pair (.int .i64) .bool))) p4)]))])
noncomputable def caesura_valid.f (p0 : (List Int)) : Option (Int × Unit) := (Go.Proofs.R.Einf Go.Proofs.C27.ctx).call 50 [(.one (.v (.sl (.int .i64)) p0))]
noncomputable def caesura_divide.f (p0 : (List (ByteArray × (Int × Int)))) (p1 : Int) : Option (Bool × Unit) := (Go.Proofs.R.Einf Go.Proofs.C27.ctx).call 51 [(.one (.v (.sl (.pair .str (.pair (.int .i64) (.int .i64)))) p0)), (.one (.v (.int .i64) p1))]
noncomputable def caesura_Breaks.l8 (p0 : (List Int)) (p1 : (List (ByteArray × (Int × Int)))) (p2 : (List Int)) (p3 : (List (ByteArray × (Int × Bool)))) (p4 : (List (Int × (Int × (Int × (Int × (List ByteArray))))))) (p5 : Int) : Option ((List (Int × (Int × (Int × (Int × (List ByteArray)))))) × (Int × Unit)) := Go.Proofs.R.loopAt Go.Proofs.C27.ctx (Go.Proofs.R.Einf Go.Proofs.C27.ctx) 15 8 (.mk [(0, (.one (.v (.sl (.int .i64)) p0))), (3, (.one (.ref 7 0))), (7, (.one (.row 15))), (8, (.one (.ref 23 0)))] [(7, (.box 43 [(.v (.sl (.pair .str (.pair (.int .i64) (.int .i64)))) p1), (.v (.sl (.int .i64)) p2), (.v (.sl (.pair .str (.pair (.int .i64) .bool))) p3)])), (15, (.row 54 (.pair (.int .i64) (.pair (.int .i64) (.pair (.int .i64) (.pair (.int .i64) (.sl .str))))) p4 false)), (23, (.box 3 [(.v (.int .i64) p5)]))])
noncomputable def ancepsref27_letters.f (p0 : (List Int)) : Option (Int × Unit) := (Go.Proofs.R.Einf Go.Proofs.C27.ctx).call 55 [(.one (.v (.sl (.int .i64)) p0))]
noncomputable def ancepsref26_Divide.f (p0 : (List (ByteArray × (Int × Int)))) (p1 : Int) : Option (Bool × Unit) := (Go.Proofs.R.Einf Go.Proofs.C27.ctx).call 56 [(.one (.v (.sl (.pair .str (.pair (.int .i64) (.int .i64)))) p0)), (.one (.v (.int .i64) p1))]
noncomputable def ancepsref27_Breaks.l8 (p0 : (List Int)) (p1 : Int) (p2 : (List (ByteArray × (Int × Int)))) (p3 : (List Int)) (p4 : (List (ByteArray × (Int × Bool)))) (p5 : (List (Int × (Int × (Int × (Int × (List ByteArray))))))) : Option ((List (Int × (Int × (Int × (Int × (List ByteArray)))))) × (Int × Unit)) := Go.Proofs.R.loopAt Go.Proofs.C27.ctx (Go.Proofs.R.Einf Go.Proofs.C27.ctx) 20 8 (.mk [(0, (.one (.v (.sl (.int .i64)) p0))), (3, (.one (.ref 7 0))), (7, (.one (.row 15))), (8, (.one (.v (.int .i64) p1)))] [(7, (.box 43 [(.v (.sl (.pair .str (.pair (.int .i64) (.int .i64)))) p2), (.v (.sl (.int .i64)) p3), (.v (.sl (.pair .str (.pair (.int .i64) .bool))) p4)])), (15, (.row 54 (.pair (.int .i64) (.pair (.int .i64) (.pair (.int .i64) (.pair (.int .i64) (.sl .str))))) p5 false))])
noncomputable def ancepsref27_Same.l4 (p0 : (List (Int × (Int × (Int × (Int × (List ByteArray))))))) (p1 : (List (Int × (Int × (Int × (Int × (List ByteArray))))))) (p2 : Int) : Option (Bool × Unit) := Go.Proofs.R.loopAt Go.Proofs.C27.ctx (Go.Proofs.R.Einf Go.Proofs.C27.ctx) 21 4 (.mk [(0, (.one (.v (.sl (.pair (.int .i64) (.pair (.int .i64) (.pair (.int .i64) (.pair (.int .i64) (.sl .str)))))) p0))), (1, (.one (.v (.sl (.pair (.int .i64) (.pair (.int .i64) (.pair (.int .i64) (.pair (.int .i64) (.sl .str)))))) p1))), (5, (.one (.v (.int .i64) p2)))] [])
noncomputable def caesura_Cola.l7 (p0 : (List Int)) (p1 : Int) (p2 : Int) (p3 : (List Int)) : Option ((List Int) × (Int × Unit)) := Go.Proofs.R.loopAt Go.Proofs.C27.ctx (Go.Proofs.R.Einf Go.Proofs.C27.ctx) 16 7 (.mk [(0, (.one (.v (.sl (.int .i64)) p0))), (5, (.one (.row 7))), (6, (.one (.v (.int .i64) p1))), (7, (.one (.v (.int .i64) p2)))] [(7, (.row 3 (.int .i64) p3 false))])
noncomputable def ancepsref27_Cola.l7 (p0 : (List Int)) (p1 : Int) (p2 : Int) (p3 : (List Int)) : Option ((List Int) × (Int × Unit)) := Go.Proofs.R.loopAt Go.Proofs.C27.ctx (Go.Proofs.R.Einf Go.Proofs.C27.ctx) 22 7 (.mk [(0, (.one (.v (.sl (.int .i64)) p0))), (5, (.one (.row 7))), (6, (.one (.v (.int .i64) p1))), (7, (.one (.v (.int .i64) p2)))] [(7, (.row 3 (.int .i64) p3 false))])
noncomputable def caesura_Text.l6 (p0 : (List Int)) (p1 : (List (Int × (Int × (Int × (Int × (List ByteArray))))))) (p2 : (List (Int × (Int × (Int × (Int × (List ByteArray))))))) (p3 : Int) (p4 : Int) (p5 : (List (Int × ByteArray))) : Option (ByteArray × (Int × Unit)) := Go.Proofs.R.loopAt Go.Proofs.C27.ctx (Go.Proofs.R.Einf Go.Proofs.C27.ctx) 23 6 (.mk [(0, (.one (.v (.sl (.int .i64)) p0))), (1, (.one (.v (.sl (.pair (.int .i64) (.pair (.int .i64) (.pair (.int .i64) (.pair (.int .i64) (.sl .str)))))) p1))), (7, (.one (.mp 7))), (19, (.one (.v (.sl (.pair (.int .i64) (.pair (.int .i64) (.pair (.int .i64) (.pair (.int .i64) (.sl .str)))))) p2))), (20, (.one (.v (.int .i64) p3))), (21, (.one (.v (.int .i64) p4)))] [(7, (.mp 3 9 (.int .i64) .str p5))])
noncomputable def ancepsref27_Text.l5 (p0 : (List Int)) (p1 : (List (Int × (Int × (Int × (Int × (List ByteArray))))))) (p2 : Int) : Option (ByteArray × (Int × Unit)) := Go.Proofs.R.loopAt Go.Proofs.C27.ctx (Go.Proofs.R.Einf Go.Proofs.C27.ctx) 25 5 (.mk [(0, (.one (.v (.sl (.int .i64)) p0))), (1, (.one (.v (.sl (.pair (.int .i64) (.pair (.int .i64) (.pair (.int .i64) (.pair (.int .i64) (.sl .str)))))) p1))), (7, (.one (.v (.int .i64) p2)))] [])
noncomputable def slices_Equal_int_int.l4 (p0 : (List Int)) (p1 : (List Int)) (p2 : Int) (p3 : Int) : Option (Bool × Unit) := Go.Proofs.R.loopAt Go.Proofs.C27.ctx (Go.Proofs.R.Einf Go.Proofs.C27.ctx) 17 4 (.mk [(0, (.one (.v (.sl (.int .i64)) p0))), (1, (.one (.v (.sl (.int .i64)) p1))), (12, (.one (.v (.int .i64) p2))), (13, (.one (.v (.int .i64) p3)))] [])
noncomputable def ancepsref26_Few.l9 (p0 : Int) (p1 : Int) (p2 : (List (ByteArray × (Int × Int)))) (p3 : (List Int)) (p4 : (List (ByteArray × (Int × Bool)))) : Option (Bool × Unit) := Go.Proofs.R.loopAt Go.Proofs.C27.ctx (Go.Proofs.R.Einf Go.Proofs.C27.ctx) 18 9 (.mk [(1, (.one (.ref 7 0))), (3, (.one (.v (.int .i64) p0))), (5, (.one (.v (.int .i64) p1)))] [(7, (.box 43 [(.v (.sl (.pair .str (.pair (.int .i64) (.int .i64)))) p2), (.v (.sl (.int .i64)) p3), (.v (.sl (.pair .str (.pair (.int .i64) .bool))) p4)]))])
noncomputable def slices_ContainsFunc_int_int.f (p0 : (List Int)) : Option (Bool × Unit) := (Go.Proofs.R.Einf Go.Proofs.C27.ctx).call 31 [(.one (.v (.sl (.int .i64)) p0)), (.one (.clo 91 []))]
noncomputable def caesura_divide.l3 (p0 : Int) (p1 : Int) (p2 : (List (ByteArray × (Int × Int)))) (p3 : Int) (p4 : Int) : Option (Bool × Unit) := Go.Proofs.R.loopAt Go.Proofs.C27.ctx (Go.Proofs.R.Einf Go.Proofs.C27.ctx) 51 3 (.mk [(1, (.one (.v (.int .i64) p0))), (5, (.one (.v (.int .i64) p1))), (8, (.one (.v (.sl (.pair .str (.pair (.int .i64) (.int .i64)))) p2))), (9, (.one (.v (.int .i64) p3))), (10, (.one (.v (.int .i64) p4)))] [])
noncomputable def caesura_ends.f (p0 : (List Int)) (p1 : Int) : Option (Bool × Unit) := (Go.Proofs.R.Einf Go.Proofs.C27.ctx).call 52 [(.one (.v (.sl (.int .i64)) p0)), (.one (.v (.int .i64) p1))]
noncomputable def api_Part.f (p0 : (List (ByteArray × (Int × Int)))) (p1 : Int) : Option (Int × Unit) := (Go.Proofs.R.Einf Go.Proofs.C27.ctx).call 53 [(.one (.v (.sl (.pair .str (.pair (.int .i64) (.int .i64)))) p0)), (.one (.clo 54 [(.pref [(.v (.int .i64) p1)] 0)]))]
noncomputable def caesura_Breaks.l16 (p0 : (List Int)) (p1 : (List (ByteArray × (Int × Bool)))) (p2 : Int) (p3 : Int) (p4 : (List (ByteArray × (Int × Int)))) (p5 : (List Int)) (p6 : (List (ByteArray × (Int × Bool)))) (p7 : (List (Int × (Int × (Int × (Int × (List ByteArray))))))) (p8 : Int) (p9 : Int) (p10 : Int) (p11 : Int) (p12 : Int) (p13 : (List ByteArray)) : Option ((List (Int × (Int × (Int × (Int × (List ByteArray)))))) × (Int × Unit)) := Go.Proofs.R.loopAt Go.Proofs.C27.ctx (Go.Proofs.R.Einf Go.Proofs.C27.ctx) 15 16 (.mk [(0, (.one (.v (.sl (.int .i64)) p0))), (3, (.one (.ref 7 0))), (7, (.one (.row 15))), (8, (.one (.ref 23 0))), (10, (.one (.ref 31 0))), (59, (.one (.v (.sl (.pair .str (.pair (.int .i64) .bool))) p1))), (60, (.one (.v (.int .i64) p2))), (61, (.one (.v (.int .i64) p3)))] [(7, (.box 43 [(.v (.sl (.pair .str (.pair (.int .i64) (.int .i64)))) p4), (.v (.sl (.int .i64)) p5), (.v (.sl (.pair .str (.pair (.int .i64) .bool))) p6)])), (15, (.row 54 (.pair (.int .i64) (.pair (.int .i64) (.pair (.int .i64) (.pair (.int .i64) (.sl .str))))) p7 false)), (23, (.box 3 [(.v (.int .i64) p8)])), (31, (.box 54 [(.v (.int .i64) p9), (.v (.int .i64) p10), (.v (.int .i64) p11), (.v (.int .i64) p12), (.row 39)])), (39, (.row 9 .str p13 false))])
noncomputable def ancepsref27_letters.l4 (p0 : (List Int)) (p1 : Int) : Option (Int × Unit) := Go.Proofs.R.loopAt Go.Proofs.C27.ctx (Go.Proofs.R.Einf Go.Proofs.C27.ctx) 55 4 (.mk [(0, (.one (.v (.sl (.int .i64)) p0))), (3, (.one (.v (.int .i64) p1)))] [])
noncomputable def ancepsref26_Divide.l3 (p0 : (List (ByteArray × (Int × Int)))) (p1 : Int) (p2 : Int) (p3 : Int) : Option (Bool × Unit) := Go.Proofs.R.loopAt Go.Proofs.C27.ctx (Go.Proofs.R.Einf Go.Proofs.C27.ctx) 56 3 (.mk [(0, (.one (.v (.sl (.pair .str (.pair (.int .i64) (.int .i64)))) p0))), (1, (.one (.v (.int .i64) p1))), (5, (.one (.v (.int .i64) p2))), (6, (.one (.v (.int .i64) p3)))] [])
noncomputable def ancepsref23_Ends.f (p0 : (List Int)) (p1 : Int) : Option (Bool × Unit) := (Go.Proofs.R.Einf Go.Proofs.C27.ctx).call 57 [(.one (.v (.sl (.int .i64)) p0)), (.one (.v (.int .i64) p1))]
noncomputable def ancepsref27_at.f (p0 : (List (ByteArray × (Int × Int)))) (p1 : (List Int)) (p2 : (List (ByteArray × (Int × Bool)))) (p3 : Int) : Option (Int × (Int × (Int × (Int × ((List ByteArray) × Unit))))) := (Go.Proofs.R.Einf Go.Proofs.C27.ctx).call 58 [(.agg [(.v (.sl (.pair .str (.pair (.int .i64) (.int .i64)))) p0), (.v (.sl (.int .i64)) p1), (.v (.sl (.pair .str (.pair (.int .i64) .bool))) p2)]), (.one (.v (.int .i64) p3))]
noncomputable def ancepsref27_SameBreak.f (p0 : Int) (p1 : Int) (p2 : Int) (p3 : Int) (p4 : (List ByteArray)) (p5 : Int) (p6 : Int) (p7 : Int) (p8 : Int) (p9 : (List ByteArray)) : Option (Bool × Unit) := (Go.Proofs.R.Einf Go.Proofs.C27.ctx).call 40 [(.agg [(.v (.int .i64) p0), (.v (.int .i64) p1), (.v (.int .i64) p2), (.v (.int .i64) p3), (.v (.sl .str) p4)]), (.agg [(.v (.int .i64) p5), (.v (.int .i64) p6), (.v (.int .i64) p7), (.v (.int .i64) p8), (.v (.sl .str) p9)])]
noncomputable def caesura_Text.l20 (p0 : (List Int)) (p1 : Int) (p2 : Int) (p3 : (List (Int × ByteArray))) (p4 : (List Int)) : Option (ByteArray × (Int × Unit)) := Go.Proofs.R.loopAt Go.Proofs.C27.ctx (Go.Proofs.R.Einf Go.Proofs.C27.ctx) 23 20 (.mk [(7, (.one (.mp 7))), (10, (.one (.ref 15 0))), (67, (.one (.v (.sl (.int .i64)) p0))), (68, (.one (.v (.int .i64) p1))), (69, (.one (.v (.int .i64) p2)))] [(7, (.mp 3 9 (.int .i64) .str p3)), (15, (.box 112 [.nilp, (.row 23)])), (23, (.row 5 (.int .u8) p4 false))])
noncomputable def ancepsref27_Text.l15 (p0 : (List Int)) (p1 : (List (Int × (Int × (Int × (Int × (List ByteArray))))))) (p2 : ByteArray) (p3 : Int) : Option (ByteArray × (Int × Unit)) := Go.Proofs.R.loopAt Go.Proofs.C27.ctx (Go.Proofs.R.Einf Go.Proofs.C27.ctx) 25 15 (.mk [(0, (.one (.v (.sl (.int .i64)) p0))), (1, (.one (.v (.sl (.pair (.int .i64) (.pair (.int .i64) (.pair (.int .i64) (.pair (.int .i64) (.sl .str)))))) p1))), (8, (.one (.v .str p2))), (9, (.one (.v (.int .i64) p3)))] [])
noncomputable def slices_IndexFunc_int_int.f (p0 : (List Int)) : Option (Int × Unit) := (Go.Proofs.R.Einf Go.Proofs.C27.ctx).call 69 [(.one (.v (.sl (.int .i64)) p0)), (.one (.clo 91 []))]
noncomputable def api_Part.l2 (p0 : (List (ByteArray × (Int × Int)))) (p1 : Int) (p2 : Int) (p3 : Int) : Option (Int × Unit) := Go.Proofs.R.loopAt Go.Proofs.C27.ctx (Go.Proofs.R.Einf Go.Proofs.C27.ctx) 53 2 (.mk [(0, (.one (.v (.sl (.pair .str (.pair (.int .i64) (.int .i64)))) p0))), (1, (.one (.clo 54 [(.pref [(.v (.int .i64) p1)] 0)]))), (7, (.one (.v (.int .i64) p2))), (8, (.one (.v (.int .i64) p3)))] [])
noncomputable def ancepsref27_at.l3 (p0 : Int) (p1 : Int) (p2 : (List (ByteArray × (Int × Int)))) (p3 : (List Int)) (p4 : (List (ByteArray × (Int × Bool)))) (p5 : Int) (p6 : Int) (p7 : Int) (p8 : Int) (p9 : Int) (p10 : Int) (p11 : Int) (p12 : Int) (p13 : (List ByteArray)) (p14 : (List ByteArray)) : Option (Int × (Int × (Int × (Int × ((List ByteArray) × Unit))))) := Go.Proofs.R.loopAt Go.Proofs.C27.ctx (Go.Proofs.R.Einf Go.Proofs.C27.ctx) 58 3 (.mk [(1, (.one (.v (.int .i64) p0))), (2, (.one (.ref 7 0))), (4, (.one (.ref 15 0))), (5, (.one (.ref 23 0))), (6, (.one (.v (.int .i64) p1)))] [(7, (.box 43 [(.v (.sl (.pair .str (.pair (.int .i64) (.int .i64)))) p2), (.v (.sl (.int .i64)) p3), (.v (.sl (.pair .str (.pair (.int .i64) .bool))) p4)])), (15, (.box 54 [(.v (.int .i64) p5), (.v (.int .i64) p6), (.v (.int .i64) p7), (.v (.int .i64) p8), (.row 31)])), (23, (.box 54 [(.v (.int .i64) p9), (.v (.int .i64) p10), (.v (.int .i64) p11), (.v (.int .i64) p12), (.row 39)])), (31, (.row 9 .str p13 false)), (39, (.row 9 .str p14 false))])
noncomputable def ancepsref22_Strings.f (p0 : (List ByteArray)) (p1 : (List ByteArray)) : Option (Bool × Unit) := (Go.Proofs.R.Einf Go.Proofs.C27.ctx).call 84 [(.one (.v (.sl .str) p0)), (.one (.v (.sl .str) p1))]
noncomputable def caesura_Text.l20_1 (p0 : (List Int)) (p1 : Int) (p2 : Int) (p3 : (List (Int × ByteArray))) (p4 : (List Int)) : Option (ByteArray × (Int × Unit)) := Go.Proofs.R.loopAt Go.Proofs.C27.ctx (Go.Proofs.R.Einf Go.Proofs.C27.ctx) 23 20 (.mk [(7, (.one (.mp 7))), (10, (.one (.ref 15 0))), (67, (.one (.v (.sl (.int .i64)) p0))), (68, (.one (.v (.int .i64) p1))), (69, (.one (.v (.int .i64) p2)))] [(7, (.mp 3 9 (.int .i64) .str p3)), (15, (.box 112 [(.ref 15 0), (.row 23)])), (23, (.row 5 (.int .u8) p4 false))])
noncomputable def ancepsref27_Text.l18 (p0 : (List Int)) (p1 : (List (Int × (Int × (Int × (Int × (List ByteArray))))))) (p2 : ByteArray) (p3 : Int) (p4 : Int) : Option (ByteArray × (Int × Unit)) := Go.Proofs.R.loopAt Go.Proofs.C27.ctx (Go.Proofs.R.Einf Go.Proofs.C27.ctx) 25 18 (.mk [(0, (.one (.v (.sl (.int .i64)) p0))), (1, (.one (.v (.sl (.pair (.int .i64) (.pair (.int .i64) (.pair (.int .i64) (.pair (.int .i64) (.sl .str)))))) p1))), (8, (.one (.v .str p2))), (9, (.one (.v (.int .i64) p3))), (10, (.one (.v (.int .i64) p4)))] [])
noncomputable def slices_IndexFunc_int_int.l2 (p0 : (List Int)) (p1 : Int) (p2 : Int) : Option (Int × Unit) := Go.Proofs.R.loopAt Go.Proofs.C27.ctx (Go.Proofs.R.Einf Go.Proofs.C27.ctx) 69 2 (.mk [(0, (.one (.v (.sl (.int .i64)) p0))), (1, (.one (.clo 91 []))), (7, (.one (.v (.int .i64) p1))), (8, (.one (.v (.int .i64) p2)))] [])
noncomputable def caesura_Breaks_1.f (p0 : ByteArray) (p1 : Int) (p2 : Int) (p3 : Int) : Option (Bool × Unit) := (Go.Proofs.R.Einf Go.Proofs.C27.ctx).call 54 [(.agg [(.v .str p0), (.v (.int .i64) p1), (.v (.int .i64) p2)]), (.one (.pref [(.v (.int .i64) p3)] 0))]
noncomputable def ancepsref27_at.l12 (p0 : Int) (p1 : Int) (p2 : (List (ByteArray × (Int × Int)))) (p3 : (List Int)) (p4 : (List (ByteArray × (Int × Bool)))) (p5 : Int) (p6 : Int) (p7 : Int) (p8 : Int) (p9 : Int) (p10 : Int) (p11 : Int) (p12 : Int) (p13 : (List ByteArray)) (p14 : (List ByteArray)) : Option (Int × (Int × (Int × (Int × ((List ByteArray) × Unit))))) := Go.Proofs.R.loopAt Go.Proofs.C27.ctx (Go.Proofs.R.Einf Go.Proofs.C27.ctx) 58 12 (.mk [(1, (.one (.v (.int .i64) p0))), (2, (.one (.ref 7 0))), (4, (.one (.ref 15 0))), (5, (.one (.ref 23 0))), (8, (.one (.v (.int .i64) p1)))] [(7, (.box 43 [(.v (.sl (.pair .str (.pair (.int .i64) (.int .i64)))) p2), (.v (.sl (.int .i64)) p3), (.v (.sl (.pair .str (.pair (.int .i64) .bool))) p4)])), (15, (.box 54 [(.v (.int .i64) p5), (.v (.int .i64) p6), (.v (.int .i64) p7), (.v (.int .i64) p8), (.row 31)])), (23, (.box 54 [(.v (.int .i64) p9), (.v (.int .i64) p10), (.v (.int .i64) p11), (.v (.int .i64) p12), (.row 39)])), (31, (.row 9 .str p13 false)), (39, (.row 9 .str p14 false))])
noncomputable def ancepsref22_Strings.l4 (p0 : (List ByteArray)) (p1 : (List ByteArray)) (p2 : Int) : Option (Bool × Unit) := Go.Proofs.R.loopAt Go.Proofs.C27.ctx (Go.Proofs.R.Einf Go.Proofs.C27.ctx) 84 4 (.mk [(0, (.one (.v (.sl .str) p0))), (1, (.one (.v (.sl .str) p1))), (5, (.one (.v (.int .i64) p2)))] [])
noncomputable def caesura_valid_1.f (p0 : Int) : Option (Bool × Unit) := (Go.Proofs.R.Einf Go.Proofs.C27.ctx).call 91 [(.one (.v (.int .i64) p0))]

theorem ancepslaw27_CaesuraBreaks.f_eq (p0 : (List Int)) (p1 : (List (ByteArray × (Int × Int)))) (p2 : (List Int)) (p3 : (List (ByteArray × (Int × Bool)))) : ancepslaw27_CaesuraBreaks.f p0 p1 p2 p3 =
  bindD (ancepslaw27_awake.f) fun t0 =>
  ifB (!t0.1)
   (bindD (ancepslaw27_awake.f) fun t1 =>
   some (t1.1, ()))
  (ifB (decide ((((List.length p0) : Nat) : Int) > (60 : Int)))
    (bindD (ancepslaw27_awake.f) fun t2 =>
    some (t2.1, ()))
   (bindD (ancepsref26_Few.f p1 p2 p3) fun t3 =>
    ifB (!t3.1)
     (bindD (ancepslaw27_awake.f) fun t4 =>
     some (t4.1, ()))
    (bindD (slices_Clone_int_int.f p0) fun t5 =>
     bindD (caesura_Breaks.f t5.1 p1 p2 p3) fun t6 =>
     bindD (ancepsref27_Breaks.f p0 p1 p2 p3) fun t7 =>
     ifB (t6.2.1 == t7.2.1)
      (bindD (ancepsref27_Same.f t6.1 t7.1) fun t8 =>
      some (t8.1, ()))
     (some (false, ()))))) := (Einf_call Go.Proofs.C27.ctx 4 _).trans (by kernel_rfl)
theorem ancepslaw27_CaesuraCola.f_eq (p0 : (List Int)) : ancepslaw27_CaesuraCola.f p0 =
  bindD (ancepslaw27_awake.f) fun t9 =>
  ifB (!t9.1)
   (bindD (ancepslaw27_awake.f) fun t10 =>
   some (t10.1, ()))
  (ifB (decide ((((List.length p0) : Nat) : Int) > (60 : Int)))
    (bindD (ancepslaw27_awake.f) fun t11 =>
    some (t11.1, ()))
   (bindD (slices_Clone_int_int.f p0) fun t12 =>
    bindD (caesura_Cola.f t12.1) fun t13 =>
    bindD (ancepsref27_Cola.f p0) fun t14 =>
    ancepslaw27_CaesuraCola.l7 p0 t13.2.1 t14.2.1 (0 : Int) (((List.length t13.1) : Nat) : Int) (0 : Int) t13.1 t14.1)) := (Einf_call Go.Proofs.C27.ctx 5 _).trans (by kernel_rfl)
theorem ancepslaw27_CaesuraText.f_eq (p0 : (List Int)) (p1 : (List (Int × (Int × (Int × (Int × (List ByteArray))))))) : ancepslaw27_CaesuraText.f p0 p1 =
  bindD (ancepslaw27_awake.f) fun t15 =>
  ifB (!t15.1)
   (bindD (ancepslaw27_awake.f) fun t16 =>
   some (t16.1, ()))
  (ifB (decide ((((List.length p0) : Nat) : Int) > (60 : Int)))
    (bindD (ancepslaw27_awake.f) fun t17 =>
    some (t17.1, ()))
   (ifB (decide ((((List.length p1) : Nat) : Int) > (60 : Int)))
     (bindD (ancepslaw27_awake.f) fun t18 =>
     some (t18.1, ()))
    (bindD (slices_Clone_int_int.f p0) fun t19 =>
     bindD (api_Break.f p1) fun t20 =>
     bindD (caesura_Text.f t19.1 t20.1) fun t21 =>
     bindD (ancepsref27_Text.f p0 p1) fun t22 =>
     ifB ((ByteArray.toList t21.1) == (ByteArray.toList t22.1))
      (some ((t21.2.1 == t22.2.1), ()))
     (some (false, ()))))) := (Einf_call Go.Proofs.C27.ctx 6 _).trans (by kernel_rfl)
theorem ancepslaw27_awake.f_eq : ancepslaw27_awake.f =
  bindD (caesura_Breaks.f ((1 : Int) :: ((0 : Int) :: ((2 : Int) :: ((1 : Int) :: ((3 : Int) :: ((1 : Int) :: ([] : (List Int)))))))) (((ByteArray.mk (List.toArray ((100 : UInt8) :: ([] : (List UInt8))))), ((0 : Int), (3 : Int))) :: (((ByteArray.mk (List.toArray ((115 : UInt8) :: ([] : (List UInt8))))), ((3 : Int), (5 : Int))) :: (((ByteArray.mk (List.toArray ([] : (List UInt8)))), ((5 : Int), (6 : Int))) :: ([] : (List (ByteArray × (Int × Int))))))) ([] : (List Int)) ([] : (List (ByteArray × (Int × Bool))))) fun t23 =>
  bindD (caesura_Cola.f ((1 : Int) :: ((0 : Int) :: ((2 : Int) :: ((1 : Int) :: ((3 : Int) :: ((1 : Int) :: ([] : (List Int))))))))) fun t24 =>
  bindD (caesura_Text.f ((1 : Int) :: ((0 : Int) :: ((2 : Int) :: ((1 : Int) :: ((3 : Int) :: ((1 : Int) :: ([] : (List Int)))))))) t23.1) fun t25 =>
  ifB (t23.2.1 == (0 : Int))
   (ifB ((((List.length t23.1) : Nat) : Int) == (2 : Int))
    (bindD ((ixAt t23.1 (0 : Int))) fun t26 =>
    bindD ((ixAt t23.1 (0 : Int))) fun t27 =>
    ifB (t27.1 == (3 : Int))
     (bindD ((ixAt t23.1 (0 : Int))) fun t28 =>
     bindD ((ixAt t23.1 (0 : Int))) fun t29 =>
     ifB (t29.2.2.2.1 == (2 : Int))
      (bindD ((ixAt t23.1 (1 : Int))) fun t30 =>
      bindD ((ixAt t23.1 (1 : Int))) fun t31 =>
      ifB (t31.2.1 == (1 : Int))
       (ifB (t24.2.1 == (0 : Int))
        (bindD (slices_Equal_int_int.f t24.1 ((3 : Int) :: ((2 : Int) :: ((1 : Int) :: ([] : (List Int)))))) fun t32 =>
        ifB t32.1
         (ifB (t25.2.1 == (0 : Int))
          (some (((ByteArray.toList t25.1) == (ByteArray.toList (ByteArray.mk (List.toArray ((45 : UInt8) :: ((117 : UInt8) :: ((117 : UInt8) :: ((58 : UInt8) :: ((45 : UInt8) :: ((45 : UInt8) :: ((58 : UInt8) :: ((45 : UInt8) :: ([] : (List UInt8)))))))))))))), ()))
         (some (false, ())))
        (some (false, ())))
       (some (false, ())))
      (some (false, ())))
     (some (false, ())))
    (some (false, ())))
   (some (false, ())))
  (some (false, ())) := (Einf_call Go.Proofs.C27.ctx 11 _).trans (by kernel_rfl)
theorem ancepsref26_Few.f_eq (p0 : (List (ByteArray × (Int × Int)))) (p1 : (List Int)) (p2 : (List (ByteArray × (Int × Bool)))) : ancepsref26_Few.f p0 p1 p2 =
  ifB (decide ((((List.length p0) : Nat) : Int) > (60 : Int)))
   (some (false, ()))
  (ifB (decide ((((List.length p1) : Nat) : Int) > (10 : Int)))
    (some (false, ()))
   (ifB (decide ((((List.length p2) : Nat) : Int) > (60 : Int)))
     (some (false, ()))
    (ancepsref26_Few.l5 (0 : Int) (0 : Int) p0 p1 p2))) := (Einf_call Go.Proofs.C27.ctx 18 _).trans (by kernel_rfl)
theorem slices_Clone_int_int.f_eq (p0 : (List Int)) : slices_Clone_int_int.f p0 =
  bindD ((Go.Proofs.R.grow (List.length p0))) fun t33 =>
  some (p0, ()) := (Einf_call Go.Proofs.C27.ctx 19 _).trans (by kernel_rfl)
theorem caesura_Breaks.f_eq (p0 : (List Int)) (p1 : (List (ByteArray × (Int × Int)))) (p2 : (List Int)) (p3 : (List (ByteArray × (Int × Bool)))) : caesura_Breaks.f p0 p1 p2 p3 =
  bindD (caesura_valid.f p0) fun t34 =>
  ifB (t34.1 != (0 : Int))
   (some (([] : (List (Int × (Int × (Int × (Int × (List ByteArray))))))), (t34.1, ())))
  (bindD (caesura_divide.f p1 (((List.length p0) : Nat) : Int)) fun t35 =>
   ifB (!t35.1)
    (some (([] : (List (Int × (Int × (Int × (Int × (List ByteArray))))))), ((1 : Int), ())))
   (caesura_Breaks.l8 p0 p1 p2 p3 ([] : (List (Int × (Int × (Int × (Int × (List ByteArray))))))) (1 : Int))) := (Einf_call Go.Proofs.C27.ctx 15 _).trans (by kernel_rfl)
theorem ancepsref27_Breaks.f_eq (p0 : (List Int)) (p1 : (List (ByteArray × (Int × Int)))) (p2 : (List Int)) (p3 : (List (ByteArray × (Int × Bool)))) : ancepsref27_Breaks.f p0 p1 p2 p3 =
  bindD (ancepsref27_letters.f p0) fun t36 =>
  ifB (t36.1 != (0 : Int))
   (some (([] : (List (Int × (Int × (Int × (Int × (List ByteArray))))))), (t36.1, ())))
  (bindD (ancepsref26_Divide.f p1 (((List.length p0) : Nat) : Int)) fun t37 =>
   ifB (!t37.1)
    (some (([] : (List (Int × (Int × (Int × (Int × (List ByteArray))))))), ((1 : Int), ())))
   (ancepsref27_Breaks.l8 p0 (1 : Int) p1 p2 p3 ([] : (List (Int × (Int × (Int × (Int × (List ByteArray))))))))) := (Einf_call Go.Proofs.C27.ctx 20 _).trans (by kernel_rfl)
theorem ancepsref27_Same.f_eq (p0 : (List (Int × (Int × (Int × (Int × (List ByteArray))))))) (p1 : (List (Int × (Int × (Int × (Int × (List ByteArray))))))) : ancepsref27_Same.f p0 p1 =
  ifB ((((List.length p0) : Nat) : Int) != (((List.length p1) : Nat) : Int))
   (some (false, ()))
  (ancepsref27_Same.l4 p0 p1 (0 : Int)) := (Einf_call Go.Proofs.C27.ctx 21 _).trans (by kernel_rfl)
theorem caesura_Cola.f_eq (p0 : (List Int)) : caesura_Cola.f p0 =
  bindD (caesura_valid.f p0) fun t38 =>
  ifB (t38.1 != (0 : Int))
   (some (([] : (List Int)), (t38.1, ())))
  (caesura_Cola.l7 p0 (0 : Int) (1 : Int) ([] : (List Int))) := (Einf_call Go.Proofs.C27.ctx 16 _).trans (by kernel_rfl)
theorem ancepsref27_Cola.f_eq (p0 : (List Int)) : ancepsref27_Cola.f p0 =
  bindD (ancepsref27_letters.f p0) fun t39 =>
  ifB (t39.1 != (0 : Int))
   (some (([] : (List Int)), (t39.1, ())))
  (ancepsref27_Cola.l7 p0 (0 : Int) (1 : Int) ([] : (List Int))) := (Einf_call Go.Proofs.C27.ctx 22 _).trans (by kernel_rfl)
theorem ancepslaw27_CaesuraCola.l7_eq (p0 : (List Int)) (p1 : Int) (p2 : Int) (p3 : Int) (p4 : Int) (p5 : Int) (p6 : (List Int)) (p7 : (List Int)) : ancepslaw27_CaesuraCola.l7 p0 p1 p2 p3 p4 p5 p6 p7 =
  ifB (decide (p5 < p4))
   (bindD ((ixAt p6 p5)) fun t40 =>
   bindD ((ixAt p6 p5)) fun t41 =>
   ifB (decide (t41 < (1 : Int)))
    (some (false, ()))
   (ancepslaw27_CaesuraCola.l7 p0 p1 p2 (Go.IntKind.wrap Go.IntKind.i64 (p3 + t41)) p4 (Go.IntKind.wrap Go.IntKind.i64 (p5 + (1 : Int))) p6 p7))
  (ifB (p1 == p2)
    (bindD (slices_Equal_int_int.f p6 p7) fun t42 =>
    ifB t42.1
     (ifB (p1 != (0 : Int))
      (some (true, ()))
     (some ((p3 == (((List.length p0) : Nat) : Int)), ())))
    (some (false, ())))
   (some (false, ()))) := (loopAt_step Go.Proofs.C27.ctx 5 7 _).trans (by kernel_rfl)
theorem api_Break.f_eq (p0 : (List (Int × (Int × (Int × (Int × (List ByteArray))))))) : api_Break.f p0 =
  bindD ((Go.Proofs.R.grow (List.length p0))) fun t43 =>
  some (p0, ()) := (Einf_call Go.Proofs.C27.ctx 24 _).trans (by kernel_rfl)
theorem caesura_Text.f_eq (p0 : (List Int)) (p1 : (List (Int × (Int × (Int × (Int × (List ByteArray))))))) : caesura_Text.f p0 p1 =
  bindD (caesura_valid.f p0) fun t44 =>
  ifB (t44.1 != (0 : Int))
   (some ((ByteArray.mk (List.toArray ([] : (List UInt8)))), (t44.1, ())))
  (caesura_Text.l6 p0 p1 p1 (((List.length p1) : Nat) : Int) (0 : Int) ([] : (List (Int × ByteArray)))) := (Einf_call Go.Proofs.C27.ctx 23 _).trans (by kernel_rfl)
theorem ancepsref27_Text.f_eq (p0 : (List Int)) (p1 : (List (Int × (Int × (Int × (Int × (List ByteArray))))))) : ancepsref27_Text.f p0 p1 =
  bindD (ancepsref27_letters.f p0) fun t45 =>
  ifB (t45.1 != (0 : Int))
   (some ((ByteArray.mk (List.toArray ([] : (List UInt8)))), (t45.1, ())))
  (ancepsref27_Text.l5 p0 p1 (0 : Int)) := (Einf_call Go.Proofs.C27.ctx 25 _).trans (by kernel_rfl)
theorem slices_Equal_int_int.f_eq (p0 : (List Int)) (p1 : (List Int)) : slices_Equal_int_int.f p0 p1 =
  ifB ((((List.length p0) : Nat) : Int) != (((List.length p1) : Nat) : Int))
   (some (false, ()))
  (slices_Equal_int_int.l4 p0 p1 (((List.length p0) : Nat) : Int) (0 : Int)) := (Einf_call Go.Proofs.C27.ctx 17 _).trans (by kernel_rfl)
theorem ancepsref26_Few.l5_eq (p0 : Int) (p1 : Int) (p2 : (List (ByteArray × (Int × Int)))) (p3 : (List Int)) (p4 : (List (ByteArray × (Int × Bool)))) : ancepsref26_Few.l5 p0 p1 p2 p3 p4 =
  ifB (decide (p1 < (((List.length p2) : Nat) : Int)))
   (bindD ((ixAt p2 p1)) fun t46 =>
   ancepsref26_Few.l5 (Go.IntKind.wrap Go.IntKind.i64 (p0 + (((ByteArray.size t46.1) : Nat) : Int))) (Go.IntKind.wrap Go.IntKind.i64 (p1 + (1 : Int))) p2 p3 p4)
  (ancepsref26_Few.l9 p0 (0 : Int) p2 p3 p4) := (loopAt_step Go.Proofs.C27.ctx 18 5 _).trans (by kernel_rfl)
theorem caesura_valid.f_eq (p0 : (List Int)) : caesura_valid.f p0 =
  ifB (decide ((((List.length p0) : Nat) : Int) > (40 : Int)))
   (some ((3 : Int), ()))
  (bindD (slices_ContainsFunc_int_int.f p0) fun t47 =>
   ifB t47.1
    (some ((6 : Int), ()))
   (some ((0 : Int), ()))) := (Einf_call Go.Proofs.C27.ctx 50 _).trans (by kernel_rfl)
theorem caesura_divide.f_eq (p0 : (List (ByteArray × (Int × Int)))) (p1 : Int) : caesura_divide.f p0 p1 =
  caesura_divide.l3 p1 (0 : Int) p0 (((List.length p0) : Nat) : Int) (0 : Int) := (Einf_call Go.Proofs.C27.ctx 51 _).trans (by kernel_rfl)
theorem caesura_Breaks.l8_eq (p0 : (List Int)) (p1 : (List (ByteArray × (Int × Int)))) (p2 : (List Int)) (p3 : (List (ByteArray × (Int × Bool)))) (p4 : (List (Int × (Int × (Int × (Int × (List ByteArray))))))) (p5 : Int) : caesura_Breaks.l8 p0 p1 p2 p3 p4 p5 =
  ifB (decide (p5 < (((List.length p0) : Nat) : Int)))
   (bindD (caesura_ends.f p0 p5) fun t48 =>
   ifB (!t48.1)
    (caesura_Breaks.l8 p0 p1 p2 p3 p4 (Go.IntKind.wrap Go.IntKind.i64 (p5 + (1 : Int))))
   (bindD (api_Part.f p1 p5) fun t49 =>
    bindD ((ixAt p1 t49.1)) fun t50 =>
    bindD ((ixAt p1 t49.1)) fun t51 =>
    ifB (t51.2.2 == p5)
     (caesura_Breaks.l16 p0 p3 (((List.length p3) : Nat) : Int) (0 : Int) p1 p2 p3 p4 p5 p5 t49.1 (Go.IntKind.wrap Go.IntKind.i64 (p5 - t50.2.1)) (2 : Int) ([] : (List ByteArray)))
    (caesura_Breaks.l16 p0 p3 (((List.length p3) : Nat) : Int) (0 : Int) p1 p2 p3 p4 p5 p5 t49.1 (Go.IntKind.wrap Go.IntKind.i64 (p5 - t50.2.1)) (1 : Int) ([] : (List ByteArray)))))
  (some (p4, ((0 : Int), ()))) := (loopAt_step Go.Proofs.C27.ctx 15 8 _).trans (by kernel_rfl)
theorem ancepsref27_letters.f_eq (p0 : (List Int)) : ancepsref27_letters.f p0 =
  ifB (decide ((((List.length p0) : Nat) : Int) > (40 : Int)))
   (some ((3 : Int), ()))
  (ancepsref27_letters.l4 p0 (0 : Int)) := (Einf_call Go.Proofs.C27.ctx 55 _).trans (by kernel_rfl)
theorem ancepsref26_Divide.f_eq (p0 : (List (ByteArray × (Int × Int)))) (p1 : Int) : ancepsref26_Divide.f p0 p1 =
  ancepsref26_Divide.l3 p0 p1 (0 : Int) (0 : Int) := (Einf_call Go.Proofs.C27.ctx 56 _).trans (by kernel_rfl)
theorem ancepsref27_Breaks.l8_eq (p0 : (List Int)) (p1 : Int) (p2 : (List (ByteArray × (Int × Int)))) (p3 : (List Int)) (p4 : (List (ByteArray × (Int × Bool)))) (p5 : (List (Int × (Int × (Int × (Int × (List ByteArray))))))) : ancepsref27_Breaks.l8 p0 p1 p2 p3 p4 p5 =
  ifB (decide (p1 < (((List.length p0) : Nat) : Int)))
   (bindD (ancepsref23_Ends.f p0 p1) fun t52 =>
   ifB t52.1
    (bindD (ancepsref27_at.f p2 p3 p4 p1) fun t53 =>
    bindD ((Go.Proofs.R.grow ((List.length p5) + (List.length ((t53.1, (t53.2.1, (t53.2.2.1, (t53.2.2.2.1, t53.2.2.2.2.1)))) :: ([] : (List (Int × (Int × (Int × (Int × (List ByteArray)))))))))))) fun t54 =>
    ancepsref27_Breaks.l8 p0 (Go.IntKind.wrap Go.IntKind.i64 (p1 + (1 : Int))) p2 p3 p4 (p5 ++ ((t53.1, (t53.2.1, (t53.2.2.1, (t53.2.2.2.1, t53.2.2.2.2.1)))) :: ([] : (List (Int × (Int × (Int × (Int × (List ByteArray))))))))))
   (ancepsref27_Breaks.l8 p0 (Go.IntKind.wrap Go.IntKind.i64 (p1 + (1 : Int))) p2 p3 p4 p5))
  (some (p5, ((0 : Int), ()))) := (loopAt_step Go.Proofs.C27.ctx 20 8 _).trans (by kernel_rfl)
theorem ancepsref27_Same.l4_eq (p0 : (List (Int × (Int × (Int × (Int × (List ByteArray))))))) (p1 : (List (Int × (Int × (Int × (Int × (List ByteArray))))))) (p2 : Int) : ancepsref27_Same.l4 p0 p1 p2 =
  ifB (decide (p2 < (((List.length p0) : Nat) : Int)))
   (bindD ((ixAt p0 p2)) fun t55 =>
   bindD ((ixAt p1 p2)) fun t56 =>
   bindD (ancepsref27_SameBreak.f t55.1 t55.2.1 t55.2.2.1 t55.2.2.2.1 t55.2.2.2.2 t56.1 t56.2.1 t56.2.2.1 t56.2.2.2.1 t56.2.2.2.2) fun t57 =>
   ifB (!t57.1)
    (some (false, ()))
   (ancepsref27_Same.l4 p0 p1 (Go.IntKind.wrap Go.IntKind.i64 (p2 + (1 : Int)))))
  (some (true, ())) := (loopAt_step Go.Proofs.C27.ctx 21 4 _).trans (by kernel_rfl)
theorem caesura_Cola.l7_eq (p0 : (List Int)) (p1 : Int) (p2 : Int) (p3 : (List Int)) : caesura_Cola.l7 p0 p1 p2 p3 =
  ifB (decide (p2 ≤ (((List.length p0) : Nat) : Int)))
   (bindD (caesura_ends.f p0 p2) fun t58 =>
   ifB t58.1
    (bindD ((Go.Proofs.R.grow ((List.length p3) + (List.length ((Go.IntKind.wrap Go.IntKind.i64 (p2 - p1)) :: ([] : (List Int))))))) fun t59 =>
    caesura_Cola.l7 p0 p2 (Go.IntKind.wrap Go.IntKind.i64 (p2 + (1 : Int))) (p3 ++ ((Go.IntKind.wrap Go.IntKind.i64 (p2 - p1)) :: ([] : (List Int)))))
   (ifB (p2 == (((List.length p0) : Nat) : Int))
     (bindD ((Go.Proofs.R.grow ((List.length p3) + (List.length ((Go.IntKind.wrap Go.IntKind.i64 (p2 - p1)) :: ([] : (List Int))))))) fun t60 =>
     caesura_Cola.l7 p0 p2 (Go.IntKind.wrap Go.IntKind.i64 (p2 + (1 : Int))) (p3 ++ ((Go.IntKind.wrap Go.IntKind.i64 (p2 - p1)) :: ([] : (List Int)))))
    (caesura_Cola.l7 p0 p1 (Go.IntKind.wrap Go.IntKind.i64 (p2 + (1 : Int))) p3)))
  (some (p3, ((0 : Int), ()))) := (loopAt_step Go.Proofs.C27.ctx 16 7 _).trans (by kernel_rfl)
theorem ancepsref27_Cola.l7_eq (p0 : (List Int)) (p1 : Int) (p2 : Int) (p3 : (List Int)) : ancepsref27_Cola.l7 p0 p1 p2 p3 =
  ifB (decide (p2 ≤ (((List.length p0) : Nat) : Int)))
   (ifB (p2 == (((List.length p0) : Nat) : Int))
    (bindD ((Go.Proofs.R.grow ((List.length p3) + (List.length ((Go.IntKind.wrap Go.IntKind.i64 (p2 - p1)) :: ([] : (List Int))))))) fun t61 =>
    ancepsref27_Cola.l7 p0 p2 (Go.IntKind.wrap Go.IntKind.i64 (p2 + (1 : Int))) (p3 ++ ((Go.IntKind.wrap Go.IntKind.i64 (p2 - p1)) :: ([] : (List Int)))))
   (bindD (ancepsref23_Ends.f p0 p2) fun t62 =>
    ifB t62.1
     (bindD ((Go.Proofs.R.grow ((List.length p3) + (List.length ((Go.IntKind.wrap Go.IntKind.i64 (p2 - p1)) :: ([] : (List Int))))))) fun t63 =>
     ancepsref27_Cola.l7 p0 p2 (Go.IntKind.wrap Go.IntKind.i64 (p2 + (1 : Int))) (p3 ++ ((Go.IntKind.wrap Go.IntKind.i64 (p2 - p1)) :: ([] : (List Int)))))
    (ancepsref27_Cola.l7 p0 p1 (Go.IntKind.wrap Go.IntKind.i64 (p2 + (1 : Int))) p3)))
  (some (p3, ((0 : Int), ()))) := (loopAt_step Go.Proofs.C27.ctx 22 7 _).trans (by kernel_rfl)
theorem caesura_Text.l6_eq (p0 : (List Int)) (p1 : (List (Int × (Int × (Int × (Int × (List ByteArray))))))) (p2 : (List (Int × (Int × (Int × (Int × (List ByteArray))))))) (p3 : Int) (p4 : Int) (p5 : (List (Int × ByteArray))) : caesura_Text.l6 p0 p1 p2 p3 p4 p5 =
  ifB (decide (p4 < p3))
   (bindD ((ixAt p2 p4)) fun t64 =>
   ifB (decide (t64.1 < (1 : Int)))
    (some ((ByteArray.mk (List.toArray ([] : (List UInt8)))), ((6 : Int), ())))
   (ifB (decide (t64.1 ≥ (((List.length p0) : Nat) : Int)))
     (some ((ByteArray.mk (List.toArray ([] : (List UInt8)))), ((6 : Int), ())))
    (ifB (decide (p4 > (0 : Int)))
      (bindD ((ixAt p1 (Go.IntKind.wrap Go.IntKind.i64 (p4 - (1 : Int))))) fun t65 =>
      ifB (decide (t65.1 ≥ t64.1))
       (some ((ByteArray.mk (List.toArray ([] : (List UInt8)))), ((18 : Int), ())))
      (ifB (t64.2.2.2.1 == (1 : Int))
        (caesura_Text.l6 p0 p1 p2 p3 (Go.IntKind.wrap Go.IntKind.i64 (p4 + (1 : Int))) (Go.Proofs.R.mput (Go.Proofs.R.Ty.int Go.IntKind.i64) t64.1 (ByteArray.mk (List.toArray ((124 : UInt8) :: ([] : (List UInt8))))) p5))
       (ifB (t64.2.2.2.1 == (2 : Int))
         (caesura_Text.l6 p0 p1 p2 p3 (Go.IntKind.wrap Go.IntKind.i64 (p4 + (1 : Int))) (Go.Proofs.R.mput (Go.Proofs.R.Ty.int Go.IntKind.i64) t64.1 (ByteArray.mk (List.toArray ((58 : UInt8) :: ([] : (List UInt8))))) p5))
        (some ((ByteArray.mk (List.toArray ([] : (List UInt8)))), ((1 : Int), ()))))))
     (ifB (t64.2.2.2.1 == (1 : Int))
       (caesura_Text.l6 p0 p1 p2 p3 (Go.IntKind.wrap Go.IntKind.i64 (p4 + (1 : Int))) (Go.Proofs.R.mput (Go.Proofs.R.Ty.int Go.IntKind.i64) t64.1 (ByteArray.mk (List.toArray ((124 : UInt8) :: ([] : (List UInt8))))) p5))
      (ifB (t64.2.2.2.1 == (2 : Int))
        (caesura_Text.l6 p0 p1 p2 p3 (Go.IntKind.wrap Go.IntKind.i64 (p4 + (1 : Int))) (Go.Proofs.R.mput (Go.Proofs.R.Ty.int Go.IntKind.i64) t64.1 (ByteArray.mk (List.toArray ((58 : UInt8) :: ([] : (List UInt8))))) p5))
       (some ((ByteArray.mk (List.toArray ([] : (List UInt8)))), ((1 : Int), ()))))))))
  (caesura_Text.l20 p0 (((List.length p0) : Nat) : Int) (0 : Int) p5 ([] : (List Int))) := (loopAt_step Go.Proofs.C27.ctx 23 6 _).trans (by kernel_rfl)
theorem ancepsref27_Text.l5_eq (p0 : (List Int)) (p1 : (List (Int × (Int × (Int × (Int × (List ByteArray))))))) (p2 : Int) : ancepsref27_Text.l5 p0 p1 p2 =
  ifB (decide (p2 < (((List.length p1) : Nat) : Int)))
   (bindD ((ixAt p1 p2)) fun t66 =>
   ifB (decide (t66.1 < (1 : Int)))
    (some ((ByteArray.mk (List.toArray ([] : (List UInt8)))), ((6 : Int), ())))
   (bindD ((ixAt p1 p2)) fun t67 =>
    ifB (decide (t67.1 ≥ (((List.length p0) : Nat) : Int)))
     (some ((ByteArray.mk (List.toArray ([] : (List UInt8)))), ((6 : Int), ())))
    (ifB (decide (p2 > (0 : Int)))
      (bindD ((ixAt p1 p2)) fun t68 =>
      bindD ((ixAt p1 (Go.IntKind.wrap Go.IntKind.i64 (p2 - (1 : Int))))) fun t69 =>
      ifB (decide (t68.1 ≤ t69.1))
       (some ((ByteArray.mk (List.toArray ([] : (List UInt8)))), ((18 : Int), ())))
      (bindD ((ixAt p1 p2)) fun t70 =>
       ifB (t70.2.2.2.1 != (1 : Int))
        (bindD ((ixAt p1 p2)) fun t71 =>
        ifB (t71.2.2.2.1 != (2 : Int))
         (some ((ByteArray.mk (List.toArray ([] : (List UInt8)))), ((1 : Int), ())))
        (ancepsref27_Text.l5 p0 p1 (Go.IntKind.wrap Go.IntKind.i64 (p2 + (1 : Int)))))
       (ancepsref27_Text.l5 p0 p1 (Go.IntKind.wrap Go.IntKind.i64 (p2 + (1 : Int))))))
     (bindD ((ixAt p1 p2)) fun t72 =>
      ifB (t72.2.2.2.1 != (1 : Int))
       (bindD ((ixAt p1 p2)) fun t73 =>
       ifB (t73.2.2.2.1 != (2 : Int))
        (some ((ByteArray.mk (List.toArray ([] : (List UInt8)))), ((1 : Int), ())))
       (ancepsref27_Text.l5 p0 p1 (Go.IntKind.wrap Go.IntKind.i64 (p2 + (1 : Int)))))
      (ancepsref27_Text.l5 p0 p1 (Go.IntKind.wrap Go.IntKind.i64 (p2 + (1 : Int))))))))
  (ancepsref27_Text.l15 p0 p1 (ByteArray.mk (List.toArray ([] : (List UInt8)))) (0 : Int)) := (loopAt_step Go.Proofs.C27.ctx 25 5 _).trans (by kernel_rfl)
theorem slices_Equal_int_int.l4_eq (p0 : (List Int)) (p1 : (List Int)) (p2 : Int) (p3 : Int) : slices_Equal_int_int.l4 p0 p1 p2 p3 =
  ifB (decide (p3 < p2))
   (bindD ((ixAt p0 p3)) fun t74 =>
   bindD ((ixAt p1 p3)) fun t75 =>
   ifB (t74 != t75)
    (some (false, ()))
   (slices_Equal_int_int.l4 p0 p1 p2 (Go.IntKind.wrap Go.IntKind.i64 (p3 + (1 : Int)))))
  (some (true, ())) := (loopAt_step Go.Proofs.C27.ctx 17 4 _).trans (by kernel_rfl)
theorem ancepsref26_Few.l9_eq (p0 : Int) (p1 : Int) (p2 : (List (ByteArray × (Int × Int)))) (p3 : (List Int)) (p4 : (List (ByteArray × (Int × Bool)))) : ancepsref26_Few.l9 p0 p1 p2 p3 p4 =
  ifB (decide (p1 < (((List.length p4) : Nat) : Int)))
   (bindD ((ixAt p4 p1)) fun t76 =>
   ancepsref26_Few.l9 (Go.IntKind.wrap Go.IntKind.i64 (p0 + (((ByteArray.size t76.1) : Nat) : Int))) (Go.IntKind.wrap Go.IntKind.i64 (p1 + (1 : Int))) p2 p3 p4)
  (some ((decide (p0 ≤ (2000 : Int))), ())) := (loopAt_step Go.Proofs.C27.ctx 18 9 _).trans (by kernel_rfl)
theorem slices_ContainsFunc_int_int.f_eq (p0 : (List Int)) : slices_ContainsFunc_int_int.f p0 =
  bindD (slices_IndexFunc_int_int.f p0) fun t77 =>
  some ((decide (t77.1 ≥ (0 : Int))), ()) := (Einf_call Go.Proofs.C27.ctx 31 _).trans (by kernel_rfl)
theorem caesura_divide.l3_eq (p0 : Int) (p1 : Int) (p2 : (List (ByteArray × (Int × Int)))) (p3 : Int) (p4 : Int) : caesura_divide.l3 p0 p1 p2 p3 p4 =
  ifB (decide (p4 < p3))
   (bindD ((ixAt p2 p4)) fun t78 =>
   ifB (t78.2.1 != p1)
    (some (false, ()))
   (ifB (decide (t78.2.2 < t78.2.1))
     (some (false, ()))
    (caesura_divide.l3 p0 t78.2.2 p2 p3 (Go.IntKind.wrap Go.IntKind.i64 (p4 + (1 : Int))))))
  (some ((p1 == p0), ())) := (loopAt_step Go.Proofs.C27.ctx 51 3 _).trans (by kernel_rfl)
theorem caesura_ends.f_eq (p0 : (List Int)) (p1 : Int) : caesura_ends.f p0 p1 =
  bindD ((ixAt p0 (Go.IntKind.wrap Go.IntKind.i64 (p1 - (1 : Int))))) fun t79 =>
  some ((decide (t79 ≥ (2 : Int))), ()) := (Einf_call Go.Proofs.C27.ctx 52 _).trans (by kernel_rfl)
theorem api_Part.f_eq (p0 : (List (ByteArray × (Int × Int)))) (p1 : Int) : api_Part.f p0 p1 =
  api_Part.l2 p0 p1 (((List.length p0) : Nat) : Int) (0 : Int) := (Einf_call Go.Proofs.C27.ctx 53 _).trans (by kernel_rfl)
theorem caesura_Breaks.l16_eq (p0 : (List Int)) (p1 : (List (ByteArray × (Int × Bool)))) (p2 : Int) (p3 : Int) (p4 : (List (ByteArray × (Int × Int)))) (p5 : (List Int)) (p6 : (List (ByteArray × (Int × Bool)))) (p7 : (List (Int × (Int × (Int × (Int × (List ByteArray))))))) (p8 : Int) (p9 : Int) (p10 : Int) (p11 : Int) (p12 : Int) (p13 : (List ByteArray)) : caesura_Breaks.l16 p0 p1 p2 p3 p4 p5 p6 p7 p8 p9 p10 p11 p12 p13 =
  ifB (decide (p3 < p2))
   (bindD ((ixAt p1 p3)) fun t80 =>
   ifB (t80.2.1 == p8)
    (bindD ((Go.Proofs.R.grow ((List.length p13) + (List.length (t80.1 :: ([] : (List ByteArray))))))) fun t81 =>
    caesura_Breaks.l16 p0 p1 p2 (Go.IntKind.wrap Go.IntKind.i64 (p3 + (1 : Int))) p4 p5 p6 p7 p8 p9 p10 p11 p12 (p13 ++ (t80.1 :: ([] : (List ByteArray)))))
   (caesura_Breaks.l16 p0 p1 p2 (Go.IntKind.wrap Go.IntKind.i64 (p3 + (1 : Int))) p4 p5 p6 p7 p8 p9 p10 p11 p12 p13))
  (bindD ((Go.Proofs.R.grow ((List.length p7) + (List.length ((p9, (p10, (p11, (p12, p13)))) :: ([] : (List (Int × (Int × (Int × (Int × (List ByteArray)))))))))))) fun t82 =>
   caesura_Breaks.l8 p0 p4 p5 p6 (p7 ++ ((p9, (p10, (p11, (p12, p13)))) :: ([] : (List (Int × (Int × (Int × (Int × (List ByteArray))))))))) (Go.IntKind.wrap Go.IntKind.i64 (p8 + (1 : Int)))) := (loopAt_step Go.Proofs.C27.ctx 15 16 _).trans (by kernel_rfl)
theorem ancepsref27_letters.l4_eq (p0 : (List Int)) (p1 : Int) : ancepsref27_letters.l4 p0 p1 =
  ifB (decide (p1 < (((List.length p0) : Nat) : Int)))
   (bindD ((ixAt p0 p1)) fun t83 =>
   ifB (decide (t83 < (0 : Int)))
    (some ((6 : Int), ()))
   (bindD ((ixAt p0 p1)) fun t84 =>
    ifB (decide (t84 > (3 : Int)))
     (some ((6 : Int), ()))
    (ancepsref27_letters.l4 p0 (Go.IntKind.wrap Go.IntKind.i64 (p1 + (1 : Int))))))
  (some ((0 : Int), ())) := (loopAt_step Go.Proofs.C27.ctx 55 4 _).trans (by kernel_rfl)
theorem ancepsref26_Divide.l3_eq (p0 : (List (ByteArray × (Int × Int)))) (p1 : Int) (p2 : Int) (p3 : Int) : ancepsref26_Divide.l3 p0 p1 p2 p3 =
  ifB (decide (p3 < (((List.length p0) : Nat) : Int)))
   (bindD ((ixAt p0 p3)) fun t85 =>
   ifB (t85.2.1 != p2)
    (some (false, ()))
   (bindD ((ixAt p0 p3)) fun t86 =>
    ifB (decide (t86.2.2 < p2))
     (some (false, ()))
    (bindD ((ixAt p0 p3)) fun t87 =>
     ifB (decide (t87.2.2 > p1))
      (some (false, ()))
     (bindD ((ixAt p0 p3)) fun t88 =>
      ancepsref26_Divide.l3 p0 p1 t88.2.2 (Go.IntKind.wrap Go.IntKind.i64 (p3 + (1 : Int)))))))
  (some ((p2 == p1), ())) := (loopAt_step Go.Proofs.C27.ctx 56 3 _).trans (by kernel_rfl)
theorem ancepsref23_Ends.f_eq (p0 : (List Int)) (p1 : Int) : ancepsref23_Ends.f p0 p1 =
  ifB (p1 == (0 : Int))
   (some (true, ()))
  (bindD ((ixAt p0 (Go.IntKind.wrap Go.IntKind.i64 (p1 - (1 : Int))))) fun t89 =>
   some ((decide (t89 ≥ (2 : Int))), ())) := (Einf_call Go.Proofs.C27.ctx 57 _).trans (by kernel_rfl)
theorem ancepsref27_at.f_eq (p0 : (List (ByteArray × (Int × Int)))) (p1 : (List Int)) (p2 : (List (ByteArray × (Int × Bool)))) (p3 : Int) : ancepsref27_at.f p0 p1 p2 p3 =
  ancepsref27_at.l3 p3 (0 : Int) p0 p1 p2 (0 : Int) (0 : Int) (0 : Int) (0 : Int) p3 (0 : Int) (0 : Int) (1 : Int) ([] : (List ByteArray)) ([] : (List ByteArray)) := (Einf_call Go.Proofs.C27.ctx 58 _).trans (by kernel_rfl)
theorem ancepsref27_SameBreak.f_eq (p0 : Int) (p1 : Int) (p2 : Int) (p3 : Int) (p4 : (List ByteArray)) (p5 : Int) (p6 : Int) (p7 : Int) (p8 : Int) (p9 : (List ByteArray)) : ancepsref27_SameBreak.f p0 p1 p2 p3 p4 p5 p6 p7 p8 p9 =
  ifB (p0 == p5)
   (ifB (p1 == p6)
    (ifB (p2 == p7)
     (ifB (p3 == p8)
      (bindD (ancepsref22_Strings.f p4 p9) fun t90 =>
      some (t90.1, ()))
     (some (false, ())))
    (some (false, ())))
   (some (false, ())))
  (some (false, ())) := (Einf_call Go.Proofs.C27.ctx 40 _).trans (by kernel_rfl)
theorem caesura_Text.l20_eq (p0 : (List Int)) (p1 : Int) (p2 : Int) (p3 : (List (Int × ByteArray))) (p4 : (List Int)) : caesura_Text.l20 p0 p1 p2 p3 p4 =
  ifB (decide (p2 < p1))
   (bindD ((ixAt p0 p2)) fun t91 =>
   bindD ((Go.Proofs.R.subS (ByteArray.mk (List.toArray ((117 : UInt8) :: ((45 : UInt8) :: ([] : (List UInt8)))))) (Go.Proofs.R.bitsOp Go.BinOp.and Go.IntKind.i64 t91 (1 : Int)) (Go.IntKind.wrap Go.IntKind.i64 ((Go.Proofs.R.bitsOp Go.BinOp.and Go.IntKind.i64 t91 (1 : Int)) + (1 : Int))))) fun t92 =>
   bindD ((Go.Proofs.R.grow ((ByteArray.size t92) + (ByteArray.size (Go.Proofs.R.mget (Go.Proofs.R.Ty.int Go.IntKind.i64) (ByteArray.mk (List.toArray ([] : (List UInt8)))) (Go.IntKind.wrap Go.IntKind.i64 (p2 + (1 : Int))) p3).1)))) fun t93 =>
   bindD ((Go.Proofs.R.grow ((List.length p4) + (List.length (Go.Proofs.R.ints (t92 ++ (Go.Proofs.R.mget (Go.Proofs.R.Ty.int Go.IntKind.i64) (ByteArray.mk (List.toArray ([] : (List UInt8)))) (Go.IntKind.wrap Go.IntKind.i64 (p2 + (1 : Int))) p3).1)))))) fun t94 =>
   caesura_Text.l20_1 p0 p1 (Go.IntKind.wrap Go.IntKind.i64 (p2 + (1 : Int))) p3 (p4 ++ (Go.Proofs.R.ints (t92 ++ (Go.Proofs.R.mget (Go.Proofs.R.Ty.int Go.IntKind.i64) (ByteArray.mk (List.toArray ([] : (List UInt8)))) (Go.IntKind.wrap Go.IntKind.i64 (p2 + (1 : Int))) p3).1))))
  (bindD ((Go.Proofs.R.bytesOf p4)) fun t95 =>
   some (t95, ((0 : Int), ()))) := (loopAt_step Go.Proofs.C27.ctx 23 20 _).trans (by kernel_rfl)
theorem ancepsref27_Text.l15_eq (p0 : (List Int)) (p1 : (List (Int × (Int × (Int × (Int × (List ByteArray))))))) (p2 : ByteArray) (p3 : Int) : ancepsref27_Text.l15 p0 p1 p2 p3 =
  ifB (decide (p3 < (((List.length p0) : Nat) : Int)))
   (ancepsref27_Text.l18 p0 p1 p2 p3 (0 : Int))
  (some (p2, ((0 : Int), ()))) := (loopAt_step Go.Proofs.C27.ctx 25 15 _).trans (by kernel_rfl)
theorem slices_IndexFunc_int_int.f_eq (p0 : (List Int)) : slices_IndexFunc_int_int.f p0 =
  slices_IndexFunc_int_int.l2 p0 (((List.length p0) : Nat) : Int) (0 : Int) := (Einf_call Go.Proofs.C27.ctx 69 _).trans (by kernel_rfl)
theorem api_Part.l2_eq (p0 : (List (ByteArray × (Int × Int)))) (p1 : Int) (p2 : Int) (p3 : Int) : api_Part.l2 p0 p1 p2 p3 =
  ifB (decide (p3 < p2))
   (bindD ((ixAt p0 p3)) fun t96 =>
   bindD (caesura_Breaks_1.f t96.1 t96.2.1 t96.2.2 p1) fun t97 =>
   ifB t97.1
    (some (p3, ()))
   (api_Part.l2 p0 p1 p2 (Go.IntKind.wrap Go.IntKind.i64 (p3 + (1 : Int)))))
  (some ((-(1 : Int)), ())) := (loopAt_step Go.Proofs.C27.ctx 53 2 _).trans (by kernel_rfl)
theorem ancepsref27_at.l3_eq (p0 : Int) (p1 : Int) (p2 : (List (ByteArray × (Int × Int)))) (p3 : (List Int)) (p4 : (List (ByteArray × (Int × Bool)))) (p5 : Int) (p6 : Int) (p7 : Int) (p8 : Int) (p9 : Int) (p10 : Int) (p11 : Int) (p12 : Int) (p13 : (List ByteArray)) (p14 : (List ByteArray)) : ancepsref27_at.l3 p0 p1 p2 p3 p4 p5 p6 p7 p8 p9 p10 p11 p12 p13 p14 =
  ifB (decide (p1 < (((List.length p2) : Nat) : Int)))
   (bindD ((ixAt p2 p1)) fun t98 =>
   ifB (decide (t98.2.1 < p0))
    (ifB (decide (t98.2.2 ≥ p0))
     (ifB (t98.2.2 == p0)
      (ancepsref27_at.l3 p0 (Go.IntKind.wrap Go.IntKind.i64 (p1 + (1 : Int))) p2 p3 p4 p5 p6 p7 p8 p9 p1 (Go.IntKind.wrap Go.IntKind.i64 (p0 - t98.2.1)) (2 : Int) p13 p14)
     (ancepsref27_at.l3 p0 (Go.IntKind.wrap Go.IntKind.i64 (p1 + (1 : Int))) p2 p3 p4 p5 p6 p7 p8 p9 p1 (Go.IntKind.wrap Go.IntKind.i64 (p0 - t98.2.1)) p12 p13 p14))
    (ancepsref27_at.l3 p0 (Go.IntKind.wrap Go.IntKind.i64 (p1 + (1 : Int))) p2 p3 p4 p5 p6 p7 p8 p9 p10 p11 p12 p13 p14))
   (ancepsref27_at.l3 p0 (Go.IntKind.wrap Go.IntKind.i64 (p1 + (1 : Int))) p2 p3 p4 p5 p6 p7 p8 p9 p10 p11 p12 p13 p14))
  (ancepsref27_at.l12 p0 (0 : Int) p2 p3 p4 p5 p6 p7 p8 p9 p10 p11 p12 p13 p14) := (loopAt_step Go.Proofs.C27.ctx 58 3 _).trans (by kernel_rfl)
theorem ancepsref22_Strings.f_eq (p0 : (List ByteArray)) (p1 : (List ByteArray)) : ancepsref22_Strings.f p0 p1 =
  ifB ((((List.length p0) : Nat) : Int) != (((List.length p1) : Nat) : Int))
   (some (false, ()))
  (ancepsref22_Strings.l4 p0 p1 (0 : Int)) := (Einf_call Go.Proofs.C27.ctx 84 _).trans (by kernel_rfl)
theorem caesura_Text.l20_1_eq (p0 : (List Int)) (p1 : Int) (p2 : Int) (p3 : (List (Int × ByteArray))) (p4 : (List Int)) : caesura_Text.l20_1 p0 p1 p2 p3 p4 =
  ifB (decide (p2 < p1))
   (bindD ((ixAt p0 p2)) fun t99 =>
   bindD ((Go.Proofs.R.subS (ByteArray.mk (List.toArray ((117 : UInt8) :: ((45 : UInt8) :: ([] : (List UInt8)))))) (Go.Proofs.R.bitsOp Go.BinOp.and Go.IntKind.i64 t99 (1 : Int)) (Go.IntKind.wrap Go.IntKind.i64 ((Go.Proofs.R.bitsOp Go.BinOp.and Go.IntKind.i64 t99 (1 : Int)) + (1 : Int))))) fun t100 =>
   bindD ((Go.Proofs.R.grow ((ByteArray.size t100) + (ByteArray.size (Go.Proofs.R.mget (Go.Proofs.R.Ty.int Go.IntKind.i64) (ByteArray.mk (List.toArray ([] : (List UInt8)))) (Go.IntKind.wrap Go.IntKind.i64 (p2 + (1 : Int))) p3).1)))) fun t101 =>
   bindD ((Go.Proofs.R.grow ((List.length p4) + (List.length (Go.Proofs.R.ints (t100 ++ (Go.Proofs.R.mget (Go.Proofs.R.Ty.int Go.IntKind.i64) (ByteArray.mk (List.toArray ([] : (List UInt8)))) (Go.IntKind.wrap Go.IntKind.i64 (p2 + (1 : Int))) p3).1)))))) fun t102 =>
   caesura_Text.l20_1 p0 p1 (Go.IntKind.wrap Go.IntKind.i64 (p2 + (1 : Int))) p3 (p4 ++ (Go.Proofs.R.ints (t100 ++ (Go.Proofs.R.mget (Go.Proofs.R.Ty.int Go.IntKind.i64) (ByteArray.mk (List.toArray ([] : (List UInt8)))) (Go.IntKind.wrap Go.IntKind.i64 (p2 + (1 : Int))) p3).1))))
  (bindD ((Go.Proofs.R.bytesOf p4)) fun t103 =>
   some (t103, ((0 : Int), ()))) := (loopAt_step Go.Proofs.C27.ctx 23 20 _).trans (by kernel_rfl)
theorem ancepsref27_Text.l18_eq (p0 : (List Int)) (p1 : (List (Int × (Int × (Int × (Int × (List ByteArray))))))) (p2 : ByteArray) (p3 : Int) (p4 : Int) : ancepsref27_Text.l18 p0 p1 p2 p3 p4 =
  ifB (decide (p4 < (((List.length p1) : Nat) : Int)))
   (bindD ((ixAt p1 p4)) fun t104 =>
   ifB (t104.1 == p3)
    (bindD ((ixAt p1 p4)) fun t105 =>
    bindD ((ixAt p1 p4)) fun t106 =>
    bindD ((Go.Proofs.R.subS (ByteArray.mk (List.toArray ((124 : UInt8) :: ((58 : UInt8) :: ([] : (List UInt8)))))) (Go.IntKind.wrap Go.IntKind.i64 (t105.2.2.2.1 - (1 : Int))) t106.2.2.2.1)) fun t107 =>
    bindD ((Go.Proofs.R.grow ((ByteArray.size p2) + (ByteArray.size t107)))) fun t108 =>
    ancepsref27_Text.l18 p0 p1 (p2 ++ t107) p3 (Go.IntKind.wrap Go.IntKind.i64 (p4 + (1 : Int))))
   (ancepsref27_Text.l18 p0 p1 p2 p3 (Go.IntKind.wrap Go.IntKind.i64 (p4 + (1 : Int)))))
  (bindD ((ixAt p0 p3)) fun t109 =>
   bindD ((ixAt p0 p3)) fun t110 =>
   bindD ((Go.Proofs.R.subS (ByteArray.mk (List.toArray ((117 : UInt8) :: ((45 : UInt8) :: ([] : (List UInt8)))))) (Int.tmod t109 (2 : Int)) (Go.IntKind.wrap Go.IntKind.i64 ((Int.tmod t110 (2 : Int)) + (1 : Int))))) fun t111 =>
   bindD ((Go.Proofs.R.grow ((ByteArray.size p2) + (ByteArray.size t111)))) fun t112 =>
   ancepsref27_Text.l15 p0 p1 (p2 ++ t111) (Go.IntKind.wrap Go.IntKind.i64 (p3 + (1 : Int)))) := (loopAt_step Go.Proofs.C27.ctx 25 18 _).trans (by kernel_rfl)
theorem slices_IndexFunc_int_int.l2_eq (p0 : (List Int)) (p1 : Int) (p2 : Int) : slices_IndexFunc_int_int.l2 p0 p1 p2 =
  ifB (decide (p2 < p1))
   (bindD ((ixAt p0 p2)) fun t113 =>
   bindD (caesura_valid_1.f t113) fun t114 =>
   ifB t114.1
    (some (p2, ()))
   (slices_IndexFunc_int_int.l2 p0 p1 (Go.IntKind.wrap Go.IntKind.i64 (p2 + (1 : Int)))))
  (some ((-(1 : Int)), ())) := (loopAt_step Go.Proofs.C27.ctx 69 2 _).trans (by kernel_rfl)
theorem caesura_Breaks_1.f_eq (p0 : ByteArray) (p1 : Int) (p2 : Int) (p3 : Int) : caesura_Breaks_1.f p0 p1 p2 p3 =
  ifB (decide (p1 < p3))
   (some ((decide (p2 ≥ p3)), ()))
  (some (false, ())) := (Einf_call Go.Proofs.C27.ctx 54 _).trans (by kernel_rfl)
theorem ancepsref27_at.l12_eq (p0 : Int) (p1 : Int) (p2 : (List (ByteArray × (Int × Int)))) (p3 : (List Int)) (p4 : (List (ByteArray × (Int × Bool)))) (p5 : Int) (p6 : Int) (p7 : Int) (p8 : Int) (p9 : Int) (p10 : Int) (p11 : Int) (p12 : Int) (p13 : (List ByteArray)) (p14 : (List ByteArray)) : ancepsref27_at.l12 p0 p1 p2 p3 p4 p5 p6 p7 p8 p9 p10 p11 p12 p13 p14 =
  ifB (decide (p1 < (((List.length p4) : Nat) : Int)))
   (bindD ((ixAt p4 p1)) fun t115 =>
   ifB (t115.2.1 == p0)
    (bindD ((ixAt p4 p1)) fun t116 =>
    bindD ((Go.Proofs.R.grow ((List.length p14) + (List.length (t116.1 :: ([] : (List ByteArray))))))) fun t117 =>
    ancepsref27_at.l12 p0 (Go.IntKind.wrap Go.IntKind.i64 (p1 + (1 : Int))) p2 p3 p4 p5 p6 p7 p8 p9 p10 p11 p12 p13 (p14 ++ (t116.1 :: ([] : (List ByteArray)))))
   (ancepsref27_at.l12 p0 (Go.IntKind.wrap Go.IntKind.i64 (p1 + (1 : Int))) p2 p3 p4 p5 p6 p7 p8 p9 p10 p11 p12 p13 p14))
  (some (p9, (p10, (p11, (p12, (p14, ())))))) := (loopAt_step Go.Proofs.C27.ctx 58 12 _).trans (by kernel_rfl)
theorem ancepsref22_Strings.l4_eq (p0 : (List ByteArray)) (p1 : (List ByteArray)) (p2 : Int) : ancepsref22_Strings.l4 p0 p1 p2 =
  ifB (decide (p2 < (((List.length p0) : Nat) : Int)))
   (bindD ((ixAt p0 p2)) fun t118 =>
   bindD ((ixAt p1 p2)) fun t119 =>
   ifB (!((ByteArray.toList t118) == (ByteArray.toList t119)))
    (some (false, ()))
   (ancepsref22_Strings.l4 p0 p1 (Go.IntKind.wrap Go.IntKind.i64 (p2 + (1 : Int)))))
  (some (true, ())) := (loopAt_step Go.Proofs.C27.ctx 84 4 _).trans (by kernel_rfl)
theorem caesura_valid_1.f_eq (p0 : Int) : caesura_valid_1.f p0 =
  ifB (decide (p0 < (0 : Int)))
   (some (true, ()))
  (some ((decide (p0 > (3 : Int))), ())) := (Einf_call Go.Proofs.C27.ctx 91 _).trans (by kernel_rfl)
end Go.Proofs.C27
