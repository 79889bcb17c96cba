/- C15B: what the row's functions are, as the evaluator tells them. No condition. -/
import Derived.Test.YtclcobhnoliknaaC15
set_option linter.unusedVariables false
set_option linter.unusedSimpArgs false
set_option maxRecDepth 100000
set_option linter.unusedVariables false
namespace Go.Proofs.C15
open Go Go.Proofs.R
noncomputable def ancepslaw15_SyllableWord.f (p0 : (List Int)) (p1 : Int) : Option (Bool × Unit) := (Go.Proofs.R.Einf Go.Proofs.C15.ctx).call 4 [(.one (.v (.sl (.int .i64)) p0)), (.one (.v (.int .i64) p1))]
noncomputable def ancepslaw15_SyllableOpen.f (p0 : (List (Int × (Int × ByteArray)))) (p1 : Int) (p2 : Int) (p3 : Int) (p4 : Int) (p5 : Bool) : Option (Bool × Unit) := (Go.Proofs.R.Einf Go.Proofs.C15.ctx).call 5 [(.one (.v (.sl (.pair (.int .i64) (.pair (.int .i64) .str))) p0)), (.agg [(.v (.int .i64) p1), (.v (.int .i64) p2), (.v (.int .i64) p3), (.v (.int .i64) p4), (.v .bool p5)])]
noncomputable def ancepslaw15_SyllableText.f (p0 : (List (Int × (Int × ByteArray)))) (p1 : (List Int)) : Option (Bool × Unit) := (Go.Proofs.R.Einf Go.Proofs.C15.ctx).call 3 [(.one (.v (.sl (.pair (.int .i64) (.pair (.int .i64) .str))) p0)), (.one (.v (.sl (.int .i64)) p1))]
noncomputable def ancepslaw15_SyllableDivide.f (p0 : (List (Int × (Int × ByteArray)))) (p1 : (List Int)) (p2 : (List (Int × (Int × (Int × (Int × Bool)))))) : Option (Bool × Unit) := (Go.Proofs.R.Einf Go.Proofs.C15.ctx).call 7 [(.one (.v (.sl (.pair (.int .i64) (.pair (.int .i64) .str))) p0)), (.one (.v (.sl (.int .i64)) p1)), (.one (.v (.sl (.pair (.int .i64) (.pair (.int .i64) (.pair (.int .i64) (.pair (.int .i64) .bool))))) p2))]
noncomputable def ancepslaw15_SyllableCovers.f (p0 : (List Int)) (p1 : (List Int)) : Option (Bool × Unit) := (Go.Proofs.R.Einf Go.Proofs.C15.ctx).call 6 [(.agg [(.v (.sl (.int .u8)) p0), (.v (.sl (.int .u8)) p1)])]
noncomputable def ancepslaw15_awake.f : Option (Bool × Unit) := (Go.Proofs.R.Einf Go.Proofs.C15.ctx).call 10 []
noncomputable def slices_Clone_int_int.f (p0 : (List Int)) : Option ((List Int) × Unit) := (Go.Proofs.R.Einf Go.Proofs.C15.ctx).call 14 [(.one (.v (.sl (.int .i64)) p0))]
noncomputable def syllable_Word.f (p0 : (List Int)) (p1 : Int) : Option (Int × Unit) := (Go.Proofs.R.Einf Go.Proofs.C15.ctx).call 16 [(.one (.v (.sl (.int .i64)) p0)), (.one (.v (.int .i64) p1))]
noncomputable def ancepsref15_Word.f (p0 : (List Int)) (p1 : Int) : Option (Int × Unit) := (Go.Proofs.R.Einf Go.Proofs.C15.ctx).call 17 [(.one (.v (.sl (.int .i64)) p0)), (.one (.v (.int .i64) p1))]
noncomputable def ancepsref15_Few.f (p0 : (List (Int × (Int × ByteArray)))) (p1 : (List Int)) : Option (Bool × Unit) := (Go.Proofs.R.Einf Go.Proofs.C15.ctx).call 11 [(.one (.v (.sl (.pair (.int .i64) (.pair (.int .i64) .str))) p0)), (.one (.v (.sl (.int .i64)) p1))]
noncomputable def api_Sound.f (p0 : (List (Int × (Int × ByteArray)))) : Option ((List (Int × (Int × ByteArray))) × Unit) := (Go.Proofs.R.Einf Go.Proofs.C15.ctx).call 13 [(.one (.v (.sl (.pair (.int .i64) (.pair (.int .i64) .str))) p0))]
noncomputable def syllable_Open.f (p0 : (List (Int × (Int × ByteArray)))) (p1 : Int) (p2 : Int) (p3 : Int) (p4 : Int) (p5 : Bool) : Option (Bool × (Int × Unit)) := (Go.Proofs.R.Einf Go.Proofs.C15.ctx).call 18 [(.one (.v (.sl (.pair (.int .i64) (.pair (.int .i64) .str))) p0)), (.agg [(.v (.int .i64) p1), (.v (.int .i64) p2), (.v (.int .i64) p3), (.v (.int .i64) p4), (.v .bool p5)])]
noncomputable def ancepsref15_Open.f (p0 : (List (Int × (Int × ByteArray)))) (p1 : Int) (p2 : Int) (p3 : Int) (p4 : Int) (p5 : Bool) : Option (Bool × (Int × Unit)) := (Go.Proofs.R.Einf Go.Proofs.C15.ctx).call 19 [(.one (.v (.sl (.pair (.int .i64) (.pair (.int .i64) .str))) p0)), (.agg [(.v (.int .i64) p1), (.v (.int .i64) p2), (.v (.int .i64) p3), (.v (.int .i64) p4), (.v .bool p5)])]
noncomputable def syllable_Text.f (p0 : (List (Int × (Int × ByteArray)))) (p1 : (List Int)) : Option (ByteArray × (Int × Unit)) := (Go.Proofs.R.Einf Go.Proofs.C15.ctx).call 12 [(.one (.v (.sl (.pair (.int .i64) (.pair (.int .i64) .str))) p0)), (.one (.v (.sl (.int .i64)) p1))]
noncomputable def ancepsref15_Text.f (p0 : (List (Int × (Int × ByteArray)))) (p1 : (List Int)) : Option (ByteArray × (Int × Unit)) := (Go.Proofs.R.Einf Go.Proofs.C15.ctx).call 15 [(.one (.v (.sl (.pair (.int .i64) (.pair (.int .i64) .str))) p0)), (.one (.v (.sl (.int .i64)) p1))]
noncomputable def syllable_Divide.f (p0 : (List (Int × (Int × ByteArray)))) (p1 : (List Int)) : Option ((List (Int × (Int × (Int × (Int × Bool))))) × (Int × Unit)) := (Go.Proofs.R.Einf Go.Proofs.C15.ctx).call 21 [(.one (.v (.sl (.pair (.int .i64) (.pair (.int .i64) .str))) p0)), (.one (.v (.sl (.int .i64)) p1))]
noncomputable def ancepsref15_Divide.f (p0 : (List (Int × (Int × ByteArray)))) (p1 : (List Int)) : Option ((List (Int × (Int × (Int × (Int × Bool))))) × (Int × Unit)) := (Go.Proofs.R.Einf Go.Proofs.C15.ctx).call 24 [(.one (.v (.sl (.pair (.int .i64) (.pair (.int .i64) .str))) p0)), (.one (.v (.sl (.int .i64)) p1))]
noncomputable def ancepsref15_Same.f (p0 : (List (Int × (Int × (Int × (Int × Bool)))))) (p1 : (List (Int × (Int × (Int × (Int × Bool)))))) : Option (Bool × Unit) := (Go.Proofs.R.Einf Go.Proofs.C15.ctx).call 25 [(.one (.v (.sl (.pair (.int .i64) (.pair (.int .i64) (.pair (.int .i64) (.pair (.int .i64) .bool))))) p0)), (.one (.v (.sl (.pair (.int .i64) (.pair (.int .i64) (.pair (.int .i64) (.pair (.int .i64) .bool))))) p1))]
noncomputable def syllable_Check.f (p0 : (List (Int × (Int × ByteArray)))) (p1 : (List Int)) (p2 : (List (Int × (Int × (Int × (Int × Bool)))))) : Option (Bool × Unit) := (Go.Proofs.R.Einf Go.Proofs.C15.ctx).call 26 [(.one (.v (.sl (.pair (.int .i64) (.pair (.int .i64) .str))) p0)), (.one (.v (.sl (.int .i64)) p1)), (.one (.v (.sl (.pair (.int .i64) (.pair (.int .i64) (.pair (.int .i64) (.pair (.int .i64) .bool))))) p2))]
noncomputable def api_Syllable.f (p0 : (List (Int × (Int × (Int × (Int × Bool)))))) : Option ((List (Int × (Int × (Int × (Int × Bool))))) × Unit) := (Go.Proofs.R.Einf Go.Proofs.C15.ctx).call 27 [(.one (.v (.sl (.pair (.int .i64) (.pair (.int .i64) (.pair (.int .i64) (.pair (.int .i64) .bool))))) p0))]
noncomputable def ancepsref15_Check.f (p0 : (List (Int × (Int × ByteArray)))) (p1 : (List Int)) (p2 : (List (Int × (Int × (Int × (Int × Bool)))))) : Option (Bool × Unit) := (Go.Proofs.R.Einf Go.Proofs.C15.ctx).call 28 [(.one (.v (.sl (.pair (.int .i64) (.pair (.int .i64) .str))) p0)), (.one (.v (.sl (.int .i64)) p1)), (.one (.v (.sl (.pair (.int .i64) (.pair (.int .i64) (.pair (.int .i64) (.pair (.int .i64) .bool))))) p2))]
noncomputable def ancepsref15_Made.f (p0 : (List Int)) (p1 : (List Int)) : Option ((List (Int × (Int × ByteArray))) × ((List Int) × Unit)) := (Go.Proofs.R.Einf Go.Proofs.C15.ctx).call 20 [(.agg [(.v (.sl (.int .u8)) p0), (.v (.sl (.int .u8)) p1)])]
noncomputable def ancepsref11_Nuclei.f (p0 : (List (Int × (Int × ByteArray)))) : Option ((List Int) × Unit) := (Go.Proofs.R.Einf Go.Proofs.C15.ctx).call 22 [(.one (.v (.sl (.pair (.int .i64) (.pair (.int .i64) .str))) p0))]
noncomputable def ancepslaw15_SyllableCovers.l12 (p0 : Int) (p1 : Int) (p2 : Int) (p3 : (List (Int × (Int × ByteArray)))) (p4 : (List Int)) (p5 : (List (Int × (Int × (Int × (Int × Bool)))))) : Option (Bool × Unit) := Go.Proofs.R.loopAt Go.Proofs.C15.ctx (Go.Proofs.R.Einf Go.Proofs.C15.ctx) 6 12 (.mk [(3, (.one (.row 7))), (7, (.one (.row 15))), (8, (.one (.v (.int .i64) p0))), (59, (.one (.row 23))), (60, (.one (.v (.int .i64) p1))), (61, (.one (.v (.int .i64) p2)))] [(7, (.row 31 (.pair (.int .i64) (.pair (.int .i64) .str)) p3 false)), (15, (.row 3 (.int .i64) p4 false)), (23, (.row 36 (.pair (.int .i64) (.pair (.int .i64) (.pair (.int .i64) (.pair (.int .i64) .bool)))) p5 false))])
noncomputable def ancepsref11_Parse.f (p0 : ByteArray) : Option ((List (Int × (Int × ByteArray))) × (Int × Unit)) := (Go.Proofs.R.Einf Go.Proofs.C15.ctx).call 36 [(.one (.v .str p0))]
noncomputable def syllable_Word.l3 (p0 : Int) (p1 : Int) (p2 : (List Int)) (p3 : Int) (p4 : Int) : Option (Int × Unit) := Go.Proofs.R.loopAt Go.Proofs.C15.ctx (Go.Proofs.R.Einf Go.Proofs.C15.ctx) 16 3 (.mk [(1, (.one (.v (.int .i64) p0))), (5, (.one (.v (.int .i64) p1))), (8, (.one (.v (.sl (.int .i64)) p2))), (9, (.one (.v (.int .i64) p3))), (10, (.one (.v (.int .i64) p4)))] [])
noncomputable def ancepsref15_Word.l3 (p0 : (List Int)) (p1 : Int) (p2 : Int) (p3 : Int) : Option (Int × Unit) := Go.Proofs.R.loopAt Go.Proofs.C15.ctx (Go.Proofs.R.Einf Go.Proofs.C15.ctx) 17 3 (.mk [(0, (.one (.v (.sl (.int .i64)) p0))), (1, (.one (.v (.int .i64) p1))), (5, (.one (.v (.int .i64) p2))), (6, (.one (.v (.int .i64) p3)))] [])
noncomputable def ancepsref11_Few.f (p0 : (List (Int × (Int × ByteArray)))) (p1 : Int) : Option (Bool × Unit) := (Go.Proofs.R.Einf Go.Proofs.C15.ctx).call 37 [(.one (.v (.sl (.pair (.int .i64) (.pair (.int .i64) .str))) p0)), (.one (.v (.int .i64) p1))]
noncomputable def sound_Nucleus.f (p0 : Int) (p1 : Int) (p2 : ByteArray) : Option (Bool × Unit) := (Go.Proofs.R.Einf Go.Proofs.C15.ctx).call 45 [(.agg [(.v (.int .i64) p0), (.v (.int .i64) p1), (.v .str p2)])]
noncomputable def ancepsref11_Nucleus.f (p0 : Int) (p1 : Int) (p2 : ByteArray) : Option (Bool × Unit) := (Go.Proofs.R.Einf Go.Proofs.C15.ctx).call 23 [(.agg [(.v (.int .i64) p0), (.v (.int .i64) p1), (.v .str p2)])]
noncomputable def syllable_Text.l6 (p0 : (List Int)) (p1 : (List (Int × (Int × ByteArray)))) (p2 : Int) (p3 : Int) (p4 : (List (Int × (Int × (Int × (Int × Bool)))))) (p5 : (List Int)) : Option (ByteArray × (Int × Unit)) := Go.Proofs.R.loopAt Go.Proofs.C15.ctx (Go.Proofs.R.Einf Go.Proofs.C15.ctx) 12 6 (.mk [(1, (.one (.v (.sl (.int .i64)) p0))), (6, (.one (.row 7))), (8, (.one (.ref 15 0))), (23, (.one (.v (.sl (.pair (.int .i64) (.pair (.int .i64) .str))) p1))), (24, (.one (.v (.int .i64) p2))), (25, (.one (.v (.int .i64) p3)))] [(7, (.row 36 (.pair (.int .i64) (.pair (.int .i64) (.pair (.int .i64) (.pair (.int .i64) .bool)))) p4 false)), (15, (.box 70 [.nilp, (.row 23)])), (23, (.row 5 (.int .u8) p5 false))])
noncomputable def ancepsref15_Text.l6 (p0 : (List (Int × (Int × ByteArray)))) (p1 : (List Int)) (p2 : Int) (p3 : (List (Int × (Int × (Int × (Int × Bool)))))) (p4 : (List Int)) : Option (ByteArray × (Int × Unit)) := Go.Proofs.R.loopAt Go.Proofs.C15.ctx (Go.Proofs.R.Einf Go.Proofs.C15.ctx) 15 6 (.mk [(0, (.one (.v (.sl (.pair (.int .i64) (.pair (.int .i64) .str))) p0))), (1, (.one (.v (.sl (.int .i64)) p1))), (6, (.one (.row 7))), (8, (.one (.row 15))), (9, (.one (.v (.int .i64) p2)))] [(7, (.row 36 (.pair (.int .i64) (.pair (.int .i64) (.pair (.int .i64) (.pair (.int .i64) .bool)))) p3 false)), (15, (.row 3 (.int .i64) p4 false))])
noncomputable def syllable_valid.f (p0 : (List (Int × (Int × ByteArray)))) (p1 : (List Int)) : Option (Int × Unit) := (Go.Proofs.R.Einf Go.Proofs.C15.ctx).call 47 [(.one (.v (.sl (.pair (.int .i64) (.pair (.int .i64) .str))) p0)), (.one (.v (.sl (.int .i64)) p1))]
noncomputable def sound_Nuclei.f (p0 : (List (Int × (Int × ByteArray)))) : Option ((List Int) × Unit) := (Go.Proofs.R.Einf Go.Proofs.C15.ctx).call 48 [(.one (.v (.sl (.pair (.int .i64) (.pair (.int .i64) .str))) p0))]
noncomputable def syllable_Divide.l10 (p0 : (List (Int × (Int × ByteArray)))) (p1 : (List Int)) (p2 : Int) (p3 : Int) (p4 : Int) (p5 : (List Int)) (p6 : (List (Int × (Int × (Int × (Int × Bool)))))) : Option ((List (Int × (Int × (Int × (Int × Bool))))) × (Int × Unit)) := Go.Proofs.R.loopAt Go.Proofs.C15.ctx (Go.Proofs.R.Einf Go.Proofs.C15.ctx) 21 10 (.mk [(0, (.one (.v (.sl (.pair (.int .i64) (.pair (.int .i64) .str))) p0))), (1, (.one (.v (.sl (.int .i64)) p1))), (7, (.one (.row 7))), (8, (.one (.row 15))), (9, (.one (.v (.int .i64) p2))), (26, (.one (.row 7))), (27, (.one (.v (.int .i64) p3))), (28, (.one (.v (.int .i64) p4)))] [(7, (.row 3 (.int .i64) p5 false)), (15, (.row 36 (.pair (.int .i64) (.pair (.int .i64) (.pair (.int .i64) (.pair (.int .i64) .bool)))) p6 false))])
noncomputable def ancepsref15_Valid.f (p0 : (List (Int × (Int × ByteArray)))) (p1 : (List Int)) : Option (Int × Unit) := (Go.Proofs.R.Einf Go.Proofs.C15.ctx).call 51 [(.one (.v (.sl (.pair (.int .i64) (.pair (.int .i64) .str))) p0)), (.one (.v (.sl (.int .i64)) p1))]
noncomputable def ancepsref15_Divide.l10 (p0 : (List (Int × (Int × ByteArray)))) (p1 : (List Int)) (p2 : Int) (p3 : Int) (p4 : (List Int)) (p5 : (List (Int × (Int × (Int × (Int × Bool)))))) : Option ((List (Int × (Int × (Int × (Int × Bool))))) × (Int × Unit)) := Go.Proofs.R.loopAt Go.Proofs.C15.ctx (Go.Proofs.R.Einf Go.Proofs.C15.ctx) 24 10 (.mk [(0, (.one (.v (.sl (.pair (.int .i64) (.pair (.int .i64) .str))) p0))), (1, (.one (.v (.sl (.int .i64)) p1))), (7, (.one (.row 7))), (8, (.one (.row 15))), (9, (.one (.v (.int .i64) p2))), (10, (.one (.v (.int .i64) p3)))] [(7, (.row 3 (.int .i64) p4 false)), (15, (.row 36 (.pair (.int .i64) (.pair (.int .i64) (.pair (.int .i64) (.pair (.int .i64) .bool)))) p5 false))])
noncomputable def ancepsref15_Same.l4 (p0 : (List (Int × (Int × (Int × (Int × Bool)))))) (p1 : (List (Int × (Int × (Int × (Int × Bool)))))) (p2 : Int) : Option (Bool × Unit) := Go.Proofs.R.loopAt Go.Proofs.C15.ctx (Go.Proofs.R.Einf Go.Proofs.C15.ctx) 25 4 (.mk [(0, (.one (.v (.sl (.pair (.int .i64) (.pair (.int .i64) (.pair (.int .i64) (.pair (.int .i64) .bool))))) p0))), (1, (.one (.v (.sl (.pair (.int .i64) (.pair (.int .i64) (.pair (.int .i64) (.pair (.int .i64) .bool))))) p1))), (5, (.one (.v (.int .i64) p2)))] [])
noncomputable def api_Syllable_54.f (p0 : (List (Int × (Int × (Int × (Int × Bool)))))) (p1 : (List (Int × (Int × (Int × (Int × Bool)))))) : Option (Bool × Unit) := (Go.Proofs.R.Einf Go.Proofs.C15.ctx).call 54 [(.one (.v (.sl (.pair (.int .i64) (.pair (.int .i64) (.pair (.int .i64) (.pair (.int .i64) .bool))))) p0)), (.one (.v (.sl (.pair (.int .i64) (.pair (.int .i64) (.pair (.int .i64) (.pair (.int .i64) .bool))))) p1))]
noncomputable def ancepsref11_All.f (p0 : (List Int)) : Option ((List (Int × (Int × ByteArray))) × Unit) := (Go.Proofs.R.Einf Go.Proofs.C15.ctx).call 46 [(.one (.v (.sl (.int .u8)) p0))]
noncomputable def ancepsref15_Made.l4 (p0 : Int) (p1 : (List Int)) (p2 : (List Int)) (p3 : (List (Int × (Int × ByteArray)))) (p4 : (List Int)) : Option ((List (Int × (Int × ByteArray))) × ((List Int) × Unit)) := Go.Proofs.R.loopAt Go.Proofs.C15.ctx (Go.Proofs.R.Einf Go.Proofs.C15.ctx) 20 4 (.mk [(1, (.one (.ref 7 0))), (4, (.one (.row 15))), (5, (.one (.row 23))), (6, (.one (.v (.int .i64) p0)))] [(7, (.box 42 [(.v (.sl (.int .u8)) p1), (.v (.sl (.int .u8)) p2)])), (15, (.row 31 (.pair (.int .i64) (.pair (.int .i64) .str)) p3 false)), (23, (.row 3 (.int .i64) p4 false))])
noncomputable def ancepsref11_Nuclei.l3 (p0 : (List (Int × (Int × ByteArray)))) (p1 : Int) (p2 : (List Int)) : Option ((List Int) × Unit) := Go.Proofs.R.loopAt Go.Proofs.C15.ctx (Go.Proofs.R.Einf Go.Proofs.C15.ctx) 22 3 (.mk [(0, (.one (.v (.sl (.pair (.int .i64) (.pair (.int .i64) .str))) p0))), (3, (.one (.row 7))), (4, (.one (.v (.int .i64) p1)))] [(7, (.row 3 (.int .i64) p2 false))])
noncomputable def ancepslaw15_SyllableCovers.l12_1 (p0 : Int) (p1 : Int) (p2 : Int) (p3 : (List (Int × (Int × ByteArray)))) (p4 : (List Int)) (p5 : (List (Int × (Int × (Int × (Int × Bool)))))) : Option (Bool × Unit) := Go.Proofs.R.loopAt Go.Proofs.C15.ctx (Go.Proofs.R.Einf Go.Proofs.C15.ctx) 6 12 (.mk [(3, (.one (.row 7))), (7, (.one (.row 15))), (8, (.one (.v (.int .i64) p0))), (59, (.one (.row 23))), (60, (.one (.v (.int .i64) p1))), (61, (.one (.v (.int .i64) p2)))] [(7, (.row 31 (.pair (.int .i64) (.pair (.int .i64) .str)) p3 true)), (15, (.row 3 (.int .i64) p4 false)), (23, (.row 36 (.pair (.int .i64) (.pair (.int .i64) (.pair (.int .i64) (.pair (.int .i64) .bool)))) p5 false))])
noncomputable def ancepsref11_split.f (p0 : ByteArray) : Option ((List ByteArray) × Unit) := (Go.Proofs.R.Einf Go.Proofs.C15.ctx).call 58 [(.one (.v .str p0))]
noncomputable def ancepsref11_Parse.l8 (p0 : Int) (p1 : (List (Int × (Int × ByteArray)))) (p2 : (List ByteArray)) : Option ((List (Int × (Int × ByteArray))) × (Int × Unit)) := Go.Proofs.R.loopAt Go.Proofs.C15.ctx (Go.Proofs.R.Einf Go.Proofs.C15.ctx) 36 8 (.mk [(4, (.one (.row 7))), (5, (.one (.row 15))), (6, (.one (.v (.int .i64) p0)))] [(7, (.row 31 (.pair (.int .i64) (.pair (.int .i64) .str)) p1 false)), (15, (.row 9 .str p2 false))])
noncomputable def ancepsref11_Few.l4 (p0 : (List (Int × (Int × ByteArray)))) (p1 : Int) : Option (Bool × Unit) := Go.Proofs.R.loopAt Go.Proofs.C15.ctx (Go.Proofs.R.Einf Go.Proofs.C15.ctx) 37 4 (.mk [(0, (.one (.v (.sl (.pair (.int .i64) (.pair (.int .i64) .str))) p0))), (5, (.one (.v (.int .i64) p1)))] [])
noncomputable def api_Syllable_38.f (p0 : (List (Int × (Int × (Int × (Int × Bool)))))) (p1 : Int) : Option (Bool × Unit) := (Go.Proofs.R.Einf Go.Proofs.C15.ctx).call 38 [(.one (.v (.sl (.pair (.int .i64) (.pair (.int .i64) (.pair (.int .i64) (.pair (.int .i64) .bool))))) p0)), (.one (.clo 39 [(.pref [(.v (.int .i64) p1)] 0)]))]
noncomputable def slices_Contains_int_int.f (p0 : (List Int)) (p1 : Int) : Option (Bool × Unit) := (Go.Proofs.R.Einf Go.Proofs.C15.ctx).call 40 [(.one (.v (.sl (.int .i64)) p0)), (.one (.v (.int .i64) p1))]
noncomputable def syllable_Text.l6_1 (p0 : (List Int)) (p1 : (List (Int × (Int × ByteArray)))) (p2 : Int) (p3 : Int) (p4 : (List (Int × (Int × (Int × (Int × Bool)))))) (p5 : (List Int)) : Option (ByteArray × (Int × Unit)) := Go.Proofs.R.loopAt Go.Proofs.C15.ctx (Go.Proofs.R.Einf Go.Proofs.C15.ctx) 12 6 (.mk [(1, (.one (.v (.sl (.int .i64)) p0))), (6, (.one (.row 7))), (8, (.one (.ref 15 0))), (23, (.one (.v (.sl (.pair (.int .i64) (.pair (.int .i64) .str))) p1))), (24, (.one (.v (.int .i64) p2))), (25, (.one (.v (.int .i64) p3)))] [(7, (.row 36 (.pair (.int .i64) (.pair (.int .i64) (.pair (.int .i64) (.pair (.int .i64) .bool)))) p4 false)), (15, (.box 70 [(.ref 15 0), (.row 23)])), (23, (.row 5 (.int .u8) p5 false))])
noncomputable def ancepsref15_Text.l11 (p0 : (List (Int × (Int × ByteArray)))) (p1 : (List Int)) (p2 : ByteArray) (p3 : Int) (p4 : (List Int)) : Option (ByteArray × (Int × Unit)) := Go.Proofs.R.loopAt Go.Proofs.C15.ctx (Go.Proofs.R.Einf Go.Proofs.C15.ctx) 15 11 (.mk [(0, (.one (.v (.sl (.pair (.int .i64) (.pair (.int .i64) .str))) p0))), (1, (.one (.v (.sl (.int .i64)) p1))), (8, (.one (.row 7))), (10, (.one (.v .str p2))), (11, (.one (.v (.int .i64) p3)))] [(7, (.row 3 (.int .i64) p4 false))])
noncomputable def syllable_valid.l4 (p0 : (List (Int × (Int × ByteArray)))) (p1 : (List Int)) (p2 : (List (Int × (Int × ByteArray)))) (p3 : Int) (p4 : Int) : Option (Int × Unit) := Go.Proofs.R.loopAt Go.Proofs.C15.ctx (Go.Proofs.R.Einf Go.Proofs.C15.ctx) 47 4 (.mk [(0, (.one (.v (.sl (.pair (.int .i64) (.pair (.int .i64) .str))) p0))), (1, (.one (.v (.sl (.int .i64)) p1))), (13, (.one (.v (.sl (.pair (.int .i64) (.pair (.int .i64) .str))) p2))), (14, (.one (.v (.int .i64) p3))), (15, (.one (.v (.int .i64) p4)))] [])
noncomputable def sound_Nuclei.l3 (p0 : (List (Int × (Int × ByteArray)))) (p1 : Int) (p2 : Int) (p3 : (List Int)) : Option ((List Int) × Unit) := Go.Proofs.R.loopAt Go.Proofs.C15.ctx (Go.Proofs.R.Einf Go.Proofs.C15.ctx) 48 3 (.mk [(3, (.one (.row 7))), (6, (.one (.v (.sl (.pair (.int .i64) (.pair (.int .i64) .str))) p0))), (7, (.one (.v (.int .i64) p1))), (8, (.one (.v (.int .i64) p2)))] [(7, (.row 3 (.int .i64) p3 false))])
noncomputable def syllable_between.f (p0 : (List (Int × (Int × ByteArray)))) (p1 : (List Int)) (p2 : (List Int)) (p3 : Int) : Option ((List (Int × (Int × ByteArray))) × ((List Int) × Unit)) := (Go.Proofs.R.Einf Go.Proofs.C15.ctx).call 50 [(.one (.v (.sl (.pair (.int .i64) (.pair (.int .i64) .str))) p0)), (.one (.v (.sl (.int .i64)) p1)), (.one (.v (.sl (.int .i64)) p2)), (.one (.v (.int .i64) p3))]
noncomputable def cluster_Coda.f (p0 : (List (Int × (Int × ByteArray)))) (p1 : (List Int)) : Option (Int × (Int × Unit)) := (Go.Proofs.R.Einf Go.Proofs.C15.ctx).call 49 [(.agg [(.v (.sl (.pair (.int .i64) (.pair (.int .i64) .str))) p0), (.v (.sl (.int .i64)) p1)])]
noncomputable def syllable_Divide.l10_1 (p0 : (List (Int × (Int × ByteArray)))) (p1 : (List Int)) (p2 : Int) (p3 : Int) (p4 : Int) (p5 : (List Int)) (p6 : (List (Int × (Int × (Int × (Int × Bool)))))) : Option ((List (Int × (Int × (Int × (Int × Bool))))) × (Int × Unit)) := Go.Proofs.R.loopAt Go.Proofs.C15.ctx (Go.Proofs.R.Einf Go.Proofs.C15.ctx) 21 10 (.mk [(0, (.one (.v (.sl (.pair (.int .i64) (.pair (.int .i64) .str))) p0))), (1, (.one (.v (.sl (.int .i64)) p1))), (7, (.one (.row 7))), (8, (.one (.row 15))), (9, (.one (.v (.int .i64) p2))), (26, (.one (.row 7))), (27, (.one (.v (.int .i64) p3))), (28, (.one (.v (.int .i64) p4)))] [(7, (.row 3 (.int .i64) p5 true)), (15, (.row 36 (.pair (.int .i64) (.pair (.int .i64) (.pair (.int .i64) (.pair (.int .i64) .bool)))) p6 false))])
noncomputable def ancepsref15_Valid.l4 (p0 : (List (Int × (Int × ByteArray)))) (p1 : (List Int)) (p2 : Int) : Option (Int × Unit) := Go.Proofs.R.loopAt Go.Proofs.C15.ctx (Go.Proofs.R.Einf Go.Proofs.C15.ctx) 51 4 (.mk [(0, (.one (.v (.sl (.pair (.int .i64) (.pair (.int .i64) .str))) p0))), (1, (.one (.v (.sl (.int .i64)) p1))), (5, (.one (.v (.int .i64) p2)))] [])
noncomputable def ancepsref15_cluster.f (p0 : (List (Int × (Int × ByteArray)))) (p1 : (List Int)) (p2 : Int) (p3 : Int) : Option ((List (Int × (Int × ByteArray))) × ((List Int) × Unit)) := (Go.Proofs.R.Einf Go.Proofs.C15.ctx).call 53 [(.one (.v (.sl (.pair (.int .i64) (.pair (.int .i64) .str))) p0)), (.one (.v (.sl (.int .i64)) p1)), (.one (.v (.int .i64) p2)), (.one (.v (.int .i64) p3))]
noncomputable def ancepsref14_Coda.f (p0 : (List (Int × (Int × ByteArray)))) (p1 : (List Int)) : Option (Int × (Int × Unit)) := (Go.Proofs.R.Einf Go.Proofs.C15.ctx).call 52 [(.agg [(.v (.sl (.pair (.int .i64) (.pair (.int .i64) .str))) p0), (.v (.sl (.int .i64)) p1)])]
noncomputable def api_Syllable_54.l4 (p0 : (List (Int × (Int × (Int × (Int × Bool)))))) (p1 : (List (Int × (Int × (Int × (Int × Bool)))))) (p2 : Int) (p3 : Int) : Option (Bool × Unit) := Go.Proofs.R.loopAt Go.Proofs.C15.ctx (Go.Proofs.R.Einf Go.Proofs.C15.ctx) 54 4 (.mk [(0, (.one (.v (.sl (.pair (.int .i64) (.pair (.int .i64) (.pair (.int .i64) (.pair (.int .i64) .bool))))) p0))), (1, (.one (.v (.sl (.pair (.int .i64) (.pair (.int .i64) (.pair (.int .i64) (.pair (.int .i64) .bool))))) p1))), (12, (.one (.v (.int .i64) p2))), (13, (.one (.v (.int .i64) p3)))] [])
noncomputable def ancepsref11_All.l3 (p0 : (List Int)) (p1 : Int) (p2 : (List (Int × (Int × ByteArray)))) : Option ((List (Int × (Int × ByteArray))) × Unit) := Go.Proofs.R.loopAt Go.Proofs.C15.ctx (Go.Proofs.R.Einf Go.Proofs.C15.ctx) 46 3 (.mk [(0, (.one (.v (.sl (.int .u8)) p0))), (3, (.one (.row 7))), (4, (.one (.v (.int .i64) p1)))] [(7, (.row 31 (.pair (.int .i64) (.pair (.int .i64) .str)) p2 false))])
noncomputable def ancepsref15_Made.l7 (p0 : Int) (p1 : Int) (p2 : (List Int)) (p3 : (List Int)) (p4 : (List (Int × (Int × ByteArray)))) (p5 : (List Int)) : Option ((List (Int × (Int × ByteArray))) × ((List Int) × Unit)) := Go.Proofs.R.loopAt Go.Proofs.C15.ctx (Go.Proofs.R.Einf Go.Proofs.C15.ctx) 20 7 (.mk [(1, (.one (.ref 7 0))), (4, (.one (.row 15))), (5, (.one (.row 23))), (6, (.one (.v (.int .i64) p0))), (7, (.one (.v (.int .i64) p1)))] [(7, (.box 42 [(.v (.sl (.int .u8)) p2), (.v (.sl (.int .u8)) p3)])), (15, (.row 31 (.pair (.int .i64) (.pair (.int .i64) .str)) p4 false)), (23, (.row 3 (.int .i64) p5 false))])
noncomputable def ancepsref11_split.l3 (p0 : ByteArray) (p1 : Int) (p2 : (List ByteArray)) : Option ((List ByteArray) × Unit) := Go.Proofs.R.loopAt Go.Proofs.C15.ctx (Go.Proofs.R.Einf Go.Proofs.C15.ctx) 58 3 (.mk [(0, (.one (.v .str p0))), (3, (.one (.row 7))), (4, (.one (.v (.int .i64) p1)))] [(7, (.row 9 .str p2 false))])
noncomputable def ancepsref11_one.f (p0 : ByteArray) : Option (Int × (Int × (ByteArray × (Bool × Unit)))) := (Go.Proofs.R.Einf Go.Proofs.C15.ctx).call 59 [(.one (.v .str p0))]
noncomputable def api_Syllable_60.f (p0 : (List (Int × (Int × (Int × (Int × Bool)))))) (p1 : Int) : Option (Int × Unit) := (Go.Proofs.R.Einf Go.Proofs.C15.ctx).call 60 [(.one (.v (.sl (.pair (.int .i64) (.pair (.int .i64) (.pair (.int .i64) (.pair (.int .i64) .bool))))) p0)), (.one (.clo 39 [(.pref [(.v (.int .i64) p1)] 0)]))]
noncomputable def slices_Index_int_int.f (p0 : (List Int)) (p1 : Int) : Option (Int × Unit) := (Go.Proofs.R.Einf Go.Proofs.C15.ctx).call 61 [(.one (.v (.sl (.int .i64)) p0)), (.one (.v (.int .i64) p1))]
noncomputable def ancepsref15_in.f (p0 : (List Int)) (p1 : Int) : Option (Bool × Unit) := (Go.Proofs.R.Einf Go.Proofs.C15.ctx).call 44 [(.one (.v (.sl (.int .i64)) p0)), (.one (.v (.int .i64) p1))]
noncomputable def sound_Valid.f (p0 : Int) (p1 : Int) (p2 : ByteArray) : Option (Int × Unit) := (Go.Proofs.R.Einf Go.Proofs.C15.ctx).call 64 [(.agg [(.v (.int .i64) p0), (.v (.int .i64) p1), (.v .str p2)])]
noncomputable def syllable_valid.l13 (p0 : (List (Int × (Int × ByteArray)))) (p1 : (List Int)) (p2 : (List Int)) (p3 : Int) (p4 : Int) : Option (Int × Unit) := Go.Proofs.R.loopAt Go.Proofs.C15.ctx (Go.Proofs.R.Einf Go.Proofs.C15.ctx) 47 13 (.mk [(0, (.one (.v (.sl (.pair (.int .i64) (.pair (.int .i64) .str))) p0))), (1, (.one (.v (.sl (.int .i64)) p1))), (28, (.one (.v (.sl (.int .i64)) p2))), (29, (.one (.v (.int .i64) p3))), (30, (.one (.v (.int .i64) p4)))] [])
noncomputable def syllable_between.l6 (p0 : Int) (p1 : Int) (p2 : (List Int)) (p3 : Int) (p4 : Int) (p5 : (List (Int × (Int × ByteArray)))) (p6 : (List Int)) (p7 : (List (Int × (Int × ByteArray)))) (p8 : (List Int)) : Option ((List (Int × (Int × ByteArray))) × ((List Int) × Unit)) := Go.Proofs.R.loopAt Go.Proofs.C15.ctx (Go.Proofs.R.Einf Go.Proofs.C15.ctx) 50 6 (.mk [(8, (.one (.ref 7 0))), (9, (.one (.v (.int .i64) p0))), (10, (.one (.v (.int .i64) p1))), (12, (.one (.ref 15 0))), (40, (.one (.v (.sl (.int .i64)) p2))), (41, (.one (.v (.int .i64) p3))), (42, (.one (.v (.int .i64) p4)))] [(7, (.box 60 [(.row 23), (.row 31)])), (15, (.box 60 [(.row 39), (.row 47)])), (23, (.row 31 (.pair (.int .i64) (.pair (.int .i64) .str)) p5 false)), (31, (.row 3 (.int .i64) p6 false)), (39, (.row 31 (.pair (.int .i64) (.pair (.int .i64) .str)) p7 false)), (47, (.row 3 (.int .i64) p8 false))])
noncomputable def cluster_Valid.f (p0 : (List (Int × (Int × ByteArray)))) (p1 : (List Int)) : Option (Int × Unit) := (Go.Proofs.R.Einf Go.Proofs.C15.ctx).call 55 [(.agg [(.v (.sl (.pair (.int .i64) (.pair (.int .i64) .str))) p0), (.v (.sl (.int .i64)) p1)])]
noncomputable def cluster_class.f (p0 : (List (Int × (Int × ByteArray)))) (p1 : (List Int)) : Option (Int × Unit) := (Go.Proofs.R.Einf Go.Proofs.C15.ctx).call 65 [(.agg [(.v (.sl (.pair (.int .i64) (.pair (.int .i64) .str))) p0), (.v (.sl (.int .i64)) p1)])]
noncomputable def cluster_core.f (p0 : (List (Int × (Int × ByteArray)))) (p1 : (List Int)) : Option ((List Int) × Unit) := (Go.Proofs.R.Einf Go.Proofs.C15.ctx).call 66 [(.agg [(.v (.sl (.pair (.int .i64) (.pair (.int .i64) .str))) p0), (.v (.sl (.int .i64)) p1)])]
noncomputable def ancepsref11_Valid.f (p0 : Int) (p1 : Int) (p2 : ByteArray) : Option (Int × Unit) := (Go.Proofs.R.Einf Go.Proofs.C15.ctx).call 67 [(.agg [(.v (.int .i64) p0), (.v (.int .i64) p1), (.v .str p2)])]
noncomputable def ancepsref15_Valid.l12 (p0 : (List (Int × (Int × ByteArray)))) (p1 : (List Int)) (p2 : Int) : Option (Int × Unit) := Go.Proofs.R.loopAt Go.Proofs.C15.ctx (Go.Proofs.R.Einf Go.Proofs.C15.ctx) 51 12 (.mk [(0, (.one (.v (.sl (.pair (.int .i64) (.pair (.int .i64) .str))) p0))), (1, (.one (.v (.sl (.int .i64)) p1))), (7, (.one (.v (.int .i64) p2)))] [])
noncomputable def ancepsref15_cluster.l3 (p0 : (List (Int × (Int × ByteArray)))) (p1 : (List Int)) (p2 : Int) (p3 : Int) (p4 : Int) (p5 : (List (Int × (Int × ByteArray)))) (p6 : (List Int)) (p7 : (List (Int × (Int × ByteArray)))) (p8 : (List Int)) : Option ((List (Int × (Int × ByteArray))) × ((List Int) × Unit)) := Go.Proofs.R.loopAt Go.Proofs.C15.ctx (Go.Proofs.R.Einf Go.Proofs.C15.ctx) 53 3 (.mk [(0, (.one (.v (.sl (.pair (.int .i64) (.pair (.int .i64) .str))) p0))), (1, (.one (.v (.sl (.int .i64)) p1))), (2, (.one (.v (.int .i64) p2))), (3, (.one (.v (.int .i64) p3))), (8, (.one (.ref 7 0))), (9, (.one (.ref 15 0))), (10, (.one (.v (.int .i64) p4)))] [(7, (.box 60 [(.row 23), (.row 31)])), (15, (.box 60 [(.row 39), (.row 47)])), (23, (.row 31 (.pair (.int .i64) (.pair (.int .i64) .str)) p5 false)), (31, (.row 3 (.int .i64) p6 false)), (39, (.row 31 (.pair (.int .i64) (.pair (.int .i64) .str)) p7 false)), (47, (.row 3 (.int .i64) p8 false))])
noncomputable def ancepsref14_Valid.f (p0 : (List (Int × (Int × ByteArray)))) (p1 : (List Int)) : Option (Int × Unit) := (Go.Proofs.R.Einf Go.Proofs.C15.ctx).call 56 [(.agg [(.v (.sl (.pair (.int .i64) (.pair (.int .i64) .str))) p0), (.v (.sl (.int .i64)) p1)])]
noncomputable def ancepsref14_class.f (p0 : (List (Int × (Int × ByteArray)))) (p1 : (List Int)) : Option (Int × Unit) := (Go.Proofs.R.Einf Go.Proofs.C15.ctx).call 68 [(.agg [(.v (.sl (.pair (.int .i64) (.pair (.int .i64) .str))) p0), (.v (.sl (.int .i64)) p1)])]
noncomputable def ancepsref14_core.f (p0 : (List (Int × (Int × ByteArray)))) (p1 : (List Int)) : Option ((List Int) × Unit) := (Go.Proofs.R.Einf Go.Proofs.C15.ctx).call 69 [(.agg [(.v (.sl (.pair (.int .i64) (.pair (.int .i64) .str))) p0), (.v (.sl (.int .i64)) p1)])]
noncomputable def ancepsref11_Made.f (p0 : Int) : Option (Int × (Int × (ByteArray × Unit))) := (Go.Proofs.R.Einf Go.Proofs.C15.ctx).call 63 [(.one (.v (.int .u8) p0))]
noncomputable def ancepsref11_one.l2 (p0 : ByteArray) (p1 : Int) (p2 : Int) (p3 : Int) (p4 : ByteArray) : Option (Int × (Int × (ByteArray × (Bool × Unit)))) := Go.Proofs.R.loopAt Go.Proofs.C15.ctx (Go.Proofs.R.Einf Go.Proofs.C15.ctx) 59 2 (.mk [(0, (.one (.v .str p0))), (2, (.one (.ref 7 0))), (4, (.one (.v (.int .i64) p1)))] [(7, (.box 31 [(.v (.int .i64) p2), (.v (.int .i64) p3), (.v .str p4)]))])
noncomputable def api_Syllable_60.l2 (p0 : (List (Int × (Int × (Int × (Int × Bool)))))) (p1 : Int) (p2 : Int) (p3 : Int) : Option (Int × Unit) := Go.Proofs.R.loopAt Go.Proofs.C15.ctx (Go.Proofs.R.Einf Go.Proofs.C15.ctx) 60 2 (.mk [(0, (.one (.v (.sl (.pair (.int .i64) (.pair (.int .i64) (.pair (.int .i64) (.pair (.int .i64) .bool))))) p0))), (1, (.one (.clo 39 [(.pref [(.v (.int .i64) p1)] 0)]))), (7, (.one (.v (.int .i64) p2))), (8, (.one (.v (.int .i64) p3)))] [])
noncomputable def slices_Index_int_int.l2 (p0 : (List Int)) (p1 : Int) (p2 : Int) (p3 : Int) : Option (Int × Unit) := Go.Proofs.R.loopAt Go.Proofs.C15.ctx (Go.Proofs.R.Einf Go.Proofs.C15.ctx) 61 2 (.mk [(0, (.one (.v (.sl (.int .i64)) p0))), (1, (.one (.v (.int .i64) p1))), (7, (.one (.v (.int .i64) p2))), (8, (.one (.v (.int .i64) p3)))] [])
noncomputable def ancepsref15_in.l2 (p0 : (List Int)) (p1 : Int) (p2 : Int) : Option (Bool × Unit) := Go.Proofs.R.loopAt Go.Proofs.C15.ctx (Go.Proofs.R.Einf Go.Proofs.C15.ctx) 44 2 (.mk [(0, (.one (.v (.sl (.int .i64)) p0))), (1, (.one (.v (.int .i64) p1))), (5, (.one (.v (.int .i64) p2)))] [])
noncomputable def sound_quantity.f (p0 : Int) (p1 : Int) (p2 : ByteArray) : Option (Bool × Unit) := (Go.Proofs.R.Einf Go.Proofs.C15.ctx).call 74 [(.agg [(.v (.int .i64) p0), (.v (.int .i64) p1), (.v .str p2)])]
noncomputable def strings_ContainsFunc.f (p0 : ByteArray) : Option (Bool × Unit) := (Go.Proofs.R.Einf Go.Proofs.C15.ctx).call 75 [(.one (.v .str p0)), (.one (.clo 76 []))]
noncomputable def cluster_Valid.l4 (p0 : (List (Int × (Int × ByteArray)))) (p1 : Int) (p2 : Int) (p3 : (List (Int × (Int × ByteArray)))) (p4 : (List Int)) : Option (Int × Unit) := Go.Proofs.R.loopAt Go.Proofs.C15.ctx (Go.Proofs.R.Einf Go.Proofs.C15.ctx) 55 4 (.mk [(1, (.one (.ref 7 0))), (20, (.one (.v (.sl (.pair (.int .i64) (.pair (.int .i64) .str))) p0))), (21, (.one (.v (.int .i64) p1))), (22, (.one (.v (.int .i64) p2)))] [(7, (.box 60 [(.v (.sl (.pair (.int .i64) (.pair (.int .i64) .str))) p3), (.v (.sl (.int .i64)) p4)]))])
noncomputable def sound_Beats.f (p0 : (List (Int × (Int × ByteArray)))) : Option (Int × Unit) := (Go.Proofs.R.Einf Go.Proofs.C15.ctx).call 78 [(.one (.v (.sl (.pair (.int .i64) (.pair (.int .i64) .str))) p0))]
noncomputable def cluster_core.l3 (p0 : (List (Int × (Int × ByteArray)))) (p1 : Int) (p2 : Int) (p3 : (List Int)) : Option ((List Int) × Unit) := Go.Proofs.R.loopAt Go.Proofs.C15.ctx (Go.Proofs.R.Einf Go.Proofs.C15.ctx) 66 3 (.mk [(3, (.one (.row 7))), (7, (.one (.v (.sl (.pair (.int .i64) (.pair (.int .i64) .str))) p0))), (8, (.one (.v (.int .i64) p1))), (9, (.one (.v (.int .i64) p2)))] [(7, (.row 3 (.int .i64) p3 false))])
noncomputable def ancepsref11_Valid.l15 (p0 : Int) (p1 : Int) (p2 : Int) (p3 : ByteArray) : Option (Int × Unit) := Go.Proofs.R.loopAt Go.Proofs.C15.ctx (Go.Proofs.R.Einf Go.Proofs.C15.ctx) 67 15 (.mk [(1, (.one (.ref 7 0))), (4, (.one (.v (.int .i64) p0)))] [(7, (.box 31 [(.v (.int .i64) p1), (.v (.int .i64) p2), (.v .str p3)]))])
noncomputable def ancepsref15_cluster.l7 (p0 : (List Int)) (p1 : Int) (p2 : Int) (p3 : Int) (p4 : (List (Int × (Int × ByteArray)))) (p5 : (List Int)) (p6 : (List (Int × (Int × ByteArray)))) (p7 : (List Int)) : Option ((List (Int × (Int × ByteArray))) × ((List Int) × Unit)) := Go.Proofs.R.loopAt Go.Proofs.C15.ctx (Go.Proofs.R.Einf Go.Proofs.C15.ctx) 53 7 (.mk [(1, (.one (.v (.sl (.int .i64)) p0))), (2, (.one (.v (.int .i64) p1))), (3, (.one (.v (.int .i64) p2))), (8, (.one (.ref 7 0))), (9, (.one (.ref 15 0))), (11, (.one (.v (.int .i64) p3)))] [(7, (.box 60 [(.row 23), (.row 31)])), (15, (.box 60 [(.row 39), (.row 47)])), (23, (.row 31 (.pair (.int .i64) (.pair (.int .i64) .str)) p4 false)), (31, (.row 3 (.int .i64) p5 false)), (39, (.row 31 (.pair (.int .i64) (.pair (.int .i64) .str)) p6 false)), (47, (.row 3 (.int .i64) p7 false))])
noncomputable def ancepsref14_Valid.l4 (p0 : Int) (p1 : (List (Int × (Int × ByteArray)))) (p2 : (List Int)) : Option (Int × Unit) := Go.Proofs.R.loopAt Go.Proofs.C15.ctx (Go.Proofs.R.Einf Go.Proofs.C15.ctx) 56 4 (.mk [(1, (.one (.ref 7 0))), (3, (.one (.v (.int .i64) p0)))] [(7, (.box 60 [(.v (.sl (.pair (.int .i64) (.pair (.int .i64) .str))) p1), (.v (.sl (.int .i64)) p2)]))])
noncomputable def ancepsref11_Beats.f (p0 : (List (Int × (Int × ByteArray)))) : Option (Int × Unit) := (Go.Proofs.R.Einf Go.Proofs.C15.ctx).call 80 [(.one (.v (.sl (.pair (.int .i64) (.pair (.int .i64) .str))) p0))]
noncomputable def ancepsref14_class.l8 (p0 : Bool) (p1 : Bool) (p2 : Int) (p3 : (List (Int × (Int × ByteArray)))) (p4 : (List Int)) (p5 : (List Int)) : Option (Int × Unit) := Go.Proofs.R.loopAt Go.Proofs.C15.ctx (Go.Proofs.R.Einf Go.Proofs.C15.ctx) 68 8 (.mk [(1, (.one (.ref 7 0))), (3, (.one (.row 15))), (4, (.one (.v .bool p0))), (5, (.one (.v .bool p1))), (6, (.one (.v (.int .i64) p2)))] [(7, (.box 60 [(.v (.sl (.pair (.int .i64) (.pair (.int .i64) .str))) p3), (.v (.sl (.int .i64)) p4)])), (15, (.row 3 (.int .i64) p5 false))])
noncomputable def ancepsref14_core.l3 (p0 : Int) (p1 : (List (Int × (Int × ByteArray)))) (p2 : (List Int)) (p3 : (List Int)) : Option ((List Int) × Unit) := Go.Proofs.R.loopAt Go.Proofs.C15.ctx (Go.Proofs.R.Einf Go.Proofs.C15.ctx) 69 3 (.mk [(1, (.one (.ref 7 0))), (3, (.one (.row 15))), (4, (.one (.v (.int .i64) p0)))] [(7, (.box 60 [(.v (.sl (.pair (.int .i64) (.pair (.int .i64) .str))) p1), (.v (.sl (.int .i64)) p2)])), (15, (.row 3 (.int .i64) p3 false))])
noncomputable def ancepsref11_one.l11 (p0 : ByteArray) (p1 : Int) (p2 : Int) (p3 : Int) (p4 : ByteArray) (p5 : Int) (p6 : Int) (p7 : ByteArray) : Option (Int × (Int × (ByteArray × (Bool × Unit)))) := Go.Proofs.R.loopAt Go.Proofs.C15.ctx (Go.Proofs.R.Einf Go.Proofs.C15.ctx) 59 11 (.mk [(2, (.one (.ref 7 0))), (5, (.one (.v .str p0))), (6, (.one (.ref 15 0))), (7, (.one (.v (.int .i64) p1)))] [(7, (.box 31 [(.v (.int .i64) p2), (.v (.int .i64) p3), (.v .str p4)])), (15, (.box 31 [(.v (.int .i64) p5), (.v (.int .i64) p6), (.v .str p7)]))])
noncomputable def syllable_Text_1.f (p0 : Int) (p1 : Int) (p2 : Int) (p3 : Int) (p4 : Bool) (p5 : Int) : Option (Bool × Unit) := (Go.Proofs.R.Einf Go.Proofs.C15.ctx).call 39 [(.agg [(.v (.int .i64) p0), (.v (.int .i64) p1), (.v (.int .i64) p2), (.v (.int .i64) p3), (.v .bool p4)]), (.one (.pref [(.v (.int .i64) p5)] 0))]
noncomputable def strings_IndexFunc.f (p0 : ByteArray) : Option (Int × Unit) := (Go.Proofs.R.Einf Go.Proofs.C15.ctx).call 82 [(.one (.v .str p0)), (.one (.clo 76 []))]
noncomputable def cluster_Valid.l14 (p0 : Int) (p1 : (List Int)) (p2 : Int) (p3 : Int) (p4 : (List (Int × (Int × ByteArray)))) (p5 : (List Int)) : Option (Int × Unit) := Go.Proofs.R.loopAt Go.Proofs.C15.ctx (Go.Proofs.R.Einf Go.Proofs.C15.ctx) 55 14 (.mk [(1, (.one (.ref 7 0))), (6, (.one (.v (.int .i64) p0))), (35, (.one (.v (.sl (.int .i64)) p1))), (36, (.one (.v (.int .i64) p2))), (37, (.one (.v (.int .i64) p3)))] [(7, (.box 60 [(.v (.sl (.pair (.int .i64) (.pair (.int .i64) .str))) p4), (.v (.sl (.int .i64)) p5)]))])
noncomputable def sound_Beats.l3 (p0 : Int) (p1 : (List (Int × (Int × ByteArray)))) (p2 : Int) (p3 : Int) : Option (Int × Unit) := Go.Proofs.R.loopAt Go.Proofs.C15.ctx (Go.Proofs.R.Einf Go.Proofs.C15.ctx) 78 3 (.mk [(3, (.one (.v (.int .i64) p0))), (6, (.one (.v (.sl (.pair (.int .i64) (.pair (.int .i64) .str))) p1))), (7, (.one (.v (.int .i64) p2))), (8, (.one (.v (.int .i64) p3)))] [])
noncomputable def ancepsref11_letter.f (p0 : Int) : Option (Bool × Unit) := (Go.Proofs.R.Einf Go.Proofs.C15.ctx).call 79 [(.one (.v (.int .u8) p0))]
noncomputable def ancepsref14_Valid.l12 (p0 : Int) (p1 : (List (Int × (Int × ByteArray)))) (p2 : (List Int)) : Option (Int × Unit) := Go.Proofs.R.loopAt Go.Proofs.C15.ctx (Go.Proofs.R.Einf Go.Proofs.C15.ctx) 56 12 (.mk [(1, (.one (.ref 7 0))), (5, (.one (.v (.int .i64) p0)))] [(7, (.box 60 [(.v (.sl (.pair (.int .i64) (.pair (.int .i64) .str))) p1), (.v (.sl (.int .i64)) p2)]))])
noncomputable def ancepsref11_Beats.l3 (p0 : (List (Int × (Int × ByteArray)))) (p1 : Int) (p2 : Int) : Option (Int × Unit) := Go.Proofs.R.loopAt Go.Proofs.C15.ctx (Go.Proofs.R.Einf Go.Proofs.C15.ctx) 80 3 (.mk [(0, (.one (.v (.sl (.pair (.int .i64) (.pair (.int .i64) .str))) p0))), (3, (.one (.v (.int .i64) p1))), (4, (.one (.v (.int .i64) p2)))] [])
noncomputable def ancepsref11_letters.f : Option (ByteArray × Unit) := (Go.Proofs.R.Einf Go.Proofs.C15.ctx).call 72 []
noncomputable def strings_indexFunc.f (p0 : ByteArray) (p1 : Bool) : Option (Int × Unit) := (Go.Proofs.R.Einf Go.Proofs.C15.ctx).call 84 [(.one (.v .str p0)), (.one (.clo 76 [])), (.one (.v .bool p1))]
noncomputable def sound_beats.f (p0 : Int) (p1 : Int) (p2 : ByteArray) : Option (Int × Unit) := (Go.Proofs.R.Einf Go.Proofs.C15.ctx).call 83 [(.agg [(.v (.int .i64) p0), (.v (.int .i64) p1), (.v .str p2)])]
noncomputable def strings_indexFunc.l2 (p0 : Bool) (p1 : ByteArray) (p2 : Nat) : Option (Int × Unit) := Go.Proofs.R.loopAt Go.Proofs.C15.ctx (Go.Proofs.R.Einf Go.Proofs.C15.ctx) 84 2 (.mk [(1, (.one (.clo 76 []))), (2, (.one (.v .bool p0))), (10, (.one (.ref 7 0)))] [(7, (.iter p1 p2))])
noncomputable def sound_Valid_1.f (p0 : Int) : Option (Bool × Unit) := (Go.Proofs.R.Einf Go.Proofs.C15.ctx).call 76 [(.one (.v (.int .i32) p0))]
noncomputable def sound_written.f (p0 : Int) : Option (Bool × Unit) := (Go.Proofs.R.Einf Go.Proofs.C15.ctx).call 77 [(.one (.v (.int .i32) p0))]

theorem ancepslaw15_SyllableWord.f_eq (p0 : (List Int)) (p1 : Int) : ancepslaw15_SyllableWord.f p0 p1 =
  bindD (ancepslaw15_awake.f) fun t0 =>
  ifB (!t0.1)
   (bindD (ancepslaw15_awake.f) fun t1 =>
   some (t1.1, ()))
  (ifB (decide ((((List.length p0) : Nat) : Int) > (100 : Int)))
    (bindD (ancepslaw15_awake.f) fun t2 =>
    some (t2.1, ()))
   (bindD (slices_Clone_int_int.f p0) fun t3 =>
    bindD (syllable_Word.f t3.1 p1) fun t4 =>
    bindD (ancepsref15_Word.f p0 p1) fun t5 =>
    ifB (t4.1 == t5.1)
     (ifB (decide (p1 ≥ (1000000 : Int)))
      (some (true, ()))
     (bindD (syllable_Word.f p0 (Go.IntKind.wrap Go.IntKind.i64 (p1 + (1 : Int)))) fun t6 =>
      some ((decide (t6.1 ≥ t4.1)), ())))
    (some (false, ())))) := (Einf_call Go.Proofs.C15.ctx 4 _).trans (by kernel_rfl)
theorem ancepslaw15_SyllableOpen.f_eq (p0 : (List (Int × (Int × ByteArray)))) (p1 : Int) (p2 : Int) (p3 : Int) (p4 : Int) (p5 : Bool) : ancepslaw15_SyllableOpen.f p0 p1 p2 p3 p4 p5 =
  bindD (ancepslaw15_awake.f) fun t7 =>
  ifB (!t7.1)
   (bindD (ancepslaw15_awake.f) fun t8 =>
   some (t8.1, ()))
  (bindD (ancepsref15_Few.f p0 ([] : (List Int))) fun t9 =>
   ifB (!t9.1)
    (bindD (ancepslaw15_awake.f) fun t10 =>
    some (t10.1, ()))
   (bindD (api_Sound.f p0) fun t11 =>
    bindD (syllable_Open.f t11.1 p1 p2 p3 p4 p5) fun t12 =>
    bindD (ancepsref15_Open.f p0 p1 p2 p3 p4 p5) fun t13 =>
    ifB (t12.1 == t13.1)
     (some ((t12.2.1 == t13.2.1), ()))
    (some (false, ())))) := (Einf_call Go.Proofs.C15.ctx 5 _).trans (by kernel_rfl)
theorem ancepslaw15_SyllableText.f_eq (p0 : (List (Int × (Int × ByteArray)))) (p1 : (List Int)) : ancepslaw15_SyllableText.f p0 p1 =
  bindD (ancepslaw15_awake.f) fun t14 =>
  ifB (!t14.1)
   (bindD (ancepslaw15_awake.f) fun t15 =>
   some (t15.1, ()))
  (bindD (ancepsref15_Few.f p0 p1) fun t16 =>
   ifB (!t16.1)
    (bindD (ancepslaw15_awake.f) fun t17 =>
    some (t17.1, ()))
   (bindD (api_Sound.f p0) fun t18 =>
    bindD (slices_Clone_int_int.f p1) fun t19 =>
    bindD (syllable_Text.f t18.1 t19.1) fun t20 =>
    bindD (ancepsref15_Text.f p0 p1) fun t21 =>
    ifB ((ByteArray.toList t20.1) == (ByteArray.toList t21.1))
     (some ((t20.2.1 == t21.2.1), ()))
    (some (false, ())))) := (Einf_call Go.Proofs.C15.ctx 3 _).trans (by kernel_rfl)
theorem ancepslaw15_SyllableDivide.f_eq (p0 : (List (Int × (Int × ByteArray)))) (p1 : (List Int)) (p2 : (List (Int × (Int × (Int × (Int × Bool)))))) : ancepslaw15_SyllableDivide.f p0 p1 p2 =
  bindD (ancepslaw15_awake.f) fun t22 =>
  ifB (!t22.1)
   (bindD (ancepslaw15_awake.f) fun t23 =>
   some (t23.1, ()))
  (bindD (ancepsref15_Few.f p0 p1) fun t24 =>
   ifB (!t24.1)
    (bindD (ancepslaw15_awake.f) fun t25 =>
    some (t25.1, ()))
   (ifB (decide ((((List.length p2) : Nat) : Int) > (210 : Int)))
     (bindD (ancepslaw15_awake.f) fun t26 =>
     some (t26.1, ()))
    (bindD (api_Sound.f p0) fun t27 =>
     bindD (slices_Clone_int_int.f p1) fun t28 =>
     bindD (syllable_Divide.f t27.1 t28.1) fun t29 =>
     bindD (ancepsref15_Divide.f p0 p1) fun t30 =>
     ifB (t29.2.1 != t30.2.1)
      (some (false, ()))
     (bindD (ancepsref15_Same.f t29.1 t30.1) fun t31 =>
      ifB (!t31.1)
       (some (false, ()))
      (ifB (t29.2.1 == (0 : Int))
        (bindD (syllable_Check.f p0 p1 t30.1) fun t32 =>
        ifB (!t32.1)
         (some (false, ()))
        (bindD (api_Syllable.f p2) fun t33 =>
         bindD (syllable_Check.f p0 p1 t33.1) fun t34 =>
         bindD (ancepsref15_Check.f p0 p1 p2) fun t35 =>
         some ((t34.1 == t35.1), ())))
       (bindD (api_Syllable.f p2) fun t36 =>
        bindD (syllable_Check.f p0 p1 t36.1) fun t37 =>
        bindD (ancepsref15_Check.f p0 p1 p2) fun t38 =>
        some ((t37.1 == t38.1), ()))))))) := (Einf_call Go.Proofs.C15.ctx 7 _).trans (by kernel_rfl)
theorem ancepslaw15_SyllableCovers.f_eq (p0 : (List Int)) (p1 : (List Int)) : ancepslaw15_SyllableCovers.f p0 p1 =
  bindD (ancepslaw15_awake.f) fun t39 =>
  ifB (!t39.1)
   (bindD (ancepslaw15_awake.f) fun t40 =>
   some (t40.1, ()))
  (ifB (decide ((((List.length p0) : Nat) : Int) > (60 : Int)))
    (bindD (ancepslaw15_awake.f) fun t41 =>
    some (t41.1, ()))
   (ifB (decide ((((List.length p1) : Nat) : Int) > (20 : Int)))
     (bindD (ancepslaw15_awake.f) fun t42 =>
     some (t42.1, ()))
    (bindD (ancepsref15_Made.f p0 p1) fun t43 =>
     bindD (syllable_Divide.f t43.1 t43.2.1) fun t44 =>
     bindD (ancepsref11_Nuclei.f t43.1) fun t45 =>
     ifB (t44.2.1 != (0 : Int))
      (ifB (t44.2.1 == (7 : Int))
       (ifB ((((List.length t45.1) : Nat) : Int) == (0 : Int))
        (some (true, ()))
       (some ((t44.2.1 == (3 : Int)), ())))
      (some ((t44.2.1 == (3 : Int)), ())))
     (ifB ((((List.length t44.1) : Nat) : Int) != (((List.length t45.1) : Nat) : Int))
       (some (false, ()))
      (ancepslaw15_SyllableCovers.l12 (0 : Int) (((List.length t44.1) : Nat) : Int) (0 : Int) t43.1 t45.1 t44.1))))) := (Einf_call Go.Proofs.C15.ctx 6 _).trans (by kernel_rfl)
theorem ancepslaw15_awake.f_eq : ancepslaw15_awake.f =
  bindD (ancepsref11_Parse.f (ByteArray.mk (List.toArray ((97 : UInt8) :: ((47 : UInt8) :: ((118 : UInt8) :: ((51 : UInt8) :: ((32 : UInt8) :: ((114 : UInt8) :: ((47 : UInt8) :: ((108 : UInt8) :: ((32 : UInt8) :: ((109 : UInt8) :: ((47 : UInt8) :: ((110 : UInt8) :: ((32 : UInt8) :: ((97 : UInt8) :: ((47 : UInt8) :: ((118 : UInt8) :: ((51 : UInt8) :: ([] : (List UInt8)))))))))))))))))))))) fun t46 =>
  bindD (ancepsref11_Parse.f (ByteArray.mk (List.toArray ((101 : UInt8) :: ((47 : UInt8) :: ((118 : UInt8) :: ((51 : UInt8) :: ((32 : UInt8) :: ((116 : UInt8) :: ((47 : UInt8) :: ((109 : UInt8) :: ((32 : UInt8) :: ((97 : UInt8) :: ((47 : UInt8) :: ((118 : UInt8) :: ((51 : UInt8) :: ((32 : UInt8) :: ((108 : UInt8) :: ((47 : UInt8) :: ((108 : UInt8) :: ((32 : UInt8) :: ((116 : UInt8) :: ((47 : UInt8) :: ((109 : UInt8) :: ((32 : UInt8) :: ((111 : UInt8) :: ((47 : UInt8) :: ((118 : UInt8) :: ((51 : UInt8) :: ([] : (List UInt8))))))))))))))))))))))))))))))) fun t47 =>
  bindD (syllable_Divide.f t46.1 ([] : (List Int))) fun t48 =>
  bindD (syllable_Text.f t47.1 ((2 : Int) :: ([] : (List Int)))) fun t49 =>
  ifB (t48.2.1 == (0 : Int))
   (ifB ((((List.length t48.1) : Nat) : Int) == (2 : Int))
    (bindD ((ixAt t48.1 (0 : Int))) fun t50 =>
    bindD ((ixAt t48.1 (0 : Int))) fun t51 =>
    ifB (t51.2.1 == (2 : Int))
     (bindD ((ixAt t48.1 (1 : Int))) fun t52 =>
     bindD ((ixAt t48.1 (1 : Int))) fun t53 =>
     ifB t53.2.2.2.2
      (bindD ((ixAt t48.1 (0 : Int))) fun t54 =>
      bindD ((ixAt t48.1 (0 : Int))) fun t55 =>
      ifB (!t55.2.2.2.2)
       (ifB (t49.2.1 == (0 : Int))
        (some (((ByteArray.toList t49.1) == (ByteArray.toList (ByteArray.mk (List.toArray ((101 : UInt8) :: ((46 : UInt8) :: ((116 : UInt8) :: ((95 : UInt8) :: ((97 : UInt8) :: ((108 : UInt8) :: ((46 : UInt8) :: ((116 : UInt8) :: ((111 : UInt8) :: ([] : (List UInt8))))))))))))))), ()))
       (some (false, ())))
      (some (false, ())))
     (some (false, ())))
    (some (false, ())))
   (some (false, ())))
  (some (false, ())) := (Einf_call Go.Proofs.C15.ctx 10 _).trans (by kernel_rfl)
theorem slices_Clone_int_int.f_eq (p0 : (List Int)) : slices_Clone_int_int.f p0 =
  bindD ((Go.Proofs.R.grow (List.length p0))) fun t56 =>
  some (p0, ()) := (Einf_call Go.Proofs.C15.ctx 14 _).trans (by kernel_rfl)
theorem syllable_Word.f_eq (p0 : (List Int)) (p1 : Int) : syllable_Word.f p0 p1 =
  syllable_Word.l3 p1 (0 : Int) p0 (((List.length p0) : Nat) : Int) (0 : Int) := (Einf_call Go.Proofs.C15.ctx 16 _).trans (by kernel_rfl)
theorem ancepsref15_Word.f_eq (p0 : (List Int)) (p1 : Int) : ancepsref15_Word.f p0 p1 =
  ancepsref15_Word.l3 p0 p1 (0 : Int) (0 : Int) := (Einf_call Go.Proofs.C15.ctx 17 _).trans (by kernel_rfl)
theorem ancepsref15_Few.f_eq (p0 : (List (Int × (Int × ByteArray)))) (p1 : (List Int)) : ancepsref15_Few.f p0 p1 =
  bindD (ancepsref11_Few.f p0 (210 : Int)) fun t57 =>
  ifB t57.1
   (some ((decide ((((List.length p1) : Nat) : Int) ≤ (30 : Int))), ()))
  (some (false, ())) := (Einf_call Go.Proofs.C15.ctx 11 _).trans (by kernel_rfl)
theorem api_Sound.f_eq (p0 : (List (Int × (Int × ByteArray)))) : api_Sound.f p0 =
  bindD ((Go.Proofs.R.grow (List.length p0))) fun t58 =>
  some (p0, ()) := (Einf_call Go.Proofs.C15.ctx 13 _).trans (by kernel_rfl)
theorem syllable_Open.f_eq (p0 : (List (Int × (Int × ByteArray)))) (p1 : Int) (p2 : Int) (p3 : Int) (p4 : Int) (p5 : Bool) : syllable_Open.f p0 p1 p2 p3 p4 p5 =
  ifB (decide (p1 < (0 : Int)))
   (some (false, ((1 : Int), ())))
  (ifB (decide (p1 > p3))
    (some (false, ((1 : Int), ())))
   (ifB (decide (p3 ≥ p2))
     (some (false, ((1 : Int), ())))
    (ifB (decide (p2 > (((List.length p0) : Nat) : Int)))
      (some (false, ((1 : Int), ())))
     (bindD ((ixAt p0 p3)) fun t59 =>
      bindD (sound_Nucleus.f t59.1 t59.2.1 t59.2.2) fun t60 =>
      ifB (!t60.1)
       (some (false, ((1 : Int), ())))
      (some ((p3 == (Go.IntKind.wrap Go.IntKind.i64 (p2 - (1 : Int)))), ((0 : Int), ()))))))) := (Einf_call Go.Proofs.C15.ctx 18 _).trans (by kernel_rfl)
theorem ancepsref15_Open.f_eq (p0 : (List (Int × (Int × ByteArray)))) (p1 : Int) (p2 : Int) (p3 : Int) (p4 : Int) (p5 : Bool) : ancepsref15_Open.f p0 p1 p2 p3 p4 p5 =
  ifB (decide (p1 < (0 : Int)))
   (some (false, ((1 : Int), ())))
  (ifB (decide (p1 > p3))
    (some (false, ((1 : Int), ())))
   (ifB (decide (p3 ≥ p2))
     (some (false, ((1 : Int), ())))
    (ifB (decide (p2 > (((List.length p0) : Nat) : Int)))
      (some (false, ((1 : Int), ())))
     (bindD ((ixAt p0 p3)) fun t61 =>
      bindD (ancepsref11_Nucleus.f t61.1 t61.2.1 t61.2.2) fun t62 =>
      ifB (!t62.1)
       (some (false, ((1 : Int), ())))
      (some ((p3 == (Go.IntKind.wrap Go.IntKind.i64 (p2 - (1 : Int)))), ((0 : Int), ()))))))) := (Einf_call Go.Proofs.C15.ctx 19 _).trans (by kernel_rfl)
theorem syllable_Text.f_eq (p0 : (List (Int × (Int × ByteArray)))) (p1 : (List Int)) : syllable_Text.f p0 p1 =
  bindD (syllable_Divide.f p0 p1) fun t63 =>
  ifB (t63.2.1 != (0 : Int))
   (some ((ByteArray.mk (List.toArray ([] : (List UInt8)))), (t63.2.1, ())))
  (syllable_Text.l6 p1 p0 (((List.length p0) : Nat) : Int) (0 : Int) t63.1 ([] : (List Int))) := (Einf_call Go.Proofs.C15.ctx 12 _).trans (by kernel_rfl)
theorem ancepsref15_Text.f_eq (p0 : (List (Int × (Int × ByteArray)))) (p1 : (List Int)) : ancepsref15_Text.f p0 p1 =
  bindD (ancepsref15_Divide.f p0 p1) fun t64 =>
  ifB (t64.2.1 != (0 : Int))
   (some ((ByteArray.mk (List.toArray ([] : (List UInt8)))), (t64.2.1, ())))
  (ancepsref15_Text.l6 p0 p1 (0 : Int) t64.1 ([] : (List Int))) := (Einf_call Go.Proofs.C15.ctx 15 _).trans (by kernel_rfl)
theorem syllable_Divide.f_eq (p0 : (List (Int × (Int × ByteArray)))) (p1 : (List Int)) : syllable_Divide.f p0 p1 =
  bindD (syllable_valid.f p0 p1) fun t65 =>
  ifB (t65.1 != (0 : Int))
   (some (([] : (List (Int × (Int × (Int × (Int × Bool)))))), (t65.1, ())))
  (bindD (sound_Nuclei.f p0) fun t66 =>
   ifB ((((List.length t66.1) : Nat) : Int) == (0 : Int))
    (some (([] : (List (Int × (Int × (Int × (Int × Bool)))))), ((7 : Int), ())))
   (syllable_Divide.l10 p0 p1 (0 : Int) (((List.length t66.1) : Nat) : Int) (0 : Int) t66.1 ([] : (List (Int × (Int × (Int × (Int × Bool)))))))) := (Einf_call Go.Proofs.C15.ctx 21 _).trans (by kernel_rfl)
theorem ancepsref15_Divide.f_eq (p0 : (List (Int × (Int × ByteArray)))) (p1 : (List Int)) : ancepsref15_Divide.f p0 p1 =
  bindD (ancepsref15_Valid.f p0 p1) fun t67 =>
  ifB (t67.1 != (0 : Int))
   (some (([] : (List (Int × (Int × (Int × (Int × Bool)))))), (t67.1, ())))
  (bindD (ancepsref11_Nuclei.f p0) fun t68 =>
   ifB ((((List.length t68.1) : Nat) : Int) == (0 : Int))
    (some (([] : (List (Int × (Int × (Int × (Int × Bool)))))), ((7 : Int), ())))
   (ancepsref15_Divide.l10 p0 p1 (0 : Int) (0 : Int) t68.1 ([] : (List (Int × (Int × (Int × (Int × Bool)))))))) := (Einf_call Go.Proofs.C15.ctx 24 _).trans (by kernel_rfl)
theorem ancepsref15_Same.f_eq (p0 : (List (Int × (Int × (Int × (Int × Bool)))))) (p1 : (List (Int × (Int × (Int × (Int × Bool)))))) : ancepsref15_Same.f p0 p1 =
  ifB ((((List.length p0) : Nat) : Int) != (((List.length p1) : Nat) : Int))
   (some (false, ()))
  (ancepsref15_Same.l4 p0 p1 (0 : Int)) := (Einf_call Go.Proofs.C15.ctx 25 _).trans (by kernel_rfl)
theorem syllable_Check.f_eq (p0 : (List (Int × (Int × ByteArray)))) (p1 : (List Int)) (p2 : (List (Int × (Int × (Int × (Int × Bool)))))) : syllable_Check.f p0 p1 p2 =
  bindD (syllable_Divide.f p0 p1) fun t69 =>
  ifB (t69.2.1 == (0 : Int))
   (bindD (api_Syllable_54.f t69.1 p2) fun t70 =>
   some (t70.1, ()))
  (some (false, ())) := (Einf_call Go.Proofs.C15.ctx 26 _).trans (by kernel_rfl)
theorem api_Syllable.f_eq (p0 : (List (Int × (Int × (Int × (Int × Bool)))))) : api_Syllable.f p0 =
  bindD ((Go.Proofs.R.grow (List.length p0))) fun t71 =>
  some (p0, ()) := (Einf_call Go.Proofs.C15.ctx 27 _).trans (by kernel_rfl)
theorem ancepsref15_Check.f_eq (p0 : (List (Int × (Int × ByteArray)))) (p1 : (List Int)) (p2 : (List (Int × (Int × (Int × (Int × Bool)))))) : ancepsref15_Check.f p0 p1 p2 =
  bindD (ancepsref15_Divide.f p0 p1) fun t72 =>
  ifB (t72.2.1 == (0 : Int))
   (bindD (ancepsref15_Same.f p2 t72.1) fun t73 =>
   some (t73.1, ()))
  (some (false, ())) := (Einf_call Go.Proofs.C15.ctx 28 _).trans (by kernel_rfl)
theorem ancepsref15_Made.f_eq (p0 : (List Int)) (p1 : (List Int)) : ancepsref15_Made.f p0 p1 =
  bindD (ancepsref11_All.f p0) fun t74 =>
  ancepsref15_Made.l4 (0 : Int) p0 p1 t74.1 ([] : (List Int)) := (Einf_call Go.Proofs.C15.ctx 20 _).trans (by kernel_rfl)
theorem ancepsref11_Nuclei.f_eq (p0 : (List (Int × (Int × ByteArray)))) : ancepsref11_Nuclei.f p0 =
  ancepsref11_Nuclei.l3 p0 (0 : Int) ([] : (List Int)) := (Einf_call Go.Proofs.C15.ctx 22 _).trans (by kernel_rfl)
theorem ancepslaw15_SyllableCovers.l12_eq (p0 : Int) (p1 : Int) (p2 : Int) (p3 : (List (Int × (Int × ByteArray)))) (p4 : (List Int)) (p5 : (List (Int × (Int × (Int × (Int × Bool)))))) : ancepslaw15_SyllableCovers.l12 p0 p1 p2 p3 p4 p5 =
  ifB (decide (p2 < p1))
   (bindD ((ixAt p5 p2)) fun t75 =>
   bindD ((ixAt p5 p2)) fun t76 =>
   ifB (t76.1 != p0)
    (some (false, ()))
   (ifB (decide (t76.2.1 ≤ t76.1))
     (some (false, ()))
    (ifB (decide (t76.2.1 > (((List.length p3) : Nat) : Int)))
      (some (false, ()))
     (bindD ((ixAt p4 p2)) fun t77 =>
      bindD ((ixAt p4 p2)) fun t78 =>
      ifB (t76.2.2.1 != t78)
       (some (false, ()))
      (bindD ((subL p3 t76.1 t76.2.1)) fun t79 =>
       bindD (ancepsref11_Nuclei.f t79) fun t80 =>
       ifB ((((List.length t80.1) : Nat) : Int) != (1 : Int))
        (some (false, ()))
       (bindD (syllable_Open.f p3 t76.1 t76.2.1 t76.2.2.1 t76.2.2.2.1 t76.2.2.2.2) fun t81 =>
        ifB (t81.2.1 != (0 : Int))
         (some (false, ()))
        (bindD ((ixAt p3 (Go.IntKind.wrap Go.IntKind.i64 (t76.2.1 - (1 : Int))))) fun t82 =>
         bindD ((ixAt p3 (Go.IntKind.wrap Go.IntKind.i64 (t76.2.1 - (1 : Int))))) fun t83 =>
         bindD (ancepsref11_Nucleus.f t83.1 t83.2.1 t83.2.2) fun t84 =>
         ifB (!(t81.1 == t84.1))
          (some (false, ()))
         (ancepslaw15_SyllableCovers.l12_1 t76.2.1 p1 (Go.IntKind.wrap Go.IntKind.i64 (p2 + (1 : Int))) p3 p4 p5))))))))
  (some ((p0 == (((List.length p3) : Nat) : Int)), ())) := (loopAt_step Go.Proofs.C15.ctx 6 12 _).trans (by kernel_rfl)
theorem ancepsref11_Parse.f_eq (p0 : ByteArray) : ancepsref11_Parse.f p0 =
  ifB (decide ((((ByteArray.size p0) : Nat) : Int) > (4000 : Int)))
   (some (([] : (List (Int × (Int × ByteArray)))), ((3 : Int), ())))
  (ifB ((ByteArray.toList p0) == (ByteArray.toList (ByteArray.mk (List.toArray ([] : (List UInt8))))))
    (some (([] : (List (Int × (Int × ByteArray)))), ((0 : Int), ())))
   (bindD (ancepsref11_split.f p0) fun t85 =>
    ancepsref11_Parse.l8 (0 : Int) ([] : (List (Int × (Int × ByteArray)))) t85.1)) := (Einf_call Go.Proofs.C15.ctx 36 _).trans (by kernel_rfl)
theorem syllable_Word.l3_eq (p0 : Int) (p1 : Int) (p2 : (List Int)) (p3 : Int) (p4 : Int) : syllable_Word.l3 p0 p1 p2 p3 p4 =
  ifB (decide (p4 < p3))
   (bindD ((ixAt p2 p4)) fun t86 =>
   ifB (decide (t86 ≤ p0))
    (syllable_Word.l3 p0 (Go.IntKind.wrap Go.IntKind.i64 (p1 + (1 : Int))) p2 p3 (Go.IntKind.wrap Go.IntKind.i64 (p4 + (1 : Int))))
   (syllable_Word.l3 p0 p1 p2 p3 (Go.IntKind.wrap Go.IntKind.i64 (p4 + (1 : Int)))))
  (some (p1, ())) := (loopAt_step Go.Proofs.C15.ctx 16 3 _).trans (by kernel_rfl)
theorem ancepsref15_Word.l3_eq (p0 : (List Int)) (p1 : Int) (p2 : Int) (p3 : Int) : ancepsref15_Word.l3 p0 p1 p2 p3 =
  ifB (decide (p3 < (((List.length p0) : Nat) : Int)))
   (bindD ((ixAt p0 p3)) fun t87 =>
   ifB (decide (t87 ≤ p1))
    (ancepsref15_Word.l3 p0 p1 (Go.IntKind.wrap Go.IntKind.i64 (p2 + (1 : Int))) (Go.IntKind.wrap Go.IntKind.i64 (p3 + (1 : Int))))
   (ancepsref15_Word.l3 p0 p1 p2 (Go.IntKind.wrap Go.IntKind.i64 (p3 + (1 : Int)))))
  (some (p2, ())) := (loopAt_step Go.Proofs.C15.ctx 17 3 _).trans (by kernel_rfl)
theorem ancepsref11_Few.f_eq (p0 : (List (Int × (Int × ByteArray)))) (p1 : Int) : ancepsref11_Few.f p0 p1 =
  ifB (decide ((((List.length p0) : Nat) : Int) > p1))
   (some (false, ()))
  (ancepsref11_Few.l4 p0 (0 : Int)) := (Einf_call Go.Proofs.C15.ctx 37 _).trans (by kernel_rfl)
theorem sound_Nucleus.f_eq (p0 : Int) (p1 : Int) (p2 : ByteArray) : sound_Nucleus.f p0 p1 p2 =
  ifB (p0 == (1 : Int))
   (some (true, ()))
  (some ((p0 == (2 : Int)), ())) := (Einf_call Go.Proofs.C15.ctx 45 _).trans (by kernel_rfl)
theorem ancepsref11_Nucleus.f_eq (p0 : Int) (p1 : Int) (p2 : ByteArray) : ancepsref11_Nucleus.f p0 p1 p2 =
  ifB (p0 == (1 : Int))
   (some (true, ()))
  (some ((p0 == (2 : Int)), ())) := (Einf_call Go.Proofs.C15.ctx 23 _).trans (by kernel_rfl)
theorem syllable_Text.l6_eq (p0 : (List Int)) (p1 : (List (Int × (Int × ByteArray)))) (p2 : Int) (p3 : Int) (p4 : (List (Int × (Int × (Int × (Int × Bool)))))) (p5 : (List Int)) : syllable_Text.l6 p0 p1 p2 p3 p4 p5 =
  ifB (decide (p3 < p2))
   (bindD ((ixAt p1 p3)) fun t88 =>
   ifB (decide (p3 > (0 : Int)))
    (bindD (api_Syllable_38.f p4 p3) fun t89 =>
    bindD (slices_Contains_int_int.f p0 p3) fun t90 =>
    ifB t89.1
     (ifB t90.1
      (bindD ((Go.Proofs.R.grow ((List.length p5) + (List.length ((32 : Int) :: ([] : (List Int))))))) fun t91 =>
      bindD ((Go.Proofs.R.grow ((List.length (p5 ++ ((32 : Int) :: ([] : (List Int))))) + (List.length (Go.Proofs.R.ints t88.2.2))))) fun t92 =>
      syllable_Text.l6_1 p0 p1 p2 (Go.IntKind.wrap Go.IntKind.i64 (p3 + (1 : Int))) p4 ((p5 ++ ((32 : Int) :: ([] : (List Int)))) ++ (Go.Proofs.R.ints t88.2.2)))
     (ifB t89.1
       (bindD ((Go.Proofs.R.grow ((List.length p5) + (List.length ((46 : Int) :: ([] : (List Int))))))) fun t93 =>
       bindD ((Go.Proofs.R.grow ((List.length (p5 ++ ((46 : Int) :: ([] : (List Int))))) + (List.length (Go.Proofs.R.ints t88.2.2))))) fun t94 =>
       syllable_Text.l6_1 p0 p1 p2 (Go.IntKind.wrap Go.IntKind.i64 (p3 + (1 : Int))) p4 ((p5 ++ ((46 : Int) :: ([] : (List Int)))) ++ (Go.Proofs.R.ints t88.2.2)))
      (ifB t90.1
        (bindD ((Go.Proofs.R.grow ((List.length p5) + (List.length ((95 : Int) :: ([] : (List Int))))))) fun t95 =>
        bindD ((Go.Proofs.R.grow ((List.length (p5 ++ ((95 : Int) :: ([] : (List Int))))) + (List.length (Go.Proofs.R.ints t88.2.2))))) fun t96 =>
        syllable_Text.l6_1 p0 p1 p2 (Go.IntKind.wrap Go.IntKind.i64 (p3 + (1 : Int))) p4 ((p5 ++ ((95 : Int) :: ([] : (List Int)))) ++ (Go.Proofs.R.ints t88.2.2)))
       (bindD ((Go.Proofs.R.grow ((List.length p5) + (List.length (Go.Proofs.R.ints t88.2.2))))) fun t97 =>
        syllable_Text.l6_1 p0 p1 p2 (Go.IntKind.wrap Go.IntKind.i64 (p3 + (1 : Int))) p4 (p5 ++ (Go.Proofs.R.ints t88.2.2))))))
    (ifB t89.1
      (bindD ((Go.Proofs.R.grow ((List.length p5) + (List.length ((46 : Int) :: ([] : (List Int))))))) fun t98 =>
      bindD ((Go.Proofs.R.grow ((List.length (p5 ++ ((46 : Int) :: ([] : (List Int))))) + (List.length (Go.Proofs.R.ints t88.2.2))))) fun t99 =>
      syllable_Text.l6_1 p0 p1 p2 (Go.IntKind.wrap Go.IntKind.i64 (p3 + (1 : Int))) p4 ((p5 ++ ((46 : Int) :: ([] : (List Int)))) ++ (Go.Proofs.R.ints t88.2.2)))
     (ifB t90.1
       (bindD ((Go.Proofs.R.grow ((List.length p5) + (List.length ((95 : Int) :: ([] : (List Int))))))) fun t100 =>
       bindD ((Go.Proofs.R.grow ((List.length (p5 ++ ((95 : Int) :: ([] : (List Int))))) + (List.length (Go.Proofs.R.ints t88.2.2))))) fun t101 =>
       syllable_Text.l6_1 p0 p1 p2 (Go.IntKind.wrap Go.IntKind.i64 (p3 + (1 : Int))) p4 ((p5 ++ ((95 : Int) :: ([] : (List Int)))) ++ (Go.Proofs.R.ints t88.2.2)))
      (bindD ((Go.Proofs.R.grow ((List.length p5) + (List.length (Go.Proofs.R.ints t88.2.2))))) fun t102 =>
       syllable_Text.l6_1 p0 p1 p2 (Go.IntKind.wrap Go.IntKind.i64 (p3 + (1 : Int))) p4 (p5 ++ (Go.Proofs.R.ints t88.2.2))))))
   (bindD ((Go.Proofs.R.grow ((List.length p5) + (List.length (Go.Proofs.R.ints t88.2.2))))) fun t103 =>
    syllable_Text.l6_1 p0 p1 p2 (Go.IntKind.wrap Go.IntKind.i64 (p3 + (1 : Int))) p4 (p5 ++ (Go.Proofs.R.ints t88.2.2))))
  (bindD ((Go.Proofs.R.bytesOf p5)) fun t104 =>
   some (t104, ((0 : Int), ()))) := (loopAt_step Go.Proofs.C15.ctx 12 6 _).trans (by kernel_rfl)
theorem ancepsref15_Text.l6_eq (p0 : (List (Int × (Int × ByteArray)))) (p1 : (List Int)) (p2 : Int) (p3 : (List (Int × (Int × (Int × (Int × Bool)))))) (p4 : (List Int)) : ancepsref15_Text.l6 p0 p1 p2 p3 p4 =
  ifB (decide (p2 < (((List.length p3) : Nat) : Int)))
   (bindD ((ixAt p3 p2)) fun t105 =>
   bindD ((ixAt p3 p2)) fun t106 =>
   bindD ((Go.Proofs.R.grow ((List.length p4) + (List.length (t106.2.1 :: ([] : (List Int))))))) fun t107 =>
   ancepsref15_Text.l6 p0 p1 (Go.IntKind.wrap Go.IntKind.i64 (p2 + (1 : Int))) p3 (p4 ++ (t106.2.1 :: ([] : (List Int)))))
  (ancepsref15_Text.l11 p0 p1 (ByteArray.mk (List.toArray ([] : (List UInt8)))) (0 : Int) p4) := (loopAt_step Go.Proofs.C15.ctx 15 6 _).trans (by kernel_rfl)
theorem syllable_valid.f_eq (p0 : (List (Int × (Int × ByteArray)))) (p1 : (List Int)) : syllable_valid.f p0 p1 =
  ifB (decide ((((List.length p0) : Nat) : Int) > (200 : Int)))
   (some ((3 : Int), ()))
  (syllable_valid.l4 p0 p1 p0 (((List.length p0) : Nat) : Int) (0 : Int)) := (Einf_call Go.Proofs.C15.ctx 47 _).trans (by kernel_rfl)
theorem sound_Nuclei.f_eq (p0 : (List (Int × (Int × ByteArray)))) : sound_Nuclei.f p0 =
  sound_Nuclei.l3 p0 (((List.length p0) : Nat) : Int) (0 : Int) ([] : (List Int)) := (Einf_call Go.Proofs.C15.ctx 48 _).trans (by kernel_rfl)
theorem syllable_Divide.l10_eq (p0 : (List (Int × (Int × ByteArray)))) (p1 : (List Int)) (p2 : Int) (p3 : Int) (p4 : Int) (p5 : (List Int)) (p6 : (List (Int × (Int × (Int × (Int × Bool)))))) : syllable_Divide.l10 p0 p1 p2 p3 p4 p5 p6 =
  ifB (decide (p4 < p3))
   (bindD ((ixAt p5 p4)) fun t108 =>
   bindD ((ixAt p5 p4)) fun t109 =>
   bindD (syllable_Word.f p1 t109) fun t110 =>
   ifB (decide (p4 < (Go.IntKind.wrap Go.IntKind.i64 ((((List.length p5) : Nat) : Int) - (1 : Int)))))
    (bindD (syllable_between.f p0 p1 p5 p4) fun t111 =>
    bindD (cluster_Coda.f t111.1 t111.2.1) fun t112 =>
    ifB (t112.2.1 != (0 : Int))
     (some (([] : (List (Int × (Int × (Int × (Int × Bool)))))), (t112.2.1, ())))
    (bindD ((ixAt p5 (Go.IntKind.wrap Go.IntKind.i64 (p4 + (1 : Int))))) fun t113 =>
     bindD ((ixAt p5 (Go.IntKind.wrap Go.IntKind.i64 (p4 + (1 : Int))))) fun t114 =>
     bindD (syllable_Word.f p1 t114) fun t115 =>
     bindD ((Go.Proofs.R.grow ((List.length p6) + (List.length ((p2, ((Go.IntKind.wrap Go.IntKind.i64 ((Go.IntKind.wrap Go.IntKind.i64 (t109 + (1 : Int))) + t112.1)), (t109, (t110.1, (t115.1 != t110.1))))) :: ([] : (List (Int × (Int × (Int × (Int × Bool))))))))))) fun t116 =>
     syllable_Divide.l10_1 p0 p1 (Go.IntKind.wrap Go.IntKind.i64 ((Go.IntKind.wrap Go.IntKind.i64 (t109 + (1 : Int))) + t112.1)) p3 (Go.IntKind.wrap Go.IntKind.i64 (p4 + (1 : Int))) p5 (p6 ++ ((p2, ((Go.IntKind.wrap Go.IntKind.i64 ((Go.IntKind.wrap Go.IntKind.i64 (t109 + (1 : Int))) + t112.1)), (t109, (t110.1, (t115.1 != t110.1))))) :: ([] : (List (Int × (Int × (Int × (Int × Bool))))))))))
   (bindD ((Go.Proofs.R.grow ((List.length p6) + (List.length ((p2, ((((List.length p0) : Nat) : Int), (t109, (t110.1, true)))) :: ([] : (List (Int × (Int × (Int × (Int × Bool))))))))))) fun t117 =>
    syllable_Divide.l10 p0 p1 (((List.length p0) : Nat) : Int) p3 (Go.IntKind.wrap Go.IntKind.i64 (p4 + (1 : Int))) p5 (p6 ++ ((p2, ((((List.length p0) : Nat) : Int), (t109, (t110.1, true)))) :: ([] : (List (Int × (Int × (Int × (Int × Bool))))))))))
  (some (p6, ((0 : Int), ()))) := (loopAt_step Go.Proofs.C15.ctx 21 10 _).trans (by kernel_rfl)
theorem ancepsref15_Valid.f_eq (p0 : (List (Int × (Int × ByteArray)))) (p1 : (List Int)) : ancepsref15_Valid.f p0 p1 =
  ifB (decide ((((List.length p0) : Nat) : Int) > (200 : Int)))
   (some ((3 : Int), ()))
  (ancepsref15_Valid.l4 p0 p1 (0 : Int)) := (Einf_call Go.Proofs.C15.ctx 51 _).trans (by kernel_rfl)
theorem ancepsref15_Divide.l10_eq (p0 : (List (Int × (Int × ByteArray)))) (p1 : (List Int)) (p2 : Int) (p3 : Int) (p4 : (List Int)) (p5 : (List (Int × (Int × (Int × (Int × Bool)))))) : ancepsref15_Divide.l10 p0 p1 p2 p3 p4 p5 =
  ifB (decide (p3 < (((List.length p4) : Nat) : Int)))
   (bindD ((ixAt p4 p3)) fun t118 =>
   bindD ((ixAt p4 p3)) fun t119 =>
   bindD ((ixAt p4 p3)) fun t120 =>
   bindD ((ixAt p4 p3)) fun t121 =>
   bindD (ancepsref15_Word.f p1 t121) fun t122 =>
   ifB (decide ((Go.IntKind.wrap Go.IntKind.i64 (p3 + (1 : Int))) < (((List.length p4) : Nat) : Int)))
    (bindD ((ixAt p4 p3)) fun t123 =>
    bindD ((ixAt p4 p3)) fun t124 =>
    bindD ((ixAt p4 (Go.IntKind.wrap Go.IntKind.i64 (p3 + (1 : Int))))) fun t125 =>
    bindD ((ixAt p4 (Go.IntKind.wrap Go.IntKind.i64 (p3 + (1 : Int))))) fun t126 =>
    bindD (ancepsref15_cluster.f p0 p1 t124 t126) fun t127 =>
    bindD (ancepsref14_Coda.f t127.1 t127.2.1) fun t128 =>
    ifB (t128.2.1 != (0 : Int))
     (some (([] : (List (Int × (Int × (Int × (Int × Bool)))))), (t128.2.1, ())))
    (bindD ((ixAt p4 p3)) fun t129 =>
     bindD ((ixAt p4 p3)) fun t130 =>
     bindD ((ixAt p4 (Go.IntKind.wrap Go.IntKind.i64 (p3 + (1 : Int))))) fun t131 =>
     bindD ((ixAt p4 (Go.IntKind.wrap Go.IntKind.i64 (p3 + (1 : Int))))) fun t132 =>
     bindD (ancepsref15_Word.f p1 t132) fun t133 =>
     bindD ((Go.Proofs.R.grow ((List.length p5) + (List.length ((p2, ((Go.IntKind.wrap Go.IntKind.i64 ((Go.IntKind.wrap Go.IntKind.i64 (t130 + (1 : Int))) + t128.1)), (t119, (t122.1, (t133.1 != t122.1))))) :: ([] : (List (Int × (Int × (Int × (Int × Bool))))))))))) fun t134 =>
     ancepsref15_Divide.l10 p0 p1 (Go.IntKind.wrap Go.IntKind.i64 ((Go.IntKind.wrap Go.IntKind.i64 (t130 + (1 : Int))) + t128.1)) (Go.IntKind.wrap Go.IntKind.i64 (p3 + (1 : Int))) p4 (p5 ++ ((p2, ((Go.IntKind.wrap Go.IntKind.i64 ((Go.IntKind.wrap Go.IntKind.i64 (t130 + (1 : Int))) + t128.1)), (t119, (t122.1, (t133.1 != t122.1))))) :: ([] : (List (Int × (Int × (Int × (Int × Bool))))))))))
   (bindD ((Go.Proofs.R.grow ((List.length p5) + (List.length ((p2, ((((List.length p0) : Nat) : Int), (t119, (t122.1, true)))) :: ([] : (List (Int × (Int × (Int × (Int × Bool))))))))))) fun t135 =>
    ancepsref15_Divide.l10 p0 p1 (((List.length p0) : Nat) : Int) (Go.IntKind.wrap Go.IntKind.i64 (p3 + (1 : Int))) p4 (p5 ++ ((p2, ((((List.length p0) : Nat) : Int), (t119, (t122.1, true)))) :: ([] : (List (Int × (Int × (Int × (Int × Bool))))))))))
  (some (p5, ((0 : Int), ()))) := (loopAt_step Go.Proofs.C15.ctx 24 10 _).trans (by kernel_rfl)
theorem ancepsref15_Same.l4_eq (p0 : (List (Int × (Int × (Int × (Int × Bool)))))) (p1 : (List (Int × (Int × (Int × (Int × Bool)))))) (p2 : Int) : ancepsref15_Same.l4 p0 p1 p2 =
  ifB (decide (p2 < (((List.length p0) : Nat) : Int)))
   (bindD ((ixAt p0 p2)) fun t136 =>
   bindD ((ixAt p1 p2)) fun t137 =>
   ifB (!((t136.1 == t137.1) && ((t136.2.1 == t137.2.1) && ((t136.2.2.1 == t137.2.2.1) && ((t136.2.2.2.1 == t137.2.2.2.1) && (t136.2.2.2.2 == t137.2.2.2.2))))))
    (some (false, ()))
   (ancepsref15_Same.l4 p0 p1 (Go.IntKind.wrap Go.IntKind.i64 (p2 + (1 : Int)))))
  (some (true, ())) := (loopAt_step Go.Proofs.C15.ctx 25 4 _).trans (by kernel_rfl)
theorem api_Syllable_54.f_eq (p0 : (List (Int × (Int × (Int × (Int × Bool)))))) (p1 : (List (Int × (Int × (Int × (Int × Bool)))))) : api_Syllable_54.f p0 p1 =
  ifB ((((List.length p0) : Nat) : Int) != (((List.length p1) : Nat) : Int))
   (some (false, ()))
  (api_Syllable_54.l4 p0 p1 (((List.length p0) : Nat) : Int) (0 : Int)) := (Einf_call Go.Proofs.C15.ctx 54 _).trans (by kernel_rfl)
theorem ancepsref11_All.f_eq (p0 : (List Int)) : ancepsref11_All.f p0 =
  ancepsref11_All.l3 p0 (0 : Int) ([] : (List (Int × (Int × ByteArray)))) := (Einf_call Go.Proofs.C15.ctx 46 _).trans (by kernel_rfl)
theorem ancepsref15_Made.l4_eq (p0 : Int) (p1 : (List Int)) (p2 : (List Int)) (p3 : (List (Int × (Int × ByteArray)))) (p4 : (List Int)) : ancepsref15_Made.l4 p0 p1 p2 p3 p4 =
  ifB (decide (p0 ≤ (((List.length p3) : Nat) : Int)))
   (ancepsref15_Made.l7 p0 (0 : Int) p1 p2 p3 p4)
  (some (p3, (p4, ()))) := (loopAt_step Go.Proofs.C15.ctx 20 4 _).trans (by kernel_rfl)
theorem ancepsref11_Nuclei.l3_eq (p0 : (List (Int × (Int × ByteArray)))) (p1 : Int) (p2 : (List Int)) : ancepsref11_Nuclei.l3 p0 p1 p2 =
  ifB (decide (p1 < (((List.length p0) : Nat) : Int)))
   (bindD ((ixAt p0 p1)) fun t138 =>
   bindD (ancepsref11_Nucleus.f t138.1 t138.2.1 t138.2.2) fun t139 =>
   ifB t139.1
    (bindD ((Go.Proofs.R.grow ((List.length p2) + (List.length (p1 :: ([] : (List Int))))))) fun t140 =>
    ancepsref11_Nuclei.l3 p0 (Go.IntKind.wrap Go.IntKind.i64 (p1 + (1 : Int))) (p2 ++ (p1 :: ([] : (List Int)))))
   (ancepsref11_Nuclei.l3 p0 (Go.IntKind.wrap Go.IntKind.i64 (p1 + (1 : Int))) p2))
  (some (p2, ())) := (loopAt_step Go.Proofs.C15.ctx 22 3 _).trans (by kernel_rfl)
theorem ancepslaw15_SyllableCovers.l12_1_eq (p0 : Int) (p1 : Int) (p2 : Int) (p3 : (List (Int × (Int × ByteArray)))) (p4 : (List Int)) (p5 : (List (Int × (Int × (Int × (Int × Bool)))))) : ancepslaw15_SyllableCovers.l12_1 p0 p1 p2 p3 p4 p5 =
  ifB (decide (p2 < p1))
   (bindD ((ixAt p5 p2)) fun t141 =>
   bindD ((ixAt p5 p2)) fun t142 =>
   ifB (t142.1 != p0)
    (some (false, ()))
   (ifB (decide (t142.2.1 ≤ t142.1))
     (some (false, ()))
    (ifB (decide (t142.2.1 > (((List.length p3) : Nat) : Int)))
      (some (false, ()))
     (bindD ((ixAt p4 p2)) fun t143 =>
      bindD ((ixAt p4 p2)) fun t144 =>
      ifB (t142.2.2.1 != t144)
       (some (false, ()))
      (bindD ((subL p3 t142.1 t142.2.1)) fun t145 =>
       bindD (ancepsref11_Nuclei.f t145) fun t146 =>
       ifB ((((List.length t146.1) : Nat) : Int) != (1 : Int))
        (some (false, ()))
       (bindD (syllable_Open.f p3 t142.1 t142.2.1 t142.2.2.1 t142.2.2.2.1 t142.2.2.2.2) fun t147 =>
        ifB (t147.2.1 != (0 : Int))
         (some (false, ()))
        (bindD ((ixAt p3 (Go.IntKind.wrap Go.IntKind.i64 (t142.2.1 - (1 : Int))))) fun t148 =>
         bindD ((ixAt p3 (Go.IntKind.wrap Go.IntKind.i64 (t142.2.1 - (1 : Int))))) fun t149 =>
         bindD (ancepsref11_Nucleus.f t149.1 t149.2.1 t149.2.2) fun t150 =>
         ifB (!(t147.1 == t150.1))
          (some (false, ()))
         (ancepslaw15_SyllableCovers.l12_1 t142.2.1 p1 (Go.IntKind.wrap Go.IntKind.i64 (p2 + (1 : Int))) p3 p4 p5))))))))
  (some ((p0 == (((List.length p3) : Nat) : Int)), ())) := (loopAt_step Go.Proofs.C15.ctx 6 12 _).trans (by kernel_rfl)
theorem ancepsref11_split.f_eq (p0 : ByteArray) : ancepsref11_split.f p0 =
  ancepsref11_split.l3 p0 (0 : Int) ((ByteArray.mk (List.toArray ([] : (List UInt8)))) :: ([] : (List ByteArray))) := (Einf_call Go.Proofs.C15.ctx 58 _).trans (by kernel_rfl)
theorem ancepsref11_Parse.l8_eq (p0 : Int) (p1 : (List (Int × (Int × ByteArray)))) (p2 : (List ByteArray)) : ancepsref11_Parse.l8 p0 p1 p2 =
  ifB (decide (p0 < (((List.length p2) : Nat) : Int)))
   (bindD ((ixAt p2 p0)) fun t151 =>
   bindD ((ixAt p2 p0)) fun t152 =>
   bindD (ancepsref11_one.f t152) fun t153 =>
   ifB (!t153.2.2.2.1)
    (some (([] : (List (Int × (Int × ByteArray)))), ((2 : Int), ())))
   (bindD ((Go.Proofs.R.grow ((List.length p1) + (List.length ((t153.1, (t153.2.1, t153.2.2.1)) :: ([] : (List (Int × (Int × ByteArray))))))))) fun t154 =>
    ancepsref11_Parse.l8 (Go.IntKind.wrap Go.IntKind.i64 (p0 + (1 : Int))) (p1 ++ ((t153.1, (t153.2.1, t153.2.2.1)) :: ([] : (List (Int × (Int × ByteArray)))))) p2))
  (ifB (decide ((((List.length p1) : Nat) : Int) > (200 : Int)))
    (some (([] : (List (Int × (Int × ByteArray)))), ((2 : Int), ())))
   (some (p1, ((0 : Int), ())))) := (loopAt_step Go.Proofs.C15.ctx 36 8 _).trans (by kernel_rfl)
theorem ancepsref11_Few.l4_eq (p0 : (List (Int × (Int × ByteArray)))) (p1 : Int) : ancepsref11_Few.l4 p0 p1 =
  ifB (decide (p1 < (((List.length p0) : Nat) : Int)))
   (bindD ((ixAt p0 p1)) fun t155 =>
   ifB (decide ((((ByteArray.size t155.2.2) : Nat) : Int) > (40 : Int)))
    (some (false, ()))
   (ancepsref11_Few.l4 p0 (Go.IntKind.wrap Go.IntKind.i64 (p1 + (1 : Int)))))
  (some (true, ())) := (loopAt_step Go.Proofs.C15.ctx 37 4 _).trans (by kernel_rfl)
theorem api_Syllable_38.f_eq (p0 : (List (Int × (Int × (Int × (Int × Bool)))))) (p1 : Int) : api_Syllable_38.f p0 p1 =
  bindD (api_Syllable_60.f p0 p1) fun t156 =>
  some ((decide (t156.1 ≥ (0 : Int))), ()) := (Einf_call Go.Proofs.C15.ctx 38 _).trans (by kernel_rfl)
theorem slices_Contains_int_int.f_eq (p0 : (List Int)) (p1 : Int) : slices_Contains_int_int.f p0 p1 =
  bindD (slices_Index_int_int.f p0 p1) fun t157 =>
  some ((decide (t157.1 ≥ (0 : Int))), ()) := (Einf_call Go.Proofs.C15.ctx 40 _).trans (by kernel_rfl)
theorem syllable_Text.l6_1_eq (p0 : (List Int)) (p1 : (List (Int × (Int × ByteArray)))) (p2 : Int) (p3 : Int) (p4 : (List (Int × (Int × (Int × (Int × Bool)))))) (p5 : (List Int)) : syllable_Text.l6_1 p0 p1 p2 p3 p4 p5 =
  ifB (decide (p3 < p2))
   (bindD ((ixAt p1 p3)) fun t158 =>
   ifB (decide (p3 > (0 : Int)))
    (bindD (api_Syllable_38.f p4 p3) fun t159 =>
    bindD (slices_Contains_int_int.f p0 p3) fun t160 =>
    ifB t159.1
     (ifB t160.1
      (bindD ((Go.Proofs.R.grow ((List.length p5) + (List.length ((32 : Int) :: ([] : (List Int))))))) fun t161 =>
      bindD ((Go.Proofs.R.grow ((List.length (p5 ++ ((32 : Int) :: ([] : (List Int))))) + (List.length (Go.Proofs.R.ints t158.2.2))))) fun t162 =>
      syllable_Text.l6_1 p0 p1 p2 (Go.IntKind.wrap Go.IntKind.i64 (p3 + (1 : Int))) p4 ((p5 ++ ((32 : Int) :: ([] : (List Int)))) ++ (Go.Proofs.R.ints t158.2.2)))
     (ifB t159.1
       (bindD ((Go.Proofs.R.grow ((List.length p5) + (List.length ((46 : Int) :: ([] : (List Int))))))) fun t163 =>
       bindD ((Go.Proofs.R.grow ((List.length (p5 ++ ((46 : Int) :: ([] : (List Int))))) + (List.length (Go.Proofs.R.ints t158.2.2))))) fun t164 =>
       syllable_Text.l6_1 p0 p1 p2 (Go.IntKind.wrap Go.IntKind.i64 (p3 + (1 : Int))) p4 ((p5 ++ ((46 : Int) :: ([] : (List Int)))) ++ (Go.Proofs.R.ints t158.2.2)))
      (ifB t160.1
        (bindD ((Go.Proofs.R.grow ((List.length p5) + (List.length ((95 : Int) :: ([] : (List Int))))))) fun t165 =>
        bindD ((Go.Proofs.R.grow ((List.length (p5 ++ ((95 : Int) :: ([] : (List Int))))) + (List.length (Go.Proofs.R.ints t158.2.2))))) fun t166 =>
        syllable_Text.l6_1 p0 p1 p2 (Go.IntKind.wrap Go.IntKind.i64 (p3 + (1 : Int))) p4 ((p5 ++ ((95 : Int) :: ([] : (List Int)))) ++ (Go.Proofs.R.ints t158.2.2)))
       (bindD ((Go.Proofs.R.grow ((List.length p5) + (List.length (Go.Proofs.R.ints t158.2.2))))) fun t167 =>
        syllable_Text.l6_1 p0 p1 p2 (Go.IntKind.wrap Go.IntKind.i64 (p3 + (1 : Int))) p4 (p5 ++ (Go.Proofs.R.ints t158.2.2))))))
    (ifB t159.1
      (bindD ((Go.Proofs.R.grow ((List.length p5) + (List.length ((46 : Int) :: ([] : (List Int))))))) fun t168 =>
      bindD ((Go.Proofs.R.grow ((List.length (p5 ++ ((46 : Int) :: ([] : (List Int))))) + (List.length (Go.Proofs.R.ints t158.2.2))))) fun t169 =>
      syllable_Text.l6_1 p0 p1 p2 (Go.IntKind.wrap Go.IntKind.i64 (p3 + (1 : Int))) p4 ((p5 ++ ((46 : Int) :: ([] : (List Int)))) ++ (Go.Proofs.R.ints t158.2.2)))
     (ifB t160.1
       (bindD ((Go.Proofs.R.grow ((List.length p5) + (List.length ((95 : Int) :: ([] : (List Int))))))) fun t170 =>
       bindD ((Go.Proofs.R.grow ((List.length (p5 ++ ((95 : Int) :: ([] : (List Int))))) + (List.length (Go.Proofs.R.ints t158.2.2))))) fun t171 =>
       syllable_Text.l6_1 p0 p1 p2 (Go.IntKind.wrap Go.IntKind.i64 (p3 + (1 : Int))) p4 ((p5 ++ ((95 : Int) :: ([] : (List Int)))) ++ (Go.Proofs.R.ints t158.2.2)))
      (bindD ((Go.Proofs.R.grow ((List.length p5) + (List.length (Go.Proofs.R.ints t158.2.2))))) fun t172 =>
       syllable_Text.l6_1 p0 p1 p2 (Go.IntKind.wrap Go.IntKind.i64 (p3 + (1 : Int))) p4 (p5 ++ (Go.Proofs.R.ints t158.2.2))))))
   (bindD ((Go.Proofs.R.grow ((List.length p5) + (List.length (Go.Proofs.R.ints t158.2.2))))) fun t173 =>
    syllable_Text.l6_1 p0 p1 p2 (Go.IntKind.wrap Go.IntKind.i64 (p3 + (1 : Int))) p4 (p5 ++ (Go.Proofs.R.ints t158.2.2))))
  (bindD ((Go.Proofs.R.bytesOf p5)) fun t174 =>
   some (t174, ((0 : Int), ()))) := (loopAt_step Go.Proofs.C15.ctx 12 6 _).trans (by kernel_rfl)
theorem ancepsref15_Text.l11_eq (p0 : (List (Int × (Int × ByteArray)))) (p1 : (List Int)) (p2 : ByteArray) (p3 : Int) (p4 : (List Int)) : ancepsref15_Text.l11 p0 p1 p2 p3 p4 =
  ifB (decide (p3 < (((List.length p0) : Nat) : Int)))
   (bindD (ancepsref15_in.f p4 p3) fun t175 =>
   bindD (ancepsref15_in.f p1 p3) fun t176 =>
   ifB (decide (p3 > (0 : Int)))
    (ifB t175.1
     (ifB t176.1
      (bindD ((Go.Proofs.R.grow ((ByteArray.size p2) + (ByteArray.size (ByteArray.mk (List.toArray ((32 : UInt8) :: ([] : (List UInt8))))))))) fun t177 =>
      ifB (decide (p3 > (0 : Int)))
       (ifB t175.1
        (ifB (!t176.1)
         (bindD ((Go.Proofs.R.grow ((ByteArray.size (p2 ++ (ByteArray.mk (List.toArray ((32 : UInt8) :: ([] : (List UInt8))))))) + (ByteArray.size (ByteArray.mk (List.toArray ((46 : UInt8) :: ([] : (List UInt8))))))))) fun t178 =>
         ifB (decide (p3 > (0 : Int)))
          (ifB (!t175.1)
           (ifB t176.1
            (bindD ((Go.Proofs.R.grow ((ByteArray.size ((p2 ++ (ByteArray.mk (List.toArray ((32 : UInt8) :: ([] : (List UInt8)))))) ++ (ByteArray.mk (List.toArray ((46 : UInt8) :: ([] : (List UInt8))))))) + (ByteArray.size (ByteArray.mk (List.toArray ((95 : UInt8) :: ([] : (List UInt8))))))))) fun t179 =>
            bindD ((ixAt p0 p3)) fun t180 =>
            bindD ((Go.Proofs.R.grow ((ByteArray.size (((p2 ++ (ByteArray.mk (List.toArray ((32 : UInt8) :: ([] : (List UInt8)))))) ++ (ByteArray.mk (List.toArray ((46 : UInt8) :: ([] : (List UInt8)))))) ++ (ByteArray.mk (List.toArray ((95 : UInt8) :: ([] : (List UInt8))))))) + (ByteArray.size t180.2.2)))) fun t181 =>
            ancepsref15_Text.l11 p0 p1 ((((p2 ++ (ByteArray.mk (List.toArray ((32 : UInt8) :: ([] : (List UInt8)))))) ++ (ByteArray.mk (List.toArray ((46 : UInt8) :: ([] : (List UInt8)))))) ++ (ByteArray.mk (List.toArray ((95 : UInt8) :: ([] : (List UInt8)))))) ++ t180.2.2) (Go.IntKind.wrap Go.IntKind.i64 (p3 + (1 : Int))) p4)
           (bindD ((ixAt p0 p3)) fun t182 =>
            bindD ((Go.Proofs.R.grow ((ByteArray.size ((p2 ++ (ByteArray.mk (List.toArray ((32 : UInt8) :: ([] : (List UInt8)))))) ++ (ByteArray.mk (List.toArray ((46 : UInt8) :: ([] : (List UInt8))))))) + (ByteArray.size t182.2.2)))) fun t183 =>
            ancepsref15_Text.l11 p0 p1 (((p2 ++ (ByteArray.mk (List.toArray ((32 : UInt8) :: ([] : (List UInt8)))))) ++ (ByteArray.mk (List.toArray ((46 : UInt8) :: ([] : (List UInt8)))))) ++ t182.2.2) (Go.IntKind.wrap Go.IntKind.i64 (p3 + (1 : Int))) p4))
          (bindD ((ixAt p0 p3)) fun t184 =>
           bindD ((Go.Proofs.R.grow ((ByteArray.size ((p2 ++ (ByteArray.mk (List.toArray ((32 : UInt8) :: ([] : (List UInt8)))))) ++ (ByteArray.mk (List.toArray ((46 : UInt8) :: ([] : (List UInt8))))))) + (ByteArray.size t184.2.2)))) fun t185 =>
           ancepsref15_Text.l11 p0 p1 (((p2 ++ (ByteArray.mk (List.toArray ((32 : UInt8) :: ([] : (List UInt8)))))) ++ (ByteArray.mk (List.toArray ((46 : UInt8) :: ([] : (List UInt8)))))) ++ t184.2.2) (Go.IntKind.wrap Go.IntKind.i64 (p3 + (1 : Int))) p4))
         (bindD ((ixAt p0 p3)) fun t186 =>
          bindD ((Go.Proofs.R.grow ((ByteArray.size ((p2 ++ (ByteArray.mk (List.toArray ((32 : UInt8) :: ([] : (List UInt8)))))) ++ (ByteArray.mk (List.toArray ((46 : UInt8) :: ([] : (List UInt8))))))) + (ByteArray.size t186.2.2)))) fun t187 =>
          ancepsref15_Text.l11 p0 p1 (((p2 ++ (ByteArray.mk (List.toArray ((32 : UInt8) :: ([] : (List UInt8)))))) ++ (ByteArray.mk (List.toArray ((46 : UInt8) :: ([] : (List UInt8)))))) ++ t186.2.2) (Go.IntKind.wrap Go.IntKind.i64 (p3 + (1 : Int))) p4))
        (ifB (decide (p3 > (0 : Int)))
          (ifB (!t175.1)
           (ifB t176.1
            (bindD ((Go.Proofs.R.grow ((ByteArray.size (p2 ++ (ByteArray.mk (List.toArray ((32 : UInt8) :: ([] : (List UInt8))))))) + (ByteArray.size (ByteArray.mk (List.toArray ((95 : UInt8) :: ([] : (List UInt8))))))))) fun t188 =>
            bindD ((ixAt p0 p3)) fun t189 =>
            bindD ((Go.Proofs.R.grow ((ByteArray.size ((p2 ++ (ByteArray.mk (List.toArray ((32 : UInt8) :: ([] : (List UInt8)))))) ++ (ByteArray.mk (List.toArray ((95 : UInt8) :: ([] : (List UInt8))))))) + (ByteArray.size t189.2.2)))) fun t190 =>
            ancepsref15_Text.l11 p0 p1 (((p2 ++ (ByteArray.mk (List.toArray ((32 : UInt8) :: ([] : (List UInt8)))))) ++ (ByteArray.mk (List.toArray ((95 : UInt8) :: ([] : (List UInt8)))))) ++ t189.2.2) (Go.IntKind.wrap Go.IntKind.i64 (p3 + (1 : Int))) p4)
           (bindD ((ixAt p0 p3)) fun t191 =>
            bindD ((Go.Proofs.R.grow ((ByteArray.size (p2 ++ (ByteArray.mk (List.toArray ((32 : UInt8) :: ([] : (List UInt8))))))) + (ByteArray.size t191.2.2)))) fun t192 =>
            ancepsref15_Text.l11 p0 p1 ((p2 ++ (ByteArray.mk (List.toArray ((32 : UInt8) :: ([] : (List UInt8)))))) ++ t191.2.2) (Go.IntKind.wrap Go.IntKind.i64 (p3 + (1 : Int))) p4))
          (bindD ((ixAt p0 p3)) fun t193 =>
           bindD ((Go.Proofs.R.grow ((ByteArray.size (p2 ++ (ByteArray.mk (List.toArray ((32 : UInt8) :: ([] : (List UInt8))))))) + (ByteArray.size t193.2.2)))) fun t194 =>
           ancepsref15_Text.l11 p0 p1 ((p2 ++ (ByteArray.mk (List.toArray ((32 : UInt8) :: ([] : (List UInt8)))))) ++ t193.2.2) (Go.IntKind.wrap Go.IntKind.i64 (p3 + (1 : Int))) p4))
         (bindD ((ixAt p0 p3)) fun t195 =>
          bindD ((Go.Proofs.R.grow ((ByteArray.size (p2 ++ (ByteArray.mk (List.toArray ((32 : UInt8) :: ([] : (List UInt8))))))) + (ByteArray.size t195.2.2)))) fun t196 =>
          ancepsref15_Text.l11 p0 p1 ((p2 ++ (ByteArray.mk (List.toArray ((32 : UInt8) :: ([] : (List UInt8)))))) ++ t195.2.2) (Go.IntKind.wrap Go.IntKind.i64 (p3 + (1 : Int))) p4)))
       (ifB (decide (p3 > (0 : Int)))
         (ifB (!t175.1)
          (ifB t176.1
           (bindD ((Go.Proofs.R.grow ((ByteArray.size (p2 ++ (ByteArray.mk (List.toArray ((32 : UInt8) :: ([] : (List UInt8))))))) + (ByteArray.size (ByteArray.mk (List.toArray ((95 : UInt8) :: ([] : (List UInt8))))))))) fun t197 =>
           bindD ((ixAt p0 p3)) fun t198 =>
           bindD ((Go.Proofs.R.grow ((ByteArray.size ((p2 ++ (ByteArray.mk (List.toArray ((32 : UInt8) :: ([] : (List UInt8)))))) ++ (ByteArray.mk (List.toArray ((95 : UInt8) :: ([] : (List UInt8))))))) + (ByteArray.size t198.2.2)))) fun t199 =>
           ancepsref15_Text.l11 p0 p1 (((p2 ++ (ByteArray.mk (List.toArray ((32 : UInt8) :: ([] : (List UInt8)))))) ++ (ByteArray.mk (List.toArray ((95 : UInt8) :: ([] : (List UInt8)))))) ++ t198.2.2) (Go.IntKind.wrap Go.IntKind.i64 (p3 + (1 : Int))) p4)
          (bindD ((ixAt p0 p3)) fun t200 =>
           bindD ((Go.Proofs.R.grow ((ByteArray.size (p2 ++ (ByteArray.mk (List.toArray ((32 : UInt8) :: ([] : (List UInt8))))))) + (ByteArray.size t200.2.2)))) fun t201 =>
           ancepsref15_Text.l11 p0 p1 ((p2 ++ (ByteArray.mk (List.toArray ((32 : UInt8) :: ([] : (List UInt8)))))) ++ t200.2.2) (Go.IntKind.wrap Go.IntKind.i64 (p3 + (1 : Int))) p4))
         (bindD ((ixAt p0 p3)) fun t202 =>
          bindD ((Go.Proofs.R.grow ((ByteArray.size (p2 ++ (ByteArray.mk (List.toArray ((32 : UInt8) :: ([] : (List UInt8))))))) + (ByteArray.size t202.2.2)))) fun t203 =>
          ancepsref15_Text.l11 p0 p1 ((p2 ++ (ByteArray.mk (List.toArray ((32 : UInt8) :: ([] : (List UInt8)))))) ++ t202.2.2) (Go.IntKind.wrap Go.IntKind.i64 (p3 + (1 : Int))) p4))
        (bindD ((ixAt p0 p3)) fun t204 =>
         bindD ((Go.Proofs.R.grow ((ByteArray.size (p2 ++ (ByteArray.mk (List.toArray ((32 : UInt8) :: ([] : (List UInt8))))))) + (ByteArray.size t204.2.2)))) fun t205 =>
         ancepsref15_Text.l11 p0 p1 ((p2 ++ (ByteArray.mk (List.toArray ((32 : UInt8) :: ([] : (List UInt8)))))) ++ t204.2.2) (Go.IntKind.wrap Go.IntKind.i64 (p3 + (1 : Int))) p4)))
      (ifB (decide (p3 > (0 : Int)))
        (ifB (!t175.1)
         (ifB t176.1
          (bindD ((Go.Proofs.R.grow ((ByteArray.size (p2 ++ (ByteArray.mk (List.toArray ((32 : UInt8) :: ([] : (List UInt8))))))) + (ByteArray.size (ByteArray.mk (List.toArray ((95 : UInt8) :: ([] : (List UInt8))))))))) fun t206 =>
          bindD ((ixAt p0 p3)) fun t207 =>
          bindD ((Go.Proofs.R.grow ((ByteArray.size ((p2 ++ (ByteArray.mk (List.toArray ((32 : UInt8) :: ([] : (List UInt8)))))) ++ (ByteArray.mk (List.toArray ((95 : UInt8) :: ([] : (List UInt8))))))) + (ByteArray.size t207.2.2)))) fun t208 =>
          ancepsref15_Text.l11 p0 p1 (((p2 ++ (ByteArray.mk (List.toArray ((32 : UInt8) :: ([] : (List UInt8)))))) ++ (ByteArray.mk (List.toArray ((95 : UInt8) :: ([] : (List UInt8)))))) ++ t207.2.2) (Go.IntKind.wrap Go.IntKind.i64 (p3 + (1 : Int))) p4)
         (bindD ((ixAt p0 p3)) fun t209 =>
          bindD ((Go.Proofs.R.grow ((ByteArray.size (p2 ++ (ByteArray.mk (List.toArray ((32 : UInt8) :: ([] : (List UInt8))))))) + (ByteArray.size t209.2.2)))) fun t210 =>
          ancepsref15_Text.l11 p0 p1 ((p2 ++ (ByteArray.mk (List.toArray ((32 : UInt8) :: ([] : (List UInt8)))))) ++ t209.2.2) (Go.IntKind.wrap Go.IntKind.i64 (p3 + (1 : Int))) p4))
        (bindD ((ixAt p0 p3)) fun t211 =>
         bindD ((Go.Proofs.R.grow ((ByteArray.size (p2 ++ (ByteArray.mk (List.toArray ((32 : UInt8) :: ([] : (List UInt8))))))) + (ByteArray.size t211.2.2)))) fun t212 =>
         ancepsref15_Text.l11 p0 p1 ((p2 ++ (ByteArray.mk (List.toArray ((32 : UInt8) :: ([] : (List UInt8)))))) ++ t211.2.2) (Go.IntKind.wrap Go.IntKind.i64 (p3 + (1 : Int))) p4))
       (bindD ((ixAt p0 p3)) fun t213 =>
        bindD ((Go.Proofs.R.grow ((ByteArray.size (p2 ++ (ByteArray.mk (List.toArray ((32 : UInt8) :: ([] : (List UInt8))))))) + (ByteArray.size t213.2.2)))) fun t214 =>
        ancepsref15_Text.l11 p0 p1 ((p2 ++ (ByteArray.mk (List.toArray ((32 : UInt8) :: ([] : (List UInt8)))))) ++ t213.2.2) (Go.IntKind.wrap Go.IntKind.i64 (p3 + (1 : Int))) p4)))
     (ifB (decide (p3 > (0 : Int)))
       (ifB t175.1
        (ifB (!t176.1)
         (bindD ((Go.Proofs.R.grow ((ByteArray.size p2) + (ByteArray.size (ByteArray.mk (List.toArray ((46 : UInt8) :: ([] : (List UInt8))))))))) fun t215 =>
         ifB (decide (p3 > (0 : Int)))
          (ifB (!t175.1)
           (ifB t176.1
            (bindD ((Go.Proofs.R.grow ((ByteArray.size (p2 ++ (ByteArray.mk (List.toArray ((46 : UInt8) :: ([] : (List UInt8))))))) + (ByteArray.size (ByteArray.mk (List.toArray ((95 : UInt8) :: ([] : (List UInt8))))))))) fun t216 =>
            bindD ((ixAt p0 p3)) fun t217 =>
            bindD ((Go.Proofs.R.grow ((ByteArray.size ((p2 ++ (ByteArray.mk (List.toArray ((46 : UInt8) :: ([] : (List UInt8)))))) ++ (ByteArray.mk (List.toArray ((95 : UInt8) :: ([] : (List UInt8))))))) + (ByteArray.size t217.2.2)))) fun t218 =>
            ancepsref15_Text.l11 p0 p1 (((p2 ++ (ByteArray.mk (List.toArray ((46 : UInt8) :: ([] : (List UInt8)))))) ++ (ByteArray.mk (List.toArray ((95 : UInt8) :: ([] : (List UInt8)))))) ++ t217.2.2) (Go.IntKind.wrap Go.IntKind.i64 (p3 + (1 : Int))) p4)
           (bindD ((ixAt p0 p3)) fun t219 =>
            bindD ((Go.Proofs.R.grow ((ByteArray.size (p2 ++ (ByteArray.mk (List.toArray ((46 : UInt8) :: ([] : (List UInt8))))))) + (ByteArray.size t219.2.2)))) fun t220 =>
            ancepsref15_Text.l11 p0 p1 ((p2 ++ (ByteArray.mk (List.toArray ((46 : UInt8) :: ([] : (List UInt8)))))) ++ t219.2.2) (Go.IntKind.wrap Go.IntKind.i64 (p3 + (1 : Int))) p4))
          (bindD ((ixAt p0 p3)) fun t221 =>
           bindD ((Go.Proofs.R.grow ((ByteArray.size (p2 ++ (ByteArray.mk (List.toArray ((46 : UInt8) :: ([] : (List UInt8))))))) + (ByteArray.size t221.2.2)))) fun t222 =>
           ancepsref15_Text.l11 p0 p1 ((p2 ++ (ByteArray.mk (List.toArray ((46 : UInt8) :: ([] : (List UInt8)))))) ++ t221.2.2) (Go.IntKind.wrap Go.IntKind.i64 (p3 + (1 : Int))) p4))
         (bindD ((ixAt p0 p3)) fun t223 =>
          bindD ((Go.Proofs.R.grow ((ByteArray.size (p2 ++ (ByteArray.mk (List.toArray ((46 : UInt8) :: ([] : (List UInt8))))))) + (ByteArray.size t223.2.2)))) fun t224 =>
          ancepsref15_Text.l11 p0 p1 ((p2 ++ (ByteArray.mk (List.toArray ((46 : UInt8) :: ([] : (List UInt8)))))) ++ t223.2.2) (Go.IntKind.wrap Go.IntKind.i64 (p3 + (1 : Int))) p4))
        (ifB (decide (p3 > (0 : Int)))
          (ifB (!t175.1)
           (ifB t176.1
            (bindD ((Go.Proofs.R.grow ((ByteArray.size p2) + (ByteArray.size (ByteArray.mk (List.toArray ((95 : UInt8) :: ([] : (List UInt8))))))))) fun t225 =>
            bindD ((ixAt p0 p3)) fun t226 =>
            bindD ((Go.Proofs.R.grow ((ByteArray.size (p2 ++ (ByteArray.mk (List.toArray ((95 : UInt8) :: ([] : (List UInt8))))))) + (ByteArray.size t226.2.2)))) fun t227 =>
            ancepsref15_Text.l11 p0 p1 ((p2 ++ (ByteArray.mk (List.toArray ((95 : UInt8) :: ([] : (List UInt8)))))) ++ t226.2.2) (Go.IntKind.wrap Go.IntKind.i64 (p3 + (1 : Int))) p4)
           (bindD ((ixAt p0 p3)) fun t228 =>
            bindD ((Go.Proofs.R.grow ((ByteArray.size p2) + (ByteArray.size t228.2.2)))) fun t229 =>
            ancepsref15_Text.l11 p0 p1 (p2 ++ t228.2.2) (Go.IntKind.wrap Go.IntKind.i64 (p3 + (1 : Int))) p4))
          (bindD ((ixAt p0 p3)) fun t230 =>
           bindD ((Go.Proofs.R.grow ((ByteArray.size p2) + (ByteArray.size t230.2.2)))) fun t231 =>
           ancepsref15_Text.l11 p0 p1 (p2 ++ t230.2.2) (Go.IntKind.wrap Go.IntKind.i64 (p3 + (1 : Int))) p4))
         (bindD ((ixAt p0 p3)) fun t232 =>
          bindD ((Go.Proofs.R.grow ((ByteArray.size p2) + (ByteArray.size t232.2.2)))) fun t233 =>
          ancepsref15_Text.l11 p0 p1 (p2 ++ t232.2.2) (Go.IntKind.wrap Go.IntKind.i64 (p3 + (1 : Int))) p4)))
       (ifB (decide (p3 > (0 : Int)))
         (ifB (!t175.1)
          (ifB t176.1
           (bindD ((Go.Proofs.R.grow ((ByteArray.size p2) + (ByteArray.size (ByteArray.mk (List.toArray ((95 : UInt8) :: ([] : (List UInt8))))))))) fun t234 =>
           bindD ((ixAt p0 p3)) fun t235 =>
           bindD ((Go.Proofs.R.grow ((ByteArray.size (p2 ++ (ByteArray.mk (List.toArray ((95 : UInt8) :: ([] : (List UInt8))))))) + (ByteArray.size t235.2.2)))) fun t236 =>
           ancepsref15_Text.l11 p0 p1 ((p2 ++ (ByteArray.mk (List.toArray ((95 : UInt8) :: ([] : (List UInt8)))))) ++ t235.2.2) (Go.IntKind.wrap Go.IntKind.i64 (p3 + (1 : Int))) p4)
          (bindD ((ixAt p0 p3)) fun t237 =>
           bindD ((Go.Proofs.R.grow ((ByteArray.size p2) + (ByteArray.size t237.2.2)))) fun t238 =>
           ancepsref15_Text.l11 p0 p1 (p2 ++ t237.2.2) (Go.IntKind.wrap Go.IntKind.i64 (p3 + (1 : Int))) p4))
         (bindD ((ixAt p0 p3)) fun t239 =>
          bindD ((Go.Proofs.R.grow ((ByteArray.size p2) + (ByteArray.size t239.2.2)))) fun t240 =>
          ancepsref15_Text.l11 p0 p1 (p2 ++ t239.2.2) (Go.IntKind.wrap Go.IntKind.i64 (p3 + (1 : Int))) p4))
        (bindD ((ixAt p0 p3)) fun t241 =>
         bindD ((Go.Proofs.R.grow ((ByteArray.size p2) + (ByteArray.size t241.2.2)))) fun t242 =>
         ancepsref15_Text.l11 p0 p1 (p2 ++ t241.2.2) (Go.IntKind.wrap Go.IntKind.i64 (p3 + (1 : Int))) p4)))
      (ifB (decide (p3 > (0 : Int)))
        (ifB (!t175.1)
         (ifB t176.1
          (bindD ((Go.Proofs.R.grow ((ByteArray.size p2) + (ByteArray.size (ByteArray.mk (List.toArray ((95 : UInt8) :: ([] : (List UInt8))))))))) fun t243 =>
          bindD ((ixAt p0 p3)) fun t244 =>
          bindD ((Go.Proofs.R.grow ((ByteArray.size (p2 ++ (ByteArray.mk (List.toArray ((95 : UInt8) :: ([] : (List UInt8))))))) + (ByteArray.size t244.2.2)))) fun t245 =>
          ancepsref15_Text.l11 p0 p1 ((p2 ++ (ByteArray.mk (List.toArray ((95 : UInt8) :: ([] : (List UInt8)))))) ++ t244.2.2) (Go.IntKind.wrap Go.IntKind.i64 (p3 + (1 : Int))) p4)
         (bindD ((ixAt p0 p3)) fun t246 =>
          bindD ((Go.Proofs.R.grow ((ByteArray.size p2) + (ByteArray.size t246.2.2)))) fun t247 =>
          ancepsref15_Text.l11 p0 p1 (p2 ++ t246.2.2) (Go.IntKind.wrap Go.IntKind.i64 (p3 + (1 : Int))) p4))
        (bindD ((ixAt p0 p3)) fun t248 =>
         bindD ((Go.Proofs.R.grow ((ByteArray.size p2) + (ByteArray.size t248.2.2)))) fun t249 =>
         ancepsref15_Text.l11 p0 p1 (p2 ++ t248.2.2) (Go.IntKind.wrap Go.IntKind.i64 (p3 + (1 : Int))) p4))
       (bindD ((ixAt p0 p3)) fun t250 =>
        bindD ((Go.Proofs.R.grow ((ByteArray.size p2) + (ByteArray.size t250.2.2)))) fun t251 =>
        ancepsref15_Text.l11 p0 p1 (p2 ++ t250.2.2) (Go.IntKind.wrap Go.IntKind.i64 (p3 + (1 : Int))) p4))))
    (ifB (decide (p3 > (0 : Int)))
      (ifB t175.1
       (ifB (!t176.1)
        (bindD ((Go.Proofs.R.grow ((ByteArray.size p2) + (ByteArray.size (ByteArray.mk (List.toArray ((46 : UInt8) :: ([] : (List UInt8))))))))) fun t252 =>
        ifB (decide (p3 > (0 : Int)))
         (ifB (!t175.1)
          (ifB t176.1
           (bindD ((Go.Proofs.R.grow ((ByteArray.size (p2 ++ (ByteArray.mk (List.toArray ((46 : UInt8) :: ([] : (List UInt8))))))) + (ByteArray.size (ByteArray.mk (List.toArray ((95 : UInt8) :: ([] : (List UInt8))))))))) fun t253 =>
           bindD ((ixAt p0 p3)) fun t254 =>
           bindD ((Go.Proofs.R.grow ((ByteArray.size ((p2 ++ (ByteArray.mk (List.toArray ((46 : UInt8) :: ([] : (List UInt8)))))) ++ (ByteArray.mk (List.toArray ((95 : UInt8) :: ([] : (List UInt8))))))) + (ByteArray.size t254.2.2)))) fun t255 =>
           ancepsref15_Text.l11 p0 p1 (((p2 ++ (ByteArray.mk (List.toArray ((46 : UInt8) :: ([] : (List UInt8)))))) ++ (ByteArray.mk (List.toArray ((95 : UInt8) :: ([] : (List UInt8)))))) ++ t254.2.2) (Go.IntKind.wrap Go.IntKind.i64 (p3 + (1 : Int))) p4)
          (bindD ((ixAt p0 p3)) fun t256 =>
           bindD ((Go.Proofs.R.grow ((ByteArray.size (p2 ++ (ByteArray.mk (List.toArray ((46 : UInt8) :: ([] : (List UInt8))))))) + (ByteArray.size t256.2.2)))) fun t257 =>
           ancepsref15_Text.l11 p0 p1 ((p2 ++ (ByteArray.mk (List.toArray ((46 : UInt8) :: ([] : (List UInt8)))))) ++ t256.2.2) (Go.IntKind.wrap Go.IntKind.i64 (p3 + (1 : Int))) p4))
         (bindD ((ixAt p0 p3)) fun t258 =>
          bindD ((Go.Proofs.R.grow ((ByteArray.size (p2 ++ (ByteArray.mk (List.toArray ((46 : UInt8) :: ([] : (List UInt8))))))) + (ByteArray.size t258.2.2)))) fun t259 =>
          ancepsref15_Text.l11 p0 p1 ((p2 ++ (ByteArray.mk (List.toArray ((46 : UInt8) :: ([] : (List UInt8)))))) ++ t258.2.2) (Go.IntKind.wrap Go.IntKind.i64 (p3 + (1 : Int))) p4))
        (bindD ((ixAt p0 p3)) fun t260 =>
         bindD ((Go.Proofs.R.grow ((ByteArray.size (p2 ++ (ByteArray.mk (List.toArray ((46 : UInt8) :: ([] : (List UInt8))))))) + (ByteArray.size t260.2.2)))) fun t261 =>
         ancepsref15_Text.l11 p0 p1 ((p2 ++ (ByteArray.mk (List.toArray ((46 : UInt8) :: ([] : (List UInt8)))))) ++ t260.2.2) (Go.IntKind.wrap Go.IntKind.i64 (p3 + (1 : Int))) p4))
       (ifB (decide (p3 > (0 : Int)))
         (ifB (!t175.1)
          (ifB t176.1
           (bindD ((Go.Proofs.R.grow ((ByteArray.size p2) + (ByteArray.size (ByteArray.mk (List.toArray ((95 : UInt8) :: ([] : (List UInt8))))))))) fun t262 =>
           bindD ((ixAt p0 p3)) fun t263 =>
           bindD ((Go.Proofs.R.grow ((ByteArray.size (p2 ++ (ByteArray.mk (List.toArray ((95 : UInt8) :: ([] : (List UInt8))))))) + (ByteArray.size t263.2.2)))) fun t264 =>
           ancepsref15_Text.l11 p0 p1 ((p2 ++ (ByteArray.mk (List.toArray ((95 : UInt8) :: ([] : (List UInt8)))))) ++ t263.2.2) (Go.IntKind.wrap Go.IntKind.i64 (p3 + (1 : Int))) p4)
          (bindD ((ixAt p0 p3)) fun t265 =>
           bindD ((Go.Proofs.R.grow ((ByteArray.size p2) + (ByteArray.size t265.2.2)))) fun t266 =>
           ancepsref15_Text.l11 p0 p1 (p2 ++ t265.2.2) (Go.IntKind.wrap Go.IntKind.i64 (p3 + (1 : Int))) p4))
         (bindD ((ixAt p0 p3)) fun t267 =>
          bindD ((Go.Proofs.R.grow ((ByteArray.size p2) + (ByteArray.size t267.2.2)))) fun t268 =>
          ancepsref15_Text.l11 p0 p1 (p2 ++ t267.2.2) (Go.IntKind.wrap Go.IntKind.i64 (p3 + (1 : Int))) p4))
        (bindD ((ixAt p0 p3)) fun t269 =>
         bindD ((Go.Proofs.R.grow ((ByteArray.size p2) + (ByteArray.size t269.2.2)))) fun t270 =>
         ancepsref15_Text.l11 p0 p1 (p2 ++ t269.2.2) (Go.IntKind.wrap Go.IntKind.i64 (p3 + (1 : Int))) p4)))
      (ifB (decide (p3 > (0 : Int)))
        (ifB (!t175.1)
         (ifB t176.1
          (bindD ((Go.Proofs.R.grow ((ByteArray.size p2) + (ByteArray.size (ByteArray.mk (List.toArray ((95 : UInt8) :: ([] : (List UInt8))))))))) fun t271 =>
          bindD ((ixAt p0 p3)) fun t272 =>
          bindD ((Go.Proofs.R.grow ((ByteArray.size (p2 ++ (ByteArray.mk (List.toArray ((95 : UInt8) :: ([] : (List UInt8))))))) + (ByteArray.size t272.2.2)))) fun t273 =>
          ancepsref15_Text.l11 p0 p1 ((p2 ++ (ByteArray.mk (List.toArray ((95 : UInt8) :: ([] : (List UInt8)))))) ++ t272.2.2) (Go.IntKind.wrap Go.IntKind.i64 (p3 + (1 : Int))) p4)
         (bindD ((ixAt p0 p3)) fun t274 =>
          bindD ((Go.Proofs.R.grow ((ByteArray.size p2) + (ByteArray.size t274.2.2)))) fun t275 =>
          ancepsref15_Text.l11 p0 p1 (p2 ++ t274.2.2) (Go.IntKind.wrap Go.IntKind.i64 (p3 + (1 : Int))) p4))
        (bindD ((ixAt p0 p3)) fun t276 =>
         bindD ((Go.Proofs.R.grow ((ByteArray.size p2) + (ByteArray.size t276.2.2)))) fun t277 =>
         ancepsref15_Text.l11 p0 p1 (p2 ++ t276.2.2) (Go.IntKind.wrap Go.IntKind.i64 (p3 + (1 : Int))) p4))
       (bindD ((ixAt p0 p3)) fun t278 =>
        bindD ((Go.Proofs.R.grow ((ByteArray.size p2) + (ByteArray.size t278.2.2)))) fun t279 =>
        ancepsref15_Text.l11 p0 p1 (p2 ++ t278.2.2) (Go.IntKind.wrap Go.IntKind.i64 (p3 + (1 : Int))) p4)))
     (ifB (decide (p3 > (0 : Int)))
       (ifB (!t175.1)
        (ifB t176.1
         (bindD ((Go.Proofs.R.grow ((ByteArray.size p2) + (ByteArray.size (ByteArray.mk (List.toArray ((95 : UInt8) :: ([] : (List UInt8))))))))) fun t280 =>
         bindD ((ixAt p0 p3)) fun t281 =>
         bindD ((Go.Proofs.R.grow ((ByteArray.size (p2 ++ (ByteArray.mk (List.toArray ((95 : UInt8) :: ([] : (List UInt8))))))) + (ByteArray.size t281.2.2)))) fun t282 =>
         ancepsref15_Text.l11 p0 p1 ((p2 ++ (ByteArray.mk (List.toArray ((95 : UInt8) :: ([] : (List UInt8)))))) ++ t281.2.2) (Go.IntKind.wrap Go.IntKind.i64 (p3 + (1 : Int))) p4)
        (bindD ((ixAt p0 p3)) fun t283 =>
         bindD ((Go.Proofs.R.grow ((ByteArray.size p2) + (ByteArray.size t283.2.2)))) fun t284 =>
         ancepsref15_Text.l11 p0 p1 (p2 ++ t283.2.2) (Go.IntKind.wrap Go.IntKind.i64 (p3 + (1 : Int))) p4))
       (bindD ((ixAt p0 p3)) fun t285 =>
        bindD ((Go.Proofs.R.grow ((ByteArray.size p2) + (ByteArray.size t285.2.2)))) fun t286 =>
        ancepsref15_Text.l11 p0 p1 (p2 ++ t285.2.2) (Go.IntKind.wrap Go.IntKind.i64 (p3 + (1 : Int))) p4))
      (bindD ((ixAt p0 p3)) fun t287 =>
       bindD ((Go.Proofs.R.grow ((ByteArray.size p2) + (ByteArray.size t287.2.2)))) fun t288 =>
       ancepsref15_Text.l11 p0 p1 (p2 ++ t287.2.2) (Go.IntKind.wrap Go.IntKind.i64 (p3 + (1 : Int))) p4))))
   (ifB (decide (p3 > (0 : Int)))
     (ifB t175.1
      (ifB (!t176.1)
       (bindD ((Go.Proofs.R.grow ((ByteArray.size p2) + (ByteArray.size (ByteArray.mk (List.toArray ((46 : UInt8) :: ([] : (List UInt8))))))))) fun t289 =>
       ifB (decide (p3 > (0 : Int)))
        (ifB (!t175.1)
         (ifB t176.1
          (bindD ((Go.Proofs.R.grow ((ByteArray.size (p2 ++ (ByteArray.mk (List.toArray ((46 : UInt8) :: ([] : (List UInt8))))))) + (ByteArray.size (ByteArray.mk (List.toArray ((95 : UInt8) :: ([] : (List UInt8))))))))) fun t290 =>
          bindD ((ixAt p0 p3)) fun t291 =>
          bindD ((Go.Proofs.R.grow ((ByteArray.size ((p2 ++ (ByteArray.mk (List.toArray ((46 : UInt8) :: ([] : (List UInt8)))))) ++ (ByteArray.mk (List.toArray ((95 : UInt8) :: ([] : (List UInt8))))))) + (ByteArray.size t291.2.2)))) fun t292 =>
          ancepsref15_Text.l11 p0 p1 (((p2 ++ (ByteArray.mk (List.toArray ((46 : UInt8) :: ([] : (List UInt8)))))) ++ (ByteArray.mk (List.toArray ((95 : UInt8) :: ([] : (List UInt8)))))) ++ t291.2.2) (Go.IntKind.wrap Go.IntKind.i64 (p3 + (1 : Int))) p4)
         (bindD ((ixAt p0 p3)) fun t293 =>
          bindD ((Go.Proofs.R.grow ((ByteArray.size (p2 ++ (ByteArray.mk (List.toArray ((46 : UInt8) :: ([] : (List UInt8))))))) + (ByteArray.size t293.2.2)))) fun t294 =>
          ancepsref15_Text.l11 p0 p1 ((p2 ++ (ByteArray.mk (List.toArray ((46 : UInt8) :: ([] : (List UInt8)))))) ++ t293.2.2) (Go.IntKind.wrap Go.IntKind.i64 (p3 + (1 : Int))) p4))
        (bindD ((ixAt p0 p3)) fun t295 =>
         bindD ((Go.Proofs.R.grow ((ByteArray.size (p2 ++ (ByteArray.mk (List.toArray ((46 : UInt8) :: ([] : (List UInt8))))))) + (ByteArray.size t295.2.2)))) fun t296 =>
         ancepsref15_Text.l11 p0 p1 ((p2 ++ (ByteArray.mk (List.toArray ((46 : UInt8) :: ([] : (List UInt8)))))) ++ t295.2.2) (Go.IntKind.wrap Go.IntKind.i64 (p3 + (1 : Int))) p4))
       (bindD ((ixAt p0 p3)) fun t297 =>
        bindD ((Go.Proofs.R.grow ((ByteArray.size (p2 ++ (ByteArray.mk (List.toArray ((46 : UInt8) :: ([] : (List UInt8))))))) + (ByteArray.size t297.2.2)))) fun t298 =>
        ancepsref15_Text.l11 p0 p1 ((p2 ++ (ByteArray.mk (List.toArray ((46 : UInt8) :: ([] : (List UInt8)))))) ++ t297.2.2) (Go.IntKind.wrap Go.IntKind.i64 (p3 + (1 : Int))) p4))
      (ifB (decide (p3 > (0 : Int)))
        (ifB (!t175.1)
         (ifB t176.1
          (bindD ((Go.Proofs.R.grow ((ByteArray.size p2) + (ByteArray.size (ByteArray.mk (List.toArray ((95 : UInt8) :: ([] : (List UInt8))))))))) fun t299 =>
          bindD ((ixAt p0 p3)) fun t300 =>
          bindD ((Go.Proofs.R.grow ((ByteArray.size (p2 ++ (ByteArray.mk (List.toArray ((95 : UInt8) :: ([] : (List UInt8))))))) + (ByteArray.size t300.2.2)))) fun t301 =>
          ancepsref15_Text.l11 p0 p1 ((p2 ++ (ByteArray.mk (List.toArray ((95 : UInt8) :: ([] : (List UInt8)))))) ++ t300.2.2) (Go.IntKind.wrap Go.IntKind.i64 (p3 + (1 : Int))) p4)
         (bindD ((ixAt p0 p3)) fun t302 =>
          bindD ((Go.Proofs.R.grow ((ByteArray.size p2) + (ByteArray.size t302.2.2)))) fun t303 =>
          ancepsref15_Text.l11 p0 p1 (p2 ++ t302.2.2) (Go.IntKind.wrap Go.IntKind.i64 (p3 + (1 : Int))) p4))
        (bindD ((ixAt p0 p3)) fun t304 =>
         bindD ((Go.Proofs.R.grow ((ByteArray.size p2) + (ByteArray.size t304.2.2)))) fun t305 =>
         ancepsref15_Text.l11 p0 p1 (p2 ++ t304.2.2) (Go.IntKind.wrap Go.IntKind.i64 (p3 + (1 : Int))) p4))
       (bindD ((ixAt p0 p3)) fun t306 =>
        bindD ((Go.Proofs.R.grow ((ByteArray.size p2) + (ByteArray.size t306.2.2)))) fun t307 =>
        ancepsref15_Text.l11 p0 p1 (p2 ++ t306.2.2) (Go.IntKind.wrap Go.IntKind.i64 (p3 + (1 : Int))) p4)))
     (ifB (decide (p3 > (0 : Int)))
       (ifB (!t175.1)
        (ifB t176.1
         (bindD ((Go.Proofs.R.grow ((ByteArray.size p2) + (ByteArray.size (ByteArray.mk (List.toArray ((95 : UInt8) :: ([] : (List UInt8))))))))) fun t308 =>
         bindD ((ixAt p0 p3)) fun t309 =>
         bindD ((Go.Proofs.R.grow ((ByteArray.size (p2 ++ (ByteArray.mk (List.toArray ((95 : UInt8) :: ([] : (List UInt8))))))) + (ByteArray.size t309.2.2)))) fun t310 =>
         ancepsref15_Text.l11 p0 p1 ((p2 ++ (ByteArray.mk (List.toArray ((95 : UInt8) :: ([] : (List UInt8)))))) ++ t309.2.2) (Go.IntKind.wrap Go.IntKind.i64 (p3 + (1 : Int))) p4)
        (bindD ((ixAt p0 p3)) fun t311 =>
         bindD ((Go.Proofs.R.grow ((ByteArray.size p2) + (ByteArray.size t311.2.2)))) fun t312 =>
         ancepsref15_Text.l11 p0 p1 (p2 ++ t311.2.2) (Go.IntKind.wrap Go.IntKind.i64 (p3 + (1 : Int))) p4))
       (bindD ((ixAt p0 p3)) fun t313 =>
        bindD ((Go.Proofs.R.grow ((ByteArray.size p2) + (ByteArray.size t313.2.2)))) fun t314 =>
        ancepsref15_Text.l11 p0 p1 (p2 ++ t313.2.2) (Go.IntKind.wrap Go.IntKind.i64 (p3 + (1 : Int))) p4))
      (bindD ((ixAt p0 p3)) fun t315 =>
       bindD ((Go.Proofs.R.grow ((ByteArray.size p2) + (ByteArray.size t315.2.2)))) fun t316 =>
       ancepsref15_Text.l11 p0 p1 (p2 ++ t315.2.2) (Go.IntKind.wrap Go.IntKind.i64 (p3 + (1 : Int))) p4)))
    (ifB (decide (p3 > (0 : Int)))
      (ifB (!t175.1)
       (ifB t176.1
        (bindD ((Go.Proofs.R.grow ((ByteArray.size p2) + (ByteArray.size (ByteArray.mk (List.toArray ((95 : UInt8) :: ([] : (List UInt8))))))))) fun t317 =>
        bindD ((ixAt p0 p3)) fun t318 =>
        bindD ((Go.Proofs.R.grow ((ByteArray.size (p2 ++ (ByteArray.mk (List.toArray ((95 : UInt8) :: ([] : (List UInt8))))))) + (ByteArray.size t318.2.2)))) fun t319 =>
        ancepsref15_Text.l11 p0 p1 ((p2 ++ (ByteArray.mk (List.toArray ((95 : UInt8) :: ([] : (List UInt8)))))) ++ t318.2.2) (Go.IntKind.wrap Go.IntKind.i64 (p3 + (1 : Int))) p4)
       (bindD ((ixAt p0 p3)) fun t320 =>
        bindD ((Go.Proofs.R.grow ((ByteArray.size p2) + (ByteArray.size t320.2.2)))) fun t321 =>
        ancepsref15_Text.l11 p0 p1 (p2 ++ t320.2.2) (Go.IntKind.wrap Go.IntKind.i64 (p3 + (1 : Int))) p4))
      (bindD ((ixAt p0 p3)) fun t322 =>
       bindD ((Go.Proofs.R.grow ((ByteArray.size p2) + (ByteArray.size t322.2.2)))) fun t323 =>
       ancepsref15_Text.l11 p0 p1 (p2 ++ t322.2.2) (Go.IntKind.wrap Go.IntKind.i64 (p3 + (1 : Int))) p4))
     (bindD ((ixAt p0 p3)) fun t324 =>
      bindD ((Go.Proofs.R.grow ((ByteArray.size p2) + (ByteArray.size t324.2.2)))) fun t325 =>
      ancepsref15_Text.l11 p0 p1 (p2 ++ t324.2.2) (Go.IntKind.wrap Go.IntKind.i64 (p3 + (1 : Int))) p4))))
  (some (p2, ((0 : Int), ()))) := (loopAt_step Go.Proofs.C15.ctx 15 11 _).trans (by kernel_rfl)
theorem syllable_valid.l4_eq (p0 : (List (Int × (Int × ByteArray)))) (p1 : (List Int)) (p2 : (List (Int × (Int × ByteArray)))) (p3 : Int) (p4 : Int) : syllable_valid.l4 p0 p1 p2 p3 p4 =
  ifB (decide (p4 < p3))
   (bindD ((ixAt p2 p4)) fun t326 =>
   bindD (sound_Valid.f t326.1 t326.2.1 t326.2.2) fun t327 =>
   ifB (t327.1 != (0 : Int))
    (some (t327.1, ()))
   (syllable_valid.l4 p0 p1 p2 p3 (Go.IntKind.wrap Go.IntKind.i64 (p4 + (1 : Int)))))
  (ifB (decide ((((List.length p1) : Nat) : Int) > (20 : Int)))
    (some ((3 : Int), ()))
   (syllable_valid.l13 p0 p1 p1 (((List.length p1) : Nat) : Int) (0 : Int))) := (loopAt_step Go.Proofs.C15.ctx 47 4 _).trans (by kernel_rfl)
theorem sound_Nuclei.l3_eq (p0 : (List (Int × (Int × ByteArray)))) (p1 : Int) (p2 : Int) (p3 : (List Int)) : sound_Nuclei.l3 p0 p1 p2 p3 =
  ifB (decide (p2 < p1))
   (bindD ((ixAt p0 p2)) fun t328 =>
   bindD (sound_Nucleus.f t328.1 t328.2.1 t328.2.2) fun t329 =>
   ifB t329.1
    (bindD ((Go.Proofs.R.grow ((List.length p3) + (List.length (p2 :: ([] : (List Int))))))) fun t330 =>
    sound_Nuclei.l3 p0 p1 (Go.IntKind.wrap Go.IntKind.i64 (p2 + (1 : Int))) (p3 ++ (p2 :: ([] : (List Int)))))
   (sound_Nuclei.l3 p0 p1 (Go.IntKind.wrap Go.IntKind.i64 (p2 + (1 : Int))) p3))
  (some (p3, ())) := (loopAt_step Go.Proofs.C15.ctx 48 3 _).trans (by kernel_rfl)
theorem syllable_between.f_eq (p0 : (List (Int × (Int × ByteArray)))) (p1 : (List Int)) (p2 : (List Int)) (p3 : Int) : syllable_between.f p0 p1 p2 p3 =
  bindD ((ixAt p2 p3)) fun t331 =>
  ifB (!(p3 == (Go.IntKind.wrap Go.IntKind.i64 ((((List.length p2) : Nat) : Int) - (1 : Int)))))
   (bindD ((ixAt p2 (Go.IntKind.wrap Go.IntKind.i64 (p3 + (1 : Int))))) fun t332 =>
   bindD ((subL p0 (Go.IntKind.wrap Go.IntKind.i64 (t331 + (1 : Int))) t332)) fun t333 =>
   bindD (api_Sound.f t333) fun t334 =>
   syllable_between.l6 t331 t332 p1 (((List.length p1) : Nat) : Int) (0 : Int) ([] : (List (Int × (Int × ByteArray)))) ([] : (List Int)) t334.1 ([] : (List Int)))
  (bindD ((subL p0 (Go.IntKind.wrap Go.IntKind.i64 (t331 + (1 : Int))) (((List.length p0) : Nat) : Int))) fun t335 =>
   bindD (api_Sound.f t335) fun t336 =>
   syllable_between.l6 t331 (((List.length p0) : Nat) : Int) p1 (((List.length p1) : Nat) : Int) (0 : Int) ([] : (List (Int × (Int × ByteArray)))) ([] : (List Int)) t336.1 ([] : (List Int))) := (Einf_call Go.Proofs.C15.ctx 50 _).trans (by kernel_rfl)
theorem cluster_Coda.f_eq (p0 : (List (Int × (Int × ByteArray)))) (p1 : (List Int)) : cluster_Coda.f p0 p1 =
  bindD (cluster_Valid.f p0 p1) fun t337 =>
  ifB (t337.1 != (0 : Int))
   (some ((0 : Int), (t337.1, ())))
  (bindD (cluster_class.f p0 p1) fun t338 =>
   ifB (t338.1 != (4 : Int))
    (some ((0 : Int), ((0 : Int), ())))
   (bindD (cluster_core.f p0 p1) fun t339 =>
    bindD ((ixAt t339.1 (Go.IntKind.wrap Go.IntKind.i64 ((((List.length t339.1) : Nat) : Int) - (1 : Int))))) fun t340 =>
    bindD ((ixAt t339.1 (Go.IntKind.wrap Go.IntKind.i64 ((((List.length t339.1) : Nat) : Int) - (1 : Int))))) fun t341 =>
    bindD ((ixAt p0 t341)) fun t342 =>
    ifB (t342.1 == (7 : Int))
     (some ((Go.IntKind.wrap Go.IntKind.i64 (t341 + (1 : Int))), ((0 : Int), ())))
    (some (t341, ((0 : Int), ()))))) := (Einf_call Go.Proofs.C15.ctx 49 _).trans (by kernel_rfl)
theorem syllable_Divide.l10_1_eq (p0 : (List (Int × (Int × ByteArray)))) (p1 : (List Int)) (p2 : Int) (p3 : Int) (p4 : Int) (p5 : (List Int)) (p6 : (List (Int × (Int × (Int × (Int × Bool)))))) : syllable_Divide.l10_1 p0 p1 p2 p3 p4 p5 p6 =
  ifB (decide (p4 < p3))
   (bindD ((ixAt p5 p4)) fun t343 =>
   bindD ((ixAt p5 p4)) fun t344 =>
   bindD (syllable_Word.f p1 t344) fun t345 =>
   ifB (decide (p4 < (Go.IntKind.wrap Go.IntKind.i64 ((((List.length p5) : Nat) : Int) - (1 : Int)))))
    (bindD (syllable_between.f p0 p1 p5 p4) fun t346 =>
    bindD (cluster_Coda.f t346.1 t346.2.1) fun t347 =>
    ifB (t347.2.1 != (0 : Int))
     (some (([] : (List (Int × (Int × (Int × (Int × Bool)))))), (t347.2.1, ())))
    (bindD ((ixAt p5 (Go.IntKind.wrap Go.IntKind.i64 (p4 + (1 : Int))))) fun t348 =>
     bindD ((ixAt p5 (Go.IntKind.wrap Go.IntKind.i64 (p4 + (1 : Int))))) fun t349 =>
     bindD (syllable_Word.f p1 t349) fun t350 =>
     bindD ((Go.Proofs.R.grow ((List.length p6) + (List.length ((p2, ((Go.IntKind.wrap Go.IntKind.i64 ((Go.IntKind.wrap Go.IntKind.i64 (t344 + (1 : Int))) + t347.1)), (t344, (t345.1, (t350.1 != t345.1))))) :: ([] : (List (Int × (Int × (Int × (Int × Bool))))))))))) fun t351 =>
     syllable_Divide.l10_1 p0 p1 (Go.IntKind.wrap Go.IntKind.i64 ((Go.IntKind.wrap Go.IntKind.i64 (t344 + (1 : Int))) + t347.1)) p3 (Go.IntKind.wrap Go.IntKind.i64 (p4 + (1 : Int))) p5 (p6 ++ ((p2, ((Go.IntKind.wrap Go.IntKind.i64 ((Go.IntKind.wrap Go.IntKind.i64 (t344 + (1 : Int))) + t347.1)), (t344, (t345.1, (t350.1 != t345.1))))) :: ([] : (List (Int × (Int × (Int × (Int × Bool))))))))))
   (bindD ((Go.Proofs.R.grow ((List.length p6) + (List.length ((p2, ((((List.length p0) : Nat) : Int), (t344, (t345.1, true)))) :: ([] : (List (Int × (Int × (Int × (Int × Bool))))))))))) fun t352 =>
    syllable_Divide.l10_1 p0 p1 (((List.length p0) : Nat) : Int) p3 (Go.IntKind.wrap Go.IntKind.i64 (p4 + (1 : Int))) p5 (p6 ++ ((p2, ((((List.length p0) : Nat) : Int), (t344, (t345.1, true)))) :: ([] : (List (Int × (Int × (Int × (Int × Bool))))))))))
  (some (p6, ((0 : Int), ()))) := (loopAt_step Go.Proofs.C15.ctx 21 10 _).trans (by kernel_rfl)
theorem ancepsref15_Valid.l4_eq (p0 : (List (Int × (Int × ByteArray)))) (p1 : (List Int)) (p2 : Int) : ancepsref15_Valid.l4 p0 p1 p2 =
  ifB (decide (p2 < (((List.length p0) : Nat) : Int)))
   (bindD ((ixAt p0 p2)) fun t353 =>
   bindD (ancepsref11_Valid.f t353.1 t353.2.1 t353.2.2) fun t354 =>
   ifB (t354.1 != (0 : Int))
    (some (t354.1, ()))
   (ancepsref15_Valid.l4 p0 p1 (Go.IntKind.wrap Go.IntKind.i64 (p2 + (1 : Int)))))
  (ifB (decide ((((List.length p1) : Nat) : Int) > (20 : Int)))
    (some ((3 : Int), ()))
   (ancepsref15_Valid.l12 p0 p1 (0 : Int))) := (loopAt_step Go.Proofs.C15.ctx 51 4 _).trans (by kernel_rfl)
theorem ancepsref15_cluster.f_eq (p0 : (List (Int × (Int × ByteArray)))) (p1 : (List Int)) (p2 : Int) (p3 : Int) : ancepsref15_cluster.f p0 p1 p2 p3 =
  ancepsref15_cluster.l3 p0 p1 p2 p3 (Go.IntKind.wrap Go.IntKind.i64 (p2 + (1 : Int))) ([] : (List (Int × (Int × ByteArray)))) ([] : (List Int)) ([] : (List (Int × (Int × ByteArray)))) ([] : (List Int)) := (Einf_call Go.Proofs.C15.ctx 53 _).trans (by kernel_rfl)
theorem ancepsref14_Coda.f_eq (p0 : (List (Int × (Int × ByteArray)))) (p1 : (List Int)) : ancepsref14_Coda.f p0 p1 =
  bindD (ancepsref14_Valid.f p0 p1) fun t355 =>
  ifB (t355.1 != (0 : Int))
   (some ((0 : Int), (t355.1, ())))
  (bindD (ancepsref14_class.f p0 p1) fun t356 =>
   ifB (t356.1 != (4 : Int))
    (some ((0 : Int), ((0 : Int), ())))
   (bindD (ancepsref14_core.f p0 p1) fun t357 =>
    bindD ((ixAt t357.1 (Go.IntKind.wrap Go.IntKind.i64 ((((List.length t357.1) : Nat) : Int) - (1 : Int))))) fun t358 =>
    bindD ((ixAt t357.1 (Go.IntKind.wrap Go.IntKind.i64 ((((List.length t357.1) : Nat) : Int) - (1 : Int))))) fun t359 =>
    bindD ((ixAt p0 t359)) fun t360 =>
    ifB (t360.1 == (7 : Int))
     (some ((Go.IntKind.wrap Go.IntKind.i64 (t359 + (1 : Int))), ((0 : Int), ())))
    (some (t359, ((0 : Int), ()))))) := (Einf_call Go.Proofs.C15.ctx 52 _).trans (by kernel_rfl)
theorem api_Syllable_54.l4_eq (p0 : (List (Int × (Int × (Int × (Int × Bool)))))) (p1 : (List (Int × (Int × (Int × (Int × Bool)))))) (p2 : Int) (p3 : Int) : api_Syllable_54.l4 p0 p1 p2 p3 =
  ifB (decide (p3 < p2))
   (bindD ((ixAt p0 p3)) fun t361 =>
   bindD ((ixAt p1 p3)) fun t362 =>
   ifB (!((t361.1 == t362.1) && ((t361.2.1 == t362.2.1) && ((t361.2.2.1 == t362.2.2.1) && ((t361.2.2.2.1 == t362.2.2.2.1) && (t361.2.2.2.2 == t362.2.2.2.2))))))
    (some (false, ()))
   (api_Syllable_54.l4 p0 p1 p2 (Go.IntKind.wrap Go.IntKind.i64 (p3 + (1 : Int)))))
  (some (true, ())) := (loopAt_step Go.Proofs.C15.ctx 54 4 _).trans (by kernel_rfl)
theorem ancepsref11_All.l3_eq (p0 : (List Int)) (p1 : Int) (p2 : (List (Int × (Int × ByteArray)))) : ancepsref11_All.l3 p0 p1 p2 =
  ifB (decide (p1 < (((List.length p0) : Nat) : Int)))
   (bindD ((ixAt p0 p1)) fun t363 =>
   bindD (ancepsref11_Made.f t363) fun t364 =>
   bindD ((Go.Proofs.R.grow ((List.length p2) + (List.length ((t364.1, (t364.2.1, t364.2.2.1)) :: ([] : (List (Int × (Int × ByteArray))))))))) fun t365 =>
   ancepsref11_All.l3 p0 (Go.IntKind.wrap Go.IntKind.i64 (p1 + (1 : Int))) (p2 ++ ((t364.1, (t364.2.1, t364.2.2.1)) :: ([] : (List (Int × (Int × ByteArray)))))))
  (some (p2, ())) := (loopAt_step Go.Proofs.C15.ctx 46 3 _).trans (by kernel_rfl)
theorem ancepsref15_Made.l7_eq (p0 : Int) (p1 : Int) (p2 : (List Int)) (p3 : (List Int)) (p4 : (List (Int × (Int × ByteArray)))) (p5 : (List Int)) : ancepsref15_Made.l7 p0 p1 p2 p3 p4 p5 =
  ifB (decide (p1 < (((List.length p3) : Nat) : Int)))
   (ifB (decide ((((List.length p5) : Nat) : Int) < (20 : Int)))
    (bindD ((ixAt p3 p1)) fun t366 =>
    ifB ((Go.IntKind.wrap Go.IntKind.i64 ((((List.length p4) : Nat) : Int) + (1 : Int))) == (0 : Int))
     (none)
    (ifB ((Int.tmod (Go.IntKind.wrap Go.IntKind.i64 t366) (Go.IntKind.wrap Go.IntKind.i64 ((((List.length p4) : Nat) : Int) + (1 : Int)))) == p0)
      (bindD ((Go.Proofs.R.grow ((List.length p5) + (List.length (p0 :: ([] : (List Int))))))) fun t367 =>
      ancepsref15_Made.l7 p0 (Go.IntKind.wrap Go.IntKind.i64 (p1 + (1 : Int))) p2 p3 p4 (p5 ++ (p0 :: ([] : (List Int)))))
     (ancepsref15_Made.l7 p0 (Go.IntKind.wrap Go.IntKind.i64 (p1 + (1 : Int))) p2 p3 p4 p5)))
   (ancepsref15_Made.l4 (Go.IntKind.wrap Go.IntKind.i64 (p0 + (1 : Int))) p2 p3 p4 p5))
  (ancepsref15_Made.l4 (Go.IntKind.wrap Go.IntKind.i64 (p0 + (1 : Int))) p2 p3 p4 p5) := (loopAt_step Go.Proofs.C15.ctx 20 7 _).trans (by kernel_rfl)
theorem ancepsref11_split.l3_eq (p0 : ByteArray) (p1 : Int) (p2 : (List ByteArray)) : ancepsref11_split.l3 p0 p1 p2 =
  ifB (decide (p1 < (((ByteArray.size p0) : Nat) : Int)))
   (bindD ((Go.Proofs.R.strAt p0 p1)) fun t368 =>
   ifB (t368 == (32 : Int))
    (bindD ((Go.Proofs.R.grow ((List.length p2) + (List.length ((ByteArray.mk (List.toArray ([] : (List UInt8)))) :: ([] : (List ByteArray))))))) fun t369 =>
    ancepsref11_split.l3 p0 (Go.IntKind.wrap Go.IntKind.i64 (p1 + (1 : Int))) (p2 ++ ((ByteArray.mk (List.toArray ([] : (List UInt8)))) :: ([] : (List ByteArray)))))
   (bindD ((ixAt p2 (Go.IntKind.wrap Go.IntKind.i64 ((((List.length p2) : Nat) : Int) - (1 : Int))))) fun t370 =>
    bindD ((ixAt p2 (Go.IntKind.wrap Go.IntKind.i64 ((((List.length p2) : Nat) : Int) - (1 : Int))))) fun t371 =>
    bindD ((Go.Proofs.R.subS p0 p1 (Go.IntKind.wrap Go.IntKind.i64 (p1 + (1 : Int))))) fun t372 =>
    bindD ((Go.Proofs.R.grow ((ByteArray.size t371) + (ByteArray.size t372)))) fun t373 =>
    bindD ((ixAt p2 (Go.IntKind.wrap Go.IntKind.i64 ((((List.length p2) : Nat) : Int) - (1 : Int))))) fun t374 =>
    bindD ((ixAt p2 (Go.IntKind.wrap Go.IntKind.i64 ((((List.length p2) : Nat) : Int) - (1 : Int))))) fun t375 =>
    ancepsref11_split.l3 p0 (Go.IntKind.wrap Go.IntKind.i64 (p1 + (1 : Int))) (setRow p2 (Go.IntKind.wrap Go.IntKind.i64 ((((List.length p2) : Nat) : Int) - (1 : Int))) (t371 ++ t372))))
  (some (p2, ())) := (loopAt_step Go.Proofs.C15.ctx 58 3 _).trans (by kernel_rfl)
theorem ancepsref11_one.f_eq (p0 : ByteArray) : ancepsref11_one.f p0 =
  ancepsref11_one.l2 p0 (0 : Int) (0 : Int) (0 : Int) (ByteArray.mk (List.toArray ([] : (List UInt8)))) := (Einf_call Go.Proofs.C15.ctx 59 _).trans (by kernel_rfl)
theorem api_Syllable_60.f_eq (p0 : (List (Int × (Int × (Int × (Int × Bool)))))) (p1 : Int) : api_Syllable_60.f p0 p1 =
  api_Syllable_60.l2 p0 p1 (((List.length p0) : Nat) : Int) (0 : Int) := (Einf_call Go.Proofs.C15.ctx 60 _).trans (by kernel_rfl)
theorem slices_Index_int_int.f_eq (p0 : (List Int)) (p1 : Int) : slices_Index_int_int.f p0 p1 =
  slices_Index_int_int.l2 p0 p1 (((List.length p0) : Nat) : Int) (0 : Int) := (Einf_call Go.Proofs.C15.ctx 61 _).trans (by kernel_rfl)
theorem ancepsref15_in.f_eq (p0 : (List Int)) (p1 : Int) : ancepsref15_in.f p0 p1 =
  ancepsref15_in.l2 p0 p1 (0 : Int) := (Einf_call Go.Proofs.C15.ctx 44 _).trans (by kernel_rfl)
theorem sound_Valid.f_eq (p0 : Int) (p1 : Int) (p2 : ByteArray) : sound_Valid.f p0 p1 p2 =
  ifB (decide (p0 < (1 : Int)))
   (some ((1 : Int), ()))
  (ifB (decide (p0 > (9 : Int)))
    (some ((1 : Int), ()))
   (bindD (sound_quantity.f p0 p1 p2) fun t376 =>
    ifB (!t376.1)
     (some ((6 : Int), ()))
    (ifB ((ByteArray.toList p2) == (ByteArray.toList (ByteArray.mk (List.toArray ([] : (List UInt8))))))
      (some ((7 : Int), ()))
     (ifB (decide ((((ByteArray.size p2) : Nat) : Int) > (8 : Int)))
       (some ((3 : Int), ()))
      (bindD (strings_ContainsFunc.f p2) fun t377 =>
       ifB t377.1
        (some ((2 : Int), ()))
       (some ((0 : Int), ()))))))) := (Einf_call Go.Proofs.C15.ctx 64 _).trans (by kernel_rfl)
theorem syllable_valid.l13_eq (p0 : (List (Int × (Int × ByteArray)))) (p1 : (List Int)) (p2 : (List Int)) (p3 : Int) (p4 : Int) : syllable_valid.l13 p0 p1 p2 p3 p4 =
  ifB (decide (p4 < p3))
   (bindD ((ixAt p2 p4)) fun t378 =>
   ifB (decide (t378 < (0 : Int)))
    (some ((6 : Int), ()))
   (ifB (decide (t378 > (((List.length p0) : Nat) : Int)))
     (some ((6 : Int), ()))
    (ifB (decide (p4 > (0 : Int)))
      (bindD ((ixAt p1 (Go.IntKind.wrap Go.IntKind.i64 (p4 - (1 : Int))))) fun t379 =>
      ifB (decide (t379 > t378))
       (some ((18 : Int), ()))
      (syllable_valid.l13 p0 p1 p2 p3 (Go.IntKind.wrap Go.IntKind.i64 (p4 + (1 : Int)))))
     (syllable_valid.l13 p0 p1 p2 p3 (Go.IntKind.wrap Go.IntKind.i64 (p4 + (1 : Int)))))))
  (some ((0 : Int), ())) := (loopAt_step Go.Proofs.C15.ctx 47 13 _).trans (by kernel_rfl)
theorem syllable_between.l6_eq (p0 : Int) (p1 : Int) (p2 : (List Int)) (p3 : Int) (p4 : Int) (p5 : (List (Int × (Int × ByteArray)))) (p6 : (List Int)) (p7 : (List (Int × (Int × ByteArray)))) (p8 : (List Int)) : syllable_between.l6 p0 p1 p2 p3 p4 p5 p6 p7 p8 =
  ifB (decide (p4 < p3))
   (bindD ((ixAt p2 p4)) fun t380 =>
   ifB (decide (t380 > p0))
    (ifB (decide (t380 ≤ p1))
     (bindD ((Go.Proofs.R.grow ((List.length p8) + (List.length ((Go.IntKind.wrap Go.IntKind.i64 ((Go.IntKind.wrap Go.IntKind.i64 (t380 - p0)) - (1 : Int))) :: ([] : (List Int))))))) fun t381 =>
     syllable_between.l6 p0 p1 p2 p3 (Go.IntKind.wrap Go.IntKind.i64 (p4 + (1 : Int))) p5 p6 p7 (p8 ++ ((Go.IntKind.wrap Go.IntKind.i64 ((Go.IntKind.wrap Go.IntKind.i64 (t380 - p0)) - (1 : Int))) :: ([] : (List Int)))))
    (syllable_between.l6 p0 p1 p2 p3 (Go.IntKind.wrap Go.IntKind.i64 (p4 + (1 : Int))) p5 p6 p7 p8))
   (syllable_between.l6 p0 p1 p2 p3 (Go.IntKind.wrap Go.IntKind.i64 (p4 + (1 : Int))) p5 p6 p7 p8))
  (some (p7, (p8, ()))) := (loopAt_step Go.Proofs.C15.ctx 50 6 _).trans (by kernel_rfl)
theorem cluster_Valid.f_eq (p0 : (List (Int × (Int × ByteArray)))) (p1 : (List Int)) : cluster_Valid.f p0 p1 =
  ifB (decide ((((List.length p0) : Nat) : Int) > (12 : Int)))
   (some ((3 : Int), ()))
  (ifB (decide ((((List.length p1) : Nat) : Int) > (12 : Int)))
    (some ((3 : Int), ()))
   (cluster_Valid.l4 p0 (((List.length p0) : Nat) : Int) (0 : Int) p0 p1)) := (Einf_call Go.Proofs.C15.ctx 55 _).trans (by kernel_rfl)
theorem cluster_class.f_eq (p0 : (List (Int × (Int × ByteArray)))) (p1 : (List Int)) : cluster_class.f p0 p1 =
  bindD (sound_Beats.f p0) fun t382 =>
  ifB (decide (t382.1 ≤ (1 : Int)))
   (some ((1 : Int), ()))
  (bindD (cluster_core.f p0 p1) fun t383 =>
   ifB ((((List.length t383.1) : Nat) : Int) != (2 : Int))
    (some ((4 : Int), ()))
   (bindD ((ixAt t383.1 (0 : Int))) fun t384 =>
    bindD ((ixAt t383.1 (0 : Int))) fun t385 =>
    bindD ((ixAt p0 t385)) fun t386 =>
    ifB (t386.1 != (3 : Int))
     (some ((4 : Int), ()))
    (bindD ((ixAt t383.1 (1 : Int))) fun t387 =>
     bindD ((ixAt t383.1 (1 : Int))) fun t388 =>
     bindD ((ixAt p0 t388)) fun t389 =>
     ifB (t389.1 != (4 : Int))
      (some ((4 : Int), ()))
     (ifB ((((List.length p1) : Nat) : Int) == (0 : Int))
       (some ((2 : Int), ()))
      (bindD ((ixAt p1 (0 : Int))) fun t390 =>
       bindD ((ixAt t383.1 (1 : Int))) fun t391 =>
       bindD ((ixAt t383.1 (1 : Int))) fun t392 =>
       ifB (decide (t390 > t392))
        (some ((2 : Int), ()))
       (bindD ((ixAt p1 (Go.IntKind.wrap Go.IntKind.i64 ((((List.length p1) : Nat) : Int) - (1 : Int))))) fun t393 =>
        bindD ((ixAt t383.1 (0 : Int))) fun t394 =>
        bindD ((ixAt t383.1 (0 : Int))) fun t395 =>
        ifB (decide (t393 ≤ t395))
         (some ((3 : Int), ()))
        (some ((4 : Int), ())))))))) := (Einf_call Go.Proofs.C15.ctx 65 _).trans (by kernel_rfl)
theorem cluster_core.f_eq (p0 : (List (Int × (Int × ByteArray)))) (p1 : (List Int)) : cluster_core.f p0 p1 =
  cluster_core.l3 p0 (((List.length p0) : Nat) : Int) (0 : Int) ([] : (List Int)) := (Einf_call Go.Proofs.C15.ctx 66 _).trans (by kernel_rfl)
theorem ancepsref11_Valid.f_eq (p0 : Int) (p1 : Int) (p2 : ByteArray) : ancepsref11_Valid.f p0 p1 p2 =
  ifB (decide (p0 < (1 : Int)))
   (some ((1 : Int), ()))
  (ifB (decide (p0 > (9 : Int)))
    (some ((1 : Int), ()))
   (ifB (p0 == (1 : Int))
     (ifB (decide (p1 ≥ (1 : Int)))
      (ifB (p0 == (2 : Int))
       (ifB (!(p1 == (2 : Int)))
        (some ((6 : Int), ()))
       (ifB ((ByteArray.toList p2) == (ByteArray.toList (ByteArray.mk (List.toArray ([] : (List UInt8))))))
         (some ((7 : Int), ()))
        (ifB (decide ((((ByteArray.size p2) : Nat) : Int) > (8 : Int)))
          (some ((3 : Int), ()))
         (ancepsref11_Valid.l15 (0 : Int) p0 p1 p2))))
      (ifB (!(decide (p1 ≤ (3 : Int))))
        (some ((6 : Int), ()))
       (ifB ((ByteArray.toList p2) == (ByteArray.toList (ByteArray.mk (List.toArray ([] : (List UInt8))))))
         (some ((7 : Int), ()))
        (ifB (decide ((((ByteArray.size p2) : Nat) : Int) > (8 : Int)))
          (some ((3 : Int), ()))
         (ancepsref11_Valid.l15 (0 : Int) p0 p1 p2)))))
     (ifB (p0 == (2 : Int))
       (ifB (!(p1 == (2 : Int)))
        (some ((6 : Int), ()))
       (ifB ((ByteArray.toList p2) == (ByteArray.toList (ByteArray.mk (List.toArray ([] : (List UInt8))))))
         (some ((7 : Int), ()))
        (ifB (decide ((((ByteArray.size p2) : Nat) : Int) > (8 : Int)))
          (some ((3 : Int), ()))
         (ancepsref11_Valid.l15 (0 : Int) p0 p1 p2))))
      (some ((6 : Int), ()))))
    (ifB (p0 == (2 : Int))
      (ifB (!(p1 == (2 : Int)))
       (some ((6 : Int), ()))
      (ifB ((ByteArray.toList p2) == (ByteArray.toList (ByteArray.mk (List.toArray ([] : (List UInt8))))))
        (some ((7 : Int), ()))
       (ifB (decide ((((ByteArray.size p2) : Nat) : Int) > (8 : Int)))
         (some ((3 : Int), ()))
        (ancepsref11_Valid.l15 (0 : Int) p0 p1 p2))))
     (ifB (!(p1 == (0 : Int)))
       (some ((6 : Int), ()))
      (ifB ((ByteArray.toList p2) == (ByteArray.toList (ByteArray.mk (List.toArray ([] : (List UInt8))))))
        (some ((7 : Int), ()))
       (ifB (decide ((((ByteArray.size p2) : Nat) : Int) > (8 : Int)))
         (some ((3 : Int), ()))
        (ancepsref11_Valid.l15 (0 : Int) p0 p1 p2))))))) := (Einf_call Go.Proofs.C15.ctx 67 _).trans (by kernel_rfl)
theorem ancepsref15_Valid.l12_eq (p0 : (List (Int × (Int × ByteArray)))) (p1 : (List Int)) (p2 : Int) : ancepsref15_Valid.l12 p0 p1 p2 =
  ifB (decide (p2 < (((List.length p1) : Nat) : Int)))
   (bindD ((ixAt p1 p2)) fun t396 =>
   ifB (decide (t396 < (0 : Int)))
    (some ((6 : Int), ()))
   (bindD ((ixAt p1 p2)) fun t397 =>
    ifB (decide (t397 > (((List.length p0) : Nat) : Int)))
     (some ((6 : Int), ()))
    (ifB (decide (p2 > (0 : Int)))
      (bindD ((ixAt p1 p2)) fun t398 =>
      bindD ((ixAt p1 (Go.IntKind.wrap Go.IntKind.i64 (p2 - (1 : Int))))) fun t399 =>
      ifB (decide (t398 < t399))
       (some ((18 : Int), ()))
      (ancepsref15_Valid.l12 p0 p1 (Go.IntKind.wrap Go.IntKind.i64 (p2 + (1 : Int)))))
     (ancepsref15_Valid.l12 p0 p1 (Go.IntKind.wrap Go.IntKind.i64 (p2 + (1 : Int)))))))
  (some ((0 : Int), ())) := (loopAt_step Go.Proofs.C15.ctx 51 12 _).trans (by kernel_rfl)
theorem ancepsref15_cluster.l3_eq (p0 : (List (Int × (Int × ByteArray)))) (p1 : (List Int)) (p2 : Int) (p3 : Int) (p4 : Int) (p5 : (List (Int × (Int × ByteArray)))) (p6 : (List Int)) (p7 : (List (Int × (Int × ByteArray)))) (p8 : (List Int)) : ancepsref15_cluster.l3 p0 p1 p2 p3 p4 p5 p6 p7 p8 =
  ifB (decide (p4 < p3))
   (bindD ((ixAt p0 p4)) fun t400 =>
   bindD ((Go.Proofs.R.grow ((List.length p7) + (List.length ((t400.1, (t400.2.1, t400.2.2)) :: ([] : (List (Int × (Int × ByteArray))))))))) fun t401 =>
   ancepsref15_cluster.l3 p0 p1 p2 p3 (Go.IntKind.wrap Go.IntKind.i64 (p4 + (1 : Int))) p5 p6 (p7 ++ ((t400.1, (t400.2.1, t400.2.2)) :: ([] : (List (Int × (Int × ByteArray)))))) p8)
  (ancepsref15_cluster.l7 p1 p2 p3 (0 : Int) p5 p6 p7 p8) := (loopAt_step Go.Proofs.C15.ctx 53 3 _).trans (by kernel_rfl)
theorem ancepsref14_Valid.f_eq (p0 : (List (Int × (Int × ByteArray)))) (p1 : (List Int)) : ancepsref14_Valid.f p0 p1 =
  ifB (decide ((((List.length p0) : Nat) : Int) > (12 : Int)))
   (some ((3 : Int), ()))
  (ifB (decide ((((List.length p1) : Nat) : Int) > (12 : Int)))
    (some ((3 : Int), ()))
   (ancepsref14_Valid.l4 (0 : Int) p0 p1)) := (Einf_call Go.Proofs.C15.ctx 56 _).trans (by kernel_rfl)
theorem ancepsref14_class.f_eq (p0 : (List (Int × (Int × ByteArray)))) (p1 : (List Int)) : ancepsref14_class.f p0 p1 =
  bindD (ancepsref11_Beats.f p0) fun t402 =>
  ifB (decide (t402.1 ≤ (1 : Int)))
   (some ((1 : Int), ()))
  (bindD (ancepsref14_core.f p0 p1) fun t403 =>
   ifB ((((List.length t403.1) : Nat) : Int) != (2 : Int))
    (some ((4 : Int), ()))
   (bindD ((ixAt t403.1 (0 : Int))) fun t404 =>
    bindD ((ixAt t403.1 (0 : Int))) fun t405 =>
    bindD ((ixAt p0 t405)) fun t406 =>
    ifB (t406.1 != (3 : Int))
     (some ((4 : Int), ()))
    (bindD ((ixAt t403.1 (1 : Int))) fun t407 =>
     bindD ((ixAt t403.1 (1 : Int))) fun t408 =>
     bindD ((ixAt p0 t408)) fun t409 =>
     ifB (t409.1 != (4 : Int))
      (some ((4 : Int), ()))
     (ancepsref14_class.l8 true (decide ((((List.length p1) : Nat) : Int) > (0 : Int))) (0 : Int) p0 p1 t403.1)))) := (Einf_call Go.Proofs.C15.ctx 68 _).trans (by kernel_rfl)
theorem ancepsref14_core.f_eq (p0 : (List (Int × (Int × ByteArray)))) (p1 : (List Int)) : ancepsref14_core.f p0 p1 =
  ancepsref14_core.l3 (0 : Int) p0 p1 ([] : (List Int)) := (Einf_call Go.Proofs.C15.ctx 69 _).trans (by kernel_rfl)
theorem ancepsref11_Made.f_eq (p0 : Int) : ancepsref11_Made.f p0 =
  bindD ((ixAt (((1 : Int), ((3 : Int), (ByteArray.mk (List.toArray ((97 : UInt8) :: ([] : (List UInt8))))))) :: (((1 : Int), ((1 : Int), (ByteArray.mk (List.toArray ((101 : UInt8) :: ([] : (List UInt8))))))) :: (((1 : Int), ((2 : Int), (ByteArray.mk (List.toArray ((111 : UInt8) :: ([] : (List UInt8))))))) :: (((1 : Int), ((3 : Int), (ByteArray.mk (List.toArray ((105 : UInt8) :: ([] : (List UInt8))))))) :: (((2 : Int), ((2 : Int), (ByteArray.mk (List.toArray ((97 : UInt8) :: ((101 : UInt8) :: ([] : (List UInt8)))))))) :: (((3 : Int), ((0 : Int), (ByteArray.mk (List.toArray ((116 : UInt8) :: ([] : (List UInt8))))))) :: (((3 : Int), ((0 : Int), (ByteArray.mk (List.toArray ((98 : UInt8) :: ([] : (List UInt8))))))) :: (((4 : Int), ((0 : Int), (ByteArray.mk (List.toArray ((114 : UInt8) :: ([] : (List UInt8))))))) :: (((4 : Int), ((0 : Int), (ByteArray.mk (List.toArray ((108 : UInt8) :: ([] : (List UInt8))))))) :: (((5 : Int), ((0 : Int), (ByteArray.mk (List.toArray ((109 : UInt8) :: ([] : (List UInt8))))))) :: (((5 : Int), ((0 : Int), (ByteArray.mk (List.toArray ((110 : UInt8) :: ([] : (List UInt8))))))) :: (((6 : Int), ((0 : Int), (ByteArray.mk (List.toArray ((115 : UInt8) :: ([] : (List UInt8))))))) :: (((7 : Int), ((0 : Int), (ByteArray.mk (List.toArray ((120 : UInt8) :: ([] : (List UInt8))))))) :: (((8 : Int), ((0 : Int), (ByteArray.mk (List.toArray ((118 : UInt8) :: ([] : (List UInt8))))))) :: (((9 : Int), ((0 : Int), (ByteArray.mk (List.toArray ((104 : UInt8) :: ([] : (List UInt8))))))) :: (((1 : Int), ((3 : Int), (ByteArray.mk (List.toArray ((117 : UInt8) :: ([] : (List UInt8))))))) :: ([] : (List (Int × (Int × ByteArray)))))))))))))))))))) (Int.tmod (Go.IntKind.wrap Go.IntKind.i64 p0) (((List.length (((1 : Int), ((3 : Int), (ByteArray.mk (List.toArray ((97 : UInt8) :: ([] : (List UInt8))))))) :: (((1 : Int), ((1 : Int), (ByteArray.mk (List.toArray ((101 : UInt8) :: ([] : (List UInt8))))))) :: (((1 : Int), ((2 : Int), (ByteArray.mk (List.toArray ((111 : UInt8) :: ([] : (List UInt8))))))) :: (((1 : Int), ((3 : Int), (ByteArray.mk (List.toArray ((105 : UInt8) :: ([] : (List UInt8))))))) :: (((2 : Int), ((2 : Int), (ByteArray.mk (List.toArray ((97 : UInt8) :: ((101 : UInt8) :: ([] : (List UInt8)))))))) :: (((3 : Int), ((0 : Int), (ByteArray.mk (List.toArray ((116 : UInt8) :: ([] : (List UInt8))))))) :: (((3 : Int), ((0 : Int), (ByteArray.mk (List.toArray ((98 : UInt8) :: ([] : (List UInt8))))))) :: (((4 : Int), ((0 : Int), (ByteArray.mk (List.toArray ((114 : UInt8) :: ([] : (List UInt8))))))) :: (((4 : Int), ((0 : Int), (ByteArray.mk (List.toArray ((108 : UInt8) :: ([] : (List UInt8))))))) :: (((5 : Int), ((0 : Int), (ByteArray.mk (List.toArray ((109 : UInt8) :: ([] : (List UInt8))))))) :: (((5 : Int), ((0 : Int), (ByteArray.mk (List.toArray ((110 : UInt8) :: ([] : (List UInt8))))))) :: (((6 : Int), ((0 : Int), (ByteArray.mk (List.toArray ((115 : UInt8) :: ([] : (List UInt8))))))) :: (((7 : Int), ((0 : Int), (ByteArray.mk (List.toArray ((120 : UInt8) :: ([] : (List UInt8))))))) :: (((8 : Int), ((0 : Int), (ByteArray.mk (List.toArray ((118 : UInt8) :: ([] : (List UInt8))))))) :: (((9 : Int), ((0 : Int), (ByteArray.mk (List.toArray ((104 : UInt8) :: ([] : (List UInt8))))))) :: (((1 : Int), ((3 : Int), (ByteArray.mk (List.toArray ((117 : UInt8) :: ([] : (List UInt8))))))) :: ([] : (List (Int × (Int × ByteArray))))))))))))))))))))) : Nat) : Int)))) fun t410 =>
  bindD ((ixAt (((1 : Int), ((3 : Int), (ByteArray.mk (List.toArray ((97 : UInt8) :: ([] : (List UInt8))))))) :: (((1 : Int), ((1 : Int), (ByteArray.mk (List.toArray ((101 : UInt8) :: ([] : (List UInt8))))))) :: (((1 : Int), ((2 : Int), (ByteArray.mk (List.toArray ((111 : UInt8) :: ([] : (List UInt8))))))) :: (((1 : Int), ((3 : Int), (ByteArray.mk (List.toArray ((105 : UInt8) :: ([] : (List UInt8))))))) :: (((2 : Int), ((2 : Int), (ByteArray.mk (List.toArray ((97 : UInt8) :: ((101 : UInt8) :: ([] : (List UInt8)))))))) :: (((3 : Int), ((0 : Int), (ByteArray.mk (List.toArray ((116 : UInt8) :: ([] : (List UInt8))))))) :: (((3 : Int), ((0 : Int), (ByteArray.mk (List.toArray ((98 : UInt8) :: ([] : (List UInt8))))))) :: (((4 : Int), ((0 : Int), (ByteArray.mk (List.toArray ((114 : UInt8) :: ([] : (List UInt8))))))) :: (((4 : Int), ((0 : Int), (ByteArray.mk (List.toArray ((108 : UInt8) :: ([] : (List UInt8))))))) :: (((5 : Int), ((0 : Int), (ByteArray.mk (List.toArray ((109 : UInt8) :: ([] : (List UInt8))))))) :: (((5 : Int), ((0 : Int), (ByteArray.mk (List.toArray ((110 : UInt8) :: ([] : (List UInt8))))))) :: (((6 : Int), ((0 : Int), (ByteArray.mk (List.toArray ((115 : UInt8) :: ([] : (List UInt8))))))) :: (((7 : Int), ((0 : Int), (ByteArray.mk (List.toArray ((120 : UInt8) :: ([] : (List UInt8))))))) :: (((8 : Int), ((0 : Int), (ByteArray.mk (List.toArray ((118 : UInt8) :: ([] : (List UInt8))))))) :: (((9 : Int), ((0 : Int), (ByteArray.mk (List.toArray ((104 : UInt8) :: ([] : (List UInt8))))))) :: (((1 : Int), ((3 : Int), (ByteArray.mk (List.toArray ((117 : UInt8) :: ([] : (List UInt8))))))) :: ([] : (List (Int × (Int × ByteArray)))))))))))))))))))) (Int.tmod (Go.IntKind.wrap Go.IntKind.i64 p0) (((List.length (((1 : Int), ((3 : Int), (ByteArray.mk (List.toArray ((97 : UInt8) :: ([] : (List UInt8))))))) :: (((1 : Int), ((1 : Int), (ByteArray.mk (List.toArray ((101 : UInt8) :: ([] : (List UInt8))))))) :: (((1 : Int), ((2 : Int), (ByteArray.mk (List.toArray ((111 : UInt8) :: ([] : (List UInt8))))))) :: (((1 : Int), ((3 : Int), (ByteArray.mk (List.toArray ((105 : UInt8) :: ([] : (List UInt8))))))) :: (((2 : Int), ((2 : Int), (ByteArray.mk (List.toArray ((97 : UInt8) :: ((101 : UInt8) :: ([] : (List UInt8)))))))) :: (((3 : Int), ((0 : Int), (ByteArray.mk (List.toArray ((116 : UInt8) :: ([] : (List UInt8))))))) :: (((3 : Int), ((0 : Int), (ByteArray.mk (List.toArray ((98 : UInt8) :: ([] : (List UInt8))))))) :: (((4 : Int), ((0 : Int), (ByteArray.mk (List.toArray ((114 : UInt8) :: ([] : (List UInt8))))))) :: (((4 : Int), ((0 : Int), (ByteArray.mk (List.toArray ((108 : UInt8) :: ([] : (List UInt8))))))) :: (((5 : Int), ((0 : Int), (ByteArray.mk (List.toArray ((109 : UInt8) :: ([] : (List UInt8))))))) :: (((5 : Int), ((0 : Int), (ByteArray.mk (List.toArray ((110 : UInt8) :: ([] : (List UInt8))))))) :: (((6 : Int), ((0 : Int), (ByteArray.mk (List.toArray ((115 : UInt8) :: ([] : (List UInt8))))))) :: (((7 : Int), ((0 : Int), (ByteArray.mk (List.toArray ((120 : UInt8) :: ([] : (List UInt8))))))) :: (((8 : Int), ((0 : Int), (ByteArray.mk (List.toArray ((118 : UInt8) :: ([] : (List UInt8))))))) :: (((9 : Int), ((0 : Int), (ByteArray.mk (List.toArray ((104 : UInt8) :: ([] : (List UInt8))))))) :: (((1 : Int), ((3 : Int), (ByteArray.mk (List.toArray ((117 : UInt8) :: ([] : (List UInt8))))))) :: ([] : (List (Int × (Int × ByteArray))))))))))))))))))))) : Nat) : Int)))) fun t411 =>
  some (t411.1, (t411.2.1, (t411.2.2, ()))) := (Einf_call Go.Proofs.C15.ctx 63 _).trans (by kernel_rfl)
theorem ancepsref11_one.l2_eq (p0 : ByteArray) (p1 : Int) (p2 : Int) (p3 : Int) (p4 : ByteArray) : ancepsref11_one.l2 p0 p1 p2 p3 p4 =
  ifB (decide (p1 < (((ByteArray.size p0) : Nat) : Int)))
   (bindD ((Go.Proofs.R.strAt p0 p1)) fun t412 =>
   ifB (t412 != (47 : Int))
    (ancepsref11_one.l2 p0 (Go.IntKind.wrap Go.IntKind.i64 (p1 + (1 : Int))) p2 p3 p4)
   (ifB (decide (p1 < (((ByteArray.size p0) : Nat) : Int)))
     (bindD ((Go.Proofs.R.subS p0 (Go.IntKind.wrap Go.IntKind.i64 (p1 + (1 : Int))) (((ByteArray.size p0) : Nat) : Int))) fun t413 =>
     ifB ((ByteArray.toList t413) == (ByteArray.toList (ByteArray.mk (List.toArray ([] : (List UInt8))))))
      (some ((0 : Int), ((0 : Int), ((ByteArray.mk (List.toArray ([] : (List UInt8)))), (false, ())))))
     (bindD ((Go.Proofs.R.subS p0 (0 : Int) p1)) fun t414 =>
      ancepsref11_one.l11 t413 (1 : Int) p2 p3 p4 (0 : Int) (0 : Int) t414))
    (some ((0 : Int), ((0 : Int), ((ByteArray.mk (List.toArray ([] : (List UInt8)))), (false, ())))))))
  (ifB (decide (p1 < (((ByteArray.size p0) : Nat) : Int)))
    (bindD ((Go.Proofs.R.subS p0 (Go.IntKind.wrap Go.IntKind.i64 (p1 + (1 : Int))) (((ByteArray.size p0) : Nat) : Int))) fun t415 =>
    ifB ((ByteArray.toList t415) == (ByteArray.toList (ByteArray.mk (List.toArray ([] : (List UInt8))))))
     (some ((0 : Int), ((0 : Int), ((ByteArray.mk (List.toArray ([] : (List UInt8)))), (false, ())))))
    (bindD ((Go.Proofs.R.subS p0 (0 : Int) p1)) fun t416 =>
     ancepsref11_one.l11 t415 (1 : Int) p2 p3 p4 (0 : Int) (0 : Int) t416))
   (some ((0 : Int), ((0 : Int), ((ByteArray.mk (List.toArray ([] : (List UInt8)))), (false, ())))))) := (loopAt_step Go.Proofs.C15.ctx 59 2 _).trans (by kernel_rfl)
theorem api_Syllable_60.l2_eq (p0 : (List (Int × (Int × (Int × (Int × Bool)))))) (p1 : Int) (p2 : Int) (p3 : Int) : api_Syllable_60.l2 p0 p1 p2 p3 =
  ifB (decide (p3 < p2))
   (bindD ((ixAt p0 p3)) fun t417 =>
   bindD (syllable_Text_1.f t417.1 t417.2.1 t417.2.2.1 t417.2.2.2.1 t417.2.2.2.2 p1) fun t418 =>
   ifB t418.1
    (some (p3, ()))
   (api_Syllable_60.l2 p0 p1 p2 (Go.IntKind.wrap Go.IntKind.i64 (p3 + (1 : Int)))))
  (some ((-(1 : Int)), ())) := (loopAt_step Go.Proofs.C15.ctx 60 2 _).trans (by kernel_rfl)
theorem slices_Index_int_int.l2_eq (p0 : (List Int)) (p1 : Int) (p2 : Int) (p3 : Int) : slices_Index_int_int.l2 p0 p1 p2 p3 =
  ifB (decide (p3 < p2))
   (bindD ((ixAt p0 p3)) fun t419 =>
   ifB (p1 == t419)
    (some (p3, ()))
   (slices_Index_int_int.l2 p0 p1 p2 (Go.IntKind.wrap Go.IntKind.i64 (p3 + (1 : Int)))))
  (some ((-(1 : Int)), ())) := (loopAt_step Go.Proofs.C15.ctx 61 2 _).trans (by kernel_rfl)
theorem ancepsref15_in.l2_eq (p0 : (List Int)) (p1 : Int) (p2 : Int) : ancepsref15_in.l2 p0 p1 p2 =
  ifB (decide (p2 < (((List.length p0) : Nat) : Int)))
   (bindD ((ixAt p0 p2)) fun t420 =>
   ifB (t420 == p1)
    (some (true, ()))
   (ancepsref15_in.l2 p0 p1 (Go.IntKind.wrap Go.IntKind.i64 (p2 + (1 : Int)))))
  (some (false, ())) := (loopAt_step Go.Proofs.C15.ctx 44 2 _).trans (by kernel_rfl)
theorem sound_quantity.f_eq (p0 : Int) (p1 : Int) (p2 : ByteArray) : sound_quantity.f p0 p1 p2 =
  ifB (p0 == (1 : Int))
   (ifB (decide (p1 ≥ (1 : Int)))
    (some ((decide (p1 ≤ (3 : Int))), ()))
   (some (false, ())))
  (ifB (p0 == (2 : Int))
    (some ((p1 == (2 : Int)), ()))
   (some ((p1 == (0 : Int)), ()))) := (Einf_call Go.Proofs.C15.ctx 74 _).trans (by kernel_rfl)
theorem strings_ContainsFunc.f_eq (p0 : ByteArray) : strings_ContainsFunc.f p0 =
  bindD (strings_IndexFunc.f p0) fun t421 =>
  some ((decide (t421.1 ≥ (0 : Int))), ()) := (Einf_call Go.Proofs.C15.ctx 75 _).trans (by kernel_rfl)
theorem cluster_Valid.l4_eq (p0 : (List (Int × (Int × ByteArray)))) (p1 : Int) (p2 : Int) (p3 : (List (Int × (Int × ByteArray)))) (p4 : (List Int)) : cluster_Valid.l4 p0 p1 p2 p3 p4 =
  ifB (decide (p2 < p1))
   (bindD ((ixAt p0 p2)) fun t422 =>
   bindD (sound_Valid.f t422.1 t422.2.1 t422.2.2) fun t423 =>
   ifB (t423.1 != (0 : Int))
    (some (t423.1, ()))
   (bindD (sound_Nucleus.f t422.1 t422.2.1 t422.2.2) fun t424 =>
    ifB t424.1
     (some ((1 : Int), ()))
    (cluster_Valid.l4 p0 p1 (Go.IntKind.wrap Go.IntKind.i64 (p2 + (1 : Int))) p3 p4)))
  (cluster_Valid.l14 (0 : Int) p4 (((List.length p4) : Nat) : Int) (0 : Int) p3 p4) := (loopAt_step Go.Proofs.C15.ctx 55 4 _).trans (by kernel_rfl)
theorem sound_Beats.f_eq (p0 : (List (Int × (Int × ByteArray)))) : sound_Beats.f p0 =
  sound_Beats.l3 (0 : Int) p0 (((List.length p0) : Nat) : Int) (0 : Int) := (Einf_call Go.Proofs.C15.ctx 78 _).trans (by kernel_rfl)
theorem cluster_core.l3_eq (p0 : (List (Int × (Int × ByteArray)))) (p1 : Int) (p2 : Int) (p3 : (List Int)) : cluster_core.l3 p0 p1 p2 p3 =
  ifB (decide (p2 < p1))
   (bindD ((ixAt p0 p2)) fun t425 =>
   ifB (t425.1 != (9 : Int))
    (bindD ((Go.Proofs.R.grow ((List.length p3) + (List.length (p2 :: ([] : (List Int))))))) fun t426 =>
    cluster_core.l3 p0 p1 (Go.IntKind.wrap Go.IntKind.i64 (p2 + (1 : Int))) (p3 ++ (p2 :: ([] : (List Int)))))
   (cluster_core.l3 p0 p1 (Go.IntKind.wrap Go.IntKind.i64 (p2 + (1 : Int))) p3))
  (some (p3, ())) := (loopAt_step Go.Proofs.C15.ctx 66 3 _).trans (by kernel_rfl)
theorem ancepsref11_Valid.l15_eq (p0 : Int) (p1 : Int) (p2 : Int) (p3 : ByteArray) : ancepsref11_Valid.l15 p0 p1 p2 p3 =
  ifB (decide (p0 < (((ByteArray.size p3) : Nat) : Int)))
   (bindD ((Go.Proofs.R.strAt p3 p0)) fun t427 =>
   bindD (ancepsref11_letter.f t427) fun t428 =>
   ifB (!t428.1)
    (some ((2 : Int), ()))
   (ancepsref11_Valid.l15 (Go.IntKind.wrap Go.IntKind.i64 (p0 + (1 : Int))) p1 p2 p3))
  (some ((0 : Int), ())) := (loopAt_step Go.Proofs.C15.ctx 67 15 _).trans (by kernel_rfl)
theorem ancepsref15_cluster.l7_eq (p0 : (List Int)) (p1 : Int) (p2 : Int) (p3 : Int) (p4 : (List (Int × (Int × ByteArray)))) (p5 : (List Int)) (p6 : (List (Int × (Int × ByteArray)))) (p7 : (List Int)) : ancepsref15_cluster.l7 p0 p1 p2 p3 p4 p5 p6 p7 =
  ifB (decide (p3 < (((List.length p0) : Nat) : Int)))
   (bindD ((ixAt p0 p3)) fun t429 =>
   ifB (decide (t429 > p1))
    (bindD ((ixAt p0 p3)) fun t430 =>
    ifB (decide (t430 ≤ p2))
     (bindD ((ixAt p0 p3)) fun t431 =>
     bindD ((Go.Proofs.R.grow ((List.length p7) + (List.length ((Go.IntKind.wrap Go.IntKind.i64 ((Go.IntKind.wrap Go.IntKind.i64 (t431 - p1)) - (1 : Int))) :: ([] : (List Int))))))) fun t432 =>
     ancepsref15_cluster.l7 p0 p1 p2 (Go.IntKind.wrap Go.IntKind.i64 (p3 + (1 : Int))) p4 p5 p6 (p7 ++ ((Go.IntKind.wrap Go.IntKind.i64 ((Go.IntKind.wrap Go.IntKind.i64 (t431 - p1)) - (1 : Int))) :: ([] : (List Int)))))
    (ancepsref15_cluster.l7 p0 p1 p2 (Go.IntKind.wrap Go.IntKind.i64 (p3 + (1 : Int))) p4 p5 p6 p7))
   (ancepsref15_cluster.l7 p0 p1 p2 (Go.IntKind.wrap Go.IntKind.i64 (p3 + (1 : Int))) p4 p5 p6 p7))
  (some (p6, (p7, ()))) := (loopAt_step Go.Proofs.C15.ctx 53 7 _).trans (by kernel_rfl)
theorem ancepsref14_Valid.l4_eq (p0 : Int) (p1 : (List (Int × (Int × ByteArray)))) (p2 : (List Int)) : ancepsref14_Valid.l4 p0 p1 p2 =
  ifB (decide (p0 < (((List.length p1) : Nat) : Int)))
   (bindD ((ixAt p1 p0)) fun t433 =>
   bindD (ancepsref11_Valid.f t433.1 t433.2.1 t433.2.2) fun t434 =>
   ifB (t434.1 != (0 : Int))
    (some (t434.1, ()))
   (bindD ((ixAt p1 p0)) fun t435 =>
    bindD (ancepsref11_Nucleus.f t435.1 t435.2.1 t435.2.2) fun t436 =>
    ifB t436.1
     (some ((1 : Int), ()))
    (ancepsref14_Valid.l4 (Go.IntKind.wrap Go.IntKind.i64 (p0 + (1 : Int))) p1 p2)))
  (ancepsref14_Valid.l12 (0 : Int) p1 p2) := (loopAt_step Go.Proofs.C15.ctx 56 4 _).trans (by kernel_rfl)
theorem ancepsref11_Beats.f_eq (p0 : (List (Int × (Int × ByteArray)))) : ancepsref11_Beats.f p0 =
  ancepsref11_Beats.l3 p0 (0 : Int) (0 : Int) := (Einf_call Go.Proofs.C15.ctx 80 _).trans (by kernel_rfl)
theorem ancepsref14_class.l8_eq (p0 : Bool) (p1 : Bool) (p2 : Int) (p3 : (List (Int × (Int × ByteArray)))) (p4 : (List Int)) (p5 : (List Int)) : ancepsref14_class.l8 p0 p1 p2 p3 p4 p5 =
  ifB (decide (p2 < (((List.length p4) : Nat) : Int)))
   (ifB p0
    (bindD ((ixAt p4 p2)) fun t437 =>
    bindD ((ixAt p5 (1 : Int))) fun t438 =>
    bindD ((ixAt p5 (1 : Int))) fun t439 =>
    ifB p1
     (bindD ((ixAt p4 p2)) fun t440 =>
     bindD ((ixAt p5 (0 : Int))) fun t441 =>
     bindD ((ixAt p5 (0 : Int))) fun t442 =>
     ancepsref14_class.l8 (decide (t437 > t439)) (decide (t440 ≤ t442)) (Go.IntKind.wrap Go.IntKind.i64 (p2 + (1 : Int))) p3 p4 p5)
    (ancepsref14_class.l8 (decide (t437 > t439)) false (Go.IntKind.wrap Go.IntKind.i64 (p2 + (1 : Int))) p3 p4 p5))
   (ifB p1
     (bindD ((ixAt p4 p2)) fun t443 =>
     bindD ((ixAt p5 (0 : Int))) fun t444 =>
     bindD ((ixAt p5 (0 : Int))) fun t445 =>
     ancepsref14_class.l8 false (decide (t443 ≤ t445)) (Go.IntKind.wrap Go.IntKind.i64 (p2 + (1 : Int))) p3 p4 p5)
    (ancepsref14_class.l8 false false (Go.IntKind.wrap Go.IntKind.i64 (p2 + (1 : Int))) p3 p4 p5)))
  (ifB p0
    (some ((2 : Int), ()))
   (ifB p1
     (some ((3 : Int), ()))
    (some ((4 : Int), ())))) := (loopAt_step Go.Proofs.C15.ctx 68 8 _).trans (by kernel_rfl)
theorem ancepsref14_core.l3_eq (p0 : Int) (p1 : (List (Int × (Int × ByteArray)))) (p2 : (List Int)) (p3 : (List Int)) : ancepsref14_core.l3 p0 p1 p2 p3 =
  ifB (decide (p0 < (((List.length p1) : Nat) : Int)))
   (bindD ((ixAt p1 p0)) fun t446 =>
   ifB (t446.1 != (9 : Int))
    (bindD ((Go.Proofs.R.grow ((List.length p3) + (List.length (p0 :: ([] : (List Int))))))) fun t447 =>
    ancepsref14_core.l3 (Go.IntKind.wrap Go.IntKind.i64 (p0 + (1 : Int))) p1 p2 (p3 ++ (p0 :: ([] : (List Int)))))
   (ancepsref14_core.l3 (Go.IntKind.wrap Go.IntKind.i64 (p0 + (1 : Int))) p1 p2 p3))
  (some (p3, ())) := (loopAt_step Go.Proofs.C15.ctx 69 3 _).trans (by kernel_rfl)
theorem ancepsref11_one.l11_eq (p0 : ByteArray) (p1 : Int) (p2 : Int) (p3 : Int) (p4 : ByteArray) (p5 : Int) (p6 : Int) (p7 : ByteArray) : ancepsref11_one.l11 p0 p1 p2 p3 p4 p5 p6 p7 =
  bindD (ancepsref11_letters.f) fun t448 =>
  ifB (decide (p1 < (((ByteArray.size t448.1) : Nat) : Int)))
   (bindD (ancepsref11_letters.f) fun t449 =>
   bindD ((Go.Proofs.R.strAt t449.1 p1)) fun t450 =>
   bindD ((Go.Proofs.R.strAt p0 (0 : Int))) fun t451 =>
   ifB (t450 == t451)
    (ancepsref11_one.l11 p0 (Go.IntKind.wrap Go.IntKind.i64 (p1 + (1 : Int))) p2 p3 p4 p1 p6 p7)
   (ancepsref11_one.l11 p0 (Go.IntKind.wrap Go.IntKind.i64 (p1 + (1 : Int))) p2 p3 p4 p5 p6 p7))
  (bindD ((Go.Proofs.R.subS p0 (1 : Int) (((ByteArray.size p0) : Nat) : Int))) fun t452 =>
   bindD (ancepsref11_Nucleus.f p5 p6 p7) fun t453 =>
   ifB t453.1
    (ifB ((((ByteArray.size t452) : Nat) : Int) == (1 : Int))
     (bindD ((Go.Proofs.R.strAt t452 (0 : Int))) fun t454 =>
     ifB (decide (t454 ≥ (49 : Int)))
      (bindD ((Go.Proofs.R.strAt t452 (0 : Int))) fun t455 =>
      ifB (decide (t455 ≤ (51 : Int)))
       (bindD ((Go.Proofs.R.strAt t452 (0 : Int))) fun t456 =>
       bindD (ancepsref11_Valid.f p5 (Go.IntKind.wrap Go.IntKind.i64 ((Go.IntKind.wrap Go.IntKind.i64 t456) - (48 : Int))) p7) fun t457 =>
       some (p5, ((Go.IntKind.wrap Go.IntKind.i64 ((Go.IntKind.wrap Go.IntKind.i64 t456) - (48 : Int))), (p7, ((t457.1 == (0 : Int)), ())))))
      (ifB ((ByteArray.toList t452) == (ByteArray.toList (ByteArray.mk (List.toArray ([] : (List UInt8))))))
        (bindD (ancepsref11_Valid.f p5 p6 p7) fun t458 =>
        some (p5, (p6, (p7, ((t458.1 == (0 : Int)), ())))))
       (some (p5, (p6, (p7, (false, ())))))))
     (ifB ((ByteArray.toList t452) == (ByteArray.toList (ByteArray.mk (List.toArray ([] : (List UInt8))))))
       (bindD (ancepsref11_Valid.f p5 p6 p7) fun t459 =>
       some (p5, (p6, (p7, ((t459.1 == (0 : Int)), ())))))
      (some (p5, (p6, (p7, (false, ())))))))
    (ifB ((ByteArray.toList t452) == (ByteArray.toList (ByteArray.mk (List.toArray ([] : (List UInt8))))))
      (bindD (ancepsref11_Valid.f p5 p6 p7) fun t460 =>
      some (p5, (p6, (p7, ((t460.1 == (0 : Int)), ())))))
     (some (p5, (p6, (p7, (false, ())))))))
   (ifB ((ByteArray.toList t452) == (ByteArray.toList (ByteArray.mk (List.toArray ([] : (List UInt8))))))
     (bindD (ancepsref11_Valid.f p5 p6 p7) fun t461 =>
     some (p5, (p6, (p7, ((t461.1 == (0 : Int)), ())))))
    (some (p5, (p6, (p7, (false, ()))))))) := (loopAt_step Go.Proofs.C15.ctx 59 11 _).trans (by kernel_rfl)
theorem syllable_Text_1.f_eq (p0 : Int) (p1 : Int) (p2 : Int) (p3 : Int) (p4 : Bool) (p5 : Int) : syllable_Text_1.f p0 p1 p2 p3 p4 p5 =
  some ((p1 == p5), ()) := (Einf_call Go.Proofs.C15.ctx 39 _).trans (by kernel_rfl)
theorem strings_IndexFunc.f_eq (p0 : ByteArray) : strings_IndexFunc.f p0 =
  bindD (strings_indexFunc.f p0 true) fun t462 =>
  some (t462.1, ()) := (Einf_call Go.Proofs.C15.ctx 82 _).trans (by kernel_rfl)
theorem cluster_Valid.l14_eq (p0 : Int) (p1 : (List Int)) (p2 : Int) (p3 : Int) (p4 : (List (Int × (Int × ByteArray)))) (p5 : (List Int)) : cluster_Valid.l14 p0 p1 p2 p3 p4 p5 =
  ifB (decide (p3 < p2))
   (bindD ((ixAt p1 p3)) fun t463 =>
   ifB (decide (t463 < (0 : Int)))
    (some ((6 : Int), ()))
   (ifB (decide (t463 > (((List.length p4) : Nat) : Int)))
     (some ((6 : Int), ()))
    (ifB (decide (t463 < p0))
      (some ((18 : Int), ()))
     (cluster_Valid.l14 t463 p1 p2 (Go.IntKind.wrap Go.IntKind.i64 (p3 + (1 : Int))) p4 p5))))
  (some ((0 : Int), ())) := (loopAt_step Go.Proofs.C15.ctx 55 14 _).trans (by kernel_rfl)
theorem sound_Beats.l3_eq (p0 : Int) (p1 : (List (Int × (Int × ByteArray)))) (p2 : Int) (p3 : Int) : sound_Beats.l3 p0 p1 p2 p3 =
  ifB (decide (p3 < p2))
   (bindD ((ixAt p1 p3)) fun t464 =>
   bindD (sound_beats.f t464.1 t464.2.1 t464.2.2) fun t465 =>
   sound_Beats.l3 (Go.IntKind.wrap Go.IntKind.i64 (p0 + t465.1)) p1 p2 (Go.IntKind.wrap Go.IntKind.i64 (p3 + (1 : Int))))
  (some (p0, ())) := (loopAt_step Go.Proofs.C15.ctx 78 3 _).trans (by kernel_rfl)
theorem ancepsref11_letter.f_eq (p0 : Int) : ancepsref11_letter.f p0 =
  ifB (decide (p0 ≥ (97 : Int)))
   (ifB (decide (p0 ≤ (122 : Int)))
    (some (true, ()))
   (ifB (decide (p0 ≥ (48 : Int)))
     (ifB (decide (p0 ≤ (57 : Int)))
      (some (true, ()))
     (ifB (p0 == (95 : Int))
       (some (true, ()))
      (ifB (p0 == (94 : Int))
        (some (true, ()))
       (some ((p0 == (39 : Int)), ())))))
    (ifB (p0 == (95 : Int))
      (some (true, ()))
     (ifB (p0 == (94 : Int))
       (some (true, ()))
      (some ((p0 == (39 : Int)), ()))))))
  (ifB (decide (p0 ≥ (48 : Int)))
    (ifB (decide (p0 ≤ (57 : Int)))
     (some (true, ()))
    (ifB (p0 == (95 : Int))
      (some (true, ()))
     (ifB (p0 == (94 : Int))
       (some (true, ()))
      (some ((p0 == (39 : Int)), ())))))
   (ifB (p0 == (95 : Int))
     (some (true, ()))
    (ifB (p0 == (94 : Int))
      (some (true, ()))
     (some ((p0 == (39 : Int)), ()))))) := (Einf_call Go.Proofs.C15.ctx 79 _).trans (by kernel_rfl)
theorem ancepsref14_Valid.l12_eq (p0 : Int) (p1 : (List (Int × (Int × ByteArray)))) (p2 : (List Int)) : ancepsref14_Valid.l12 p0 p1 p2 =
  ifB (decide (p0 < (((List.length p2) : Nat) : Int)))
   (bindD ((ixAt p2 p0)) fun t466 =>
   ifB (decide (t466 < (0 : Int)))
    (some ((6 : Int), ()))
   (bindD ((ixAt p2 p0)) fun t467 =>
    ifB (decide (t467 > (((List.length p1) : Nat) : Int)))
     (some ((6 : Int), ()))
    (ifB (decide (p0 > (0 : Int)))
      (bindD ((ixAt p2 p0)) fun t468 =>
      bindD ((ixAt p2 (Go.IntKind.wrap Go.IntKind.i64 (p0 - (1 : Int))))) fun t469 =>
      ifB (decide (t468 < t469))
       (some ((18 : Int), ()))
      (ancepsref14_Valid.l12 (Go.IntKind.wrap Go.IntKind.i64 (p0 + (1 : Int))) p1 p2))
     (ancepsref14_Valid.l12 (Go.IntKind.wrap Go.IntKind.i64 (p0 + (1 : Int))) p1 p2))))
  (some ((0 : Int), ())) := (loopAt_step Go.Proofs.C15.ctx 56 12 _).trans (by kernel_rfl)
theorem ancepsref11_Beats.l3_eq (p0 : (List (Int × (Int × ByteArray)))) (p1 : Int) (p2 : Int) : ancepsref11_Beats.l3 p0 p1 p2 =
  ifB (decide (p2 < (((List.length p0) : Nat) : Int)))
   (bindD ((ixAt p0 p2)) fun t470 =>
   ifB (decide (t470.1 ≥ (3 : Int)))
    (bindD ((ixAt p0 p2)) fun t471 =>
    ifB (decide (t471.1 ≤ (8 : Int)))
     (bindD ((ixAt p0 p2)) fun t472 =>
     ifB (t472.1 == (7 : Int))
      (ancepsref11_Beats.l3 p0 (Go.IntKind.wrap Go.IntKind.i64 ((Go.IntKind.wrap Go.IntKind.i64 (p1 + (1 : Int))) + (1 : Int))) (Go.IntKind.wrap Go.IntKind.i64 (p2 + (1 : Int))))
     (ancepsref11_Beats.l3 p0 (Go.IntKind.wrap Go.IntKind.i64 (p1 + (1 : Int))) (Go.IntKind.wrap Go.IntKind.i64 (p2 + (1 : Int)))))
    (bindD ((ixAt p0 p2)) fun t473 =>
     ifB (t473.1 == (7 : Int))
      (ancepsref11_Beats.l3 p0 (Go.IntKind.wrap Go.IntKind.i64 (p1 + (1 : Int))) (Go.IntKind.wrap Go.IntKind.i64 (p2 + (1 : Int))))
     (ancepsref11_Beats.l3 p0 p1 (Go.IntKind.wrap Go.IntKind.i64 (p2 + (1 : Int))))))
   (bindD ((ixAt p0 p2)) fun t474 =>
    ifB (t474.1 == (7 : Int))
     (ancepsref11_Beats.l3 p0 (Go.IntKind.wrap Go.IntKind.i64 (p1 + (1 : Int))) (Go.IntKind.wrap Go.IntKind.i64 (p2 + (1 : Int))))
    (ancepsref11_Beats.l3 p0 p1 (Go.IntKind.wrap Go.IntKind.i64 (p2 + (1 : Int))))))
  (some (p1, ())) := (loopAt_step Go.Proofs.C15.ctx 80 3 _).trans (by kernel_rfl)
theorem ancepsref11_letters.f_eq : ancepsref11_letters.f =
  some ((ByteArray.mk (List.toArray ((32 : UInt8) :: ((118 : UInt8) :: ((100 : UInt8) :: ((109 : UInt8) :: ((108 : UInt8) :: ((110 : UInt8) :: ((115 : UInt8) :: ((120 : UInt8) :: ((103 : UInt8) :: ((98 : UInt8) :: ([] : (List UInt8)))))))))))))), ()) := (Einf_call Go.Proofs.C15.ctx 72 _).trans (by kernel_rfl)
theorem strings_indexFunc.f_eq (p0 : ByteArray) (p1 : Bool) : strings_indexFunc.f p0 p1 =
  strings_indexFunc.l2 p1 p0 (0 : Nat) := (Einf_call Go.Proofs.C15.ctx 84 _).trans (by kernel_rfl)
theorem sound_beats.f_eq (p0 : Int) (p1 : Int) (p2 : ByteArray) : sound_beats.f p0 p1 p2 =
  ifB (p0 == (7 : Int))
   (some ((2 : Int), ()))
  (ifB (decide (p0 ≥ (3 : Int)))
    (ifB (decide (p0 ≤ (8 : Int)))
     (some ((1 : Int), ()))
    (some ((0 : Int), ())))
   (some ((0 : Int), ()))) := (Einf_call Go.Proofs.C15.ctx 83 _).trans (by kernel_rfl)
theorem strings_indexFunc.l2_eq (p0 : Bool) (p1 : ByteArray) (p2 : Nat) : strings_indexFunc.l2 p0 p1 p2 =
  ifB (decide (p2 < (ByteArray.size p1)))
   (bindD (sound_Valid_1.f (Go.Proofs.R.runeAt p1 p2)) fun t475 =>
   ifB (t475.1 == p0)
    (some (((p2 : Nat) : Int), ()))
   (strings_indexFunc.l2 p0 p1 (Go.Proofs.R.nextAt p1 p2)))
  (some ((-(1 : Int)), ())) := (loopAt_step Go.Proofs.C15.ctx 84 2 _).trans (by kernel_rfl)
theorem sound_Valid_1.f_eq (p0 : Int) : sound_Valid_1.f p0 =
  bindD (sound_written.f p0) fun t476 =>
  some ((!t476.1), ()) := (Einf_call Go.Proofs.C15.ctx 76 _).trans (by kernel_rfl)
theorem sound_written.f_eq (p0 : Int) : sound_written.f p0 =
  ifB (decide (p0 ≥ (97 : Int)))
   (ifB (decide (p0 ≤ (122 : Int)))
    (some (true, ()))
   (ifB (decide (p0 ≥ (48 : Int)))
     (ifB (decide (p0 ≤ (57 : Int)))
      (some (true, ()))
     (ifB (p0 == (95 : Int))
       (some (true, ()))
      (ifB (p0 == (94 : Int))
        (some (true, ()))
       (some ((p0 == (39 : Int)), ())))))
    (ifB (p0 == (95 : Int))
      (some (true, ()))
     (ifB (p0 == (94 : Int))
       (some (true, ()))
      (some ((p0 == (39 : Int)), ()))))))
  (ifB (decide (p0 ≥ (48 : Int)))
    (ifB (decide (p0 ≤ (57 : Int)))
     (some (true, ()))
    (ifB (p0 == (95 : Int))
      (some (true, ()))
     (ifB (p0 == (94 : Int))
       (some (true, ()))
      (some ((p0 == (39 : Int)), ())))))
   (ifB (p0 == (95 : Int))
     (some (true, ()))
    (ifB (p0 == (94 : Int))
      (some (true, ()))
     (some ((p0 == (39 : Int)), ()))))) := (Einf_call Go.Proofs.C15.ctx 77 _).trans (by kernel_rfl)
end Go.Proofs.C15
