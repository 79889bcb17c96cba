/- C15B: what the row's functions are, as the evaluator tells them. No condition. -/
import Derived.Test.YtclcobhnoliknaaC15
set_option linter.unusedVariables false
set_option linter.unusedSimpArgs false
set_option maxRecDepth 100000
set_option linter.unusedVariables false
namespace Go.Proofs.C15
open Go Go.Proofs.R
noncomputable def ancepslaw15_SyllableWord.f (p0 : (List Int)) (p1 : Int) : Option (Bool × Unit) := (Go.Proofs.R.Einf Go.Proofs.C15.ctx).call 4 [(.one (.v (.sl (.int .i64)) p0)), (.one (.v (.int .i64) p1))]
noncomputable def ancepslaw15_SyllableOpen.f (p0 : (List (Int × (Int × ByteArray)))) (p1 : Int) (p2 : Int) (p3 : Int) (p4 : Int) (p5 : Bool) : Option (Bool × Unit) := (Go.Proofs.R.Einf Go.Proofs.C15.ctx).call 5 [(.one (.v (.sl (.pair (.int .i64) (.pair (.int .i64) .str))) p0)), (.agg [(.v (.int .i64) p1), (.v (.int .i64) p2), (.v (.int .i64) p3), (.v (.int .i64) p4), (.v .bool p5)])]
noncomputable def ancepslaw15_SyllableText.f (p0 : (List (Int × (Int × ByteArray)))) (p1 : (List Int)) : Option (Bool × Unit) := (Go.Proofs.R.Einf Go.Proofs.C15.ctx).call 3 [(.one (.v (.sl (.pair (.int .i64) (.pair (.int .i64) .str))) p0)), (.one (.v (.sl (.int .i64)) p1))]
noncomputable def ancepslaw15_SyllableDivide.f (p0 : (List (Int × (Int × ByteArray)))) (p1 : (List Int)) (p2 : (List (Int × (Int × (Int × (Int × Bool)))))) : Option (Bool × Unit) := (Go.Proofs.R.Einf Go.Proofs.C15.ctx).call 7 [(.one (.v (.sl (.pair (.int .i64) (.pair (.int .i64) .str))) p0)), (.one (.v (.sl (.int .i64)) p1)), (.one (.v (.sl (.pair (.int .i64) (.pair (.int .i64) (.pair (.int .i64) (.pair (.int .i64) .bool))))) p2))]
noncomputable def ancepslaw15_SyllableCovers.f (p0 : (List Int)) (p1 : (List Int)) : Option (Bool × Unit) := (Go.Proofs.R.Einf Go.Proofs.C15.ctx).call 6 [(.agg [(.v (.sl (.int .u8)) p0), (.v (.sl (.int .u8)) p1)])]
noncomputable def ancepslaw15_SyllableBetween.f (p0 : (List (Int × (Int × ByteArray)))) (p1 : (List Int)) (p2 : Int) : Option (Bool × Unit) := (Go.Proofs.R.Einf Go.Proofs.C15.ctx).call 9 [(.one (.v (.sl (.pair (.int .i64) (.pair (.int .i64) .str))) p0)), (.one (.v (.sl (.int .i64)) p1)), (.one (.v (.int .i64) p2))]
noncomputable def ancepslaw15_SyllableEnds.f (p0 : (List Int)) (p1 : (List Int)) : Option (Bool × Unit) := (Go.Proofs.R.Einf Go.Proofs.C15.ctx).call 8 [(.agg [(.v (.sl (.int .u8)) p0), (.v (.sl (.int .u8)) p1)])]
noncomputable def ancepslaw15_awake.f : Option (Bool × Unit) := (Go.Proofs.R.Einf Go.Proofs.C15.ctx).call 10 []
noncomputable def slices_Clone_int_int.f (p0 : (List Int)) : Option ((List Int) × Unit) := (Go.Proofs.R.Einf Go.Proofs.C15.ctx).call 14 [(.one (.v (.sl (.int .i64)) p0))]
noncomputable def syllable_Word.f (p0 : (List Int)) (p1 : Int) : Option (Int × Unit) := (Go.Proofs.R.Einf Go.Proofs.C15.ctx).call 16 [(.one (.v (.sl (.int .i64)) p0)), (.one (.v (.int .i64) p1))]
noncomputable def ancepsref15_Word.f (p0 : (List Int)) (p1 : Int) : Option (Int × Unit) := (Go.Proofs.R.Einf Go.Proofs.C15.ctx).call 17 [(.one (.v (.sl (.int .i64)) p0)), (.one (.v (.int .i64) p1))]
noncomputable def ancepsref15_Few.f (p0 : (List (Int × (Int × ByteArray)))) (p1 : (List Int)) : Option (Bool × Unit) := (Go.Proofs.R.Einf Go.Proofs.C15.ctx).call 11 [(.one (.v (.sl (.pair (.int .i64) (.pair (.int .i64) .str))) p0)), (.one (.v (.sl (.int .i64)) p1))]
noncomputable def api_Sound.f (p0 : (List (Int × (Int × ByteArray)))) : Option ((List (Int × (Int × ByteArray))) × Unit) := (Go.Proofs.R.Einf Go.Proofs.C15.ctx).call 13 [(.one (.v (.sl (.pair (.int .i64) (.pair (.int .i64) .str))) p0))]
noncomputable def syllable_Open.f (p0 : (List (Int × (Int × ByteArray)))) (p1 : Int) (p2 : Int) (p3 : Int) (p4 : Int) (p5 : Bool) : Option (Bool × (Int × Unit)) := (Go.Proofs.R.Einf Go.Proofs.C15.ctx).call 18 [(.one (.v (.sl (.pair (.int .i64) (.pair (.int .i64) .str))) p0)), (.agg [(.v (.int .i64) p1), (.v (.int .i64) p2), (.v (.int .i64) p3), (.v (.int .i64) p4), (.v .bool p5)])]
noncomputable def ancepsref15_Open.f (p0 : (List (Int × (Int × ByteArray)))) (p1 : Int) (p2 : Int) (p3 : Int) (p4 : Int) (p5 : Bool) : Option (Bool × (Int × Unit)) := (Go.Proofs.R.Einf Go.Proofs.C15.ctx).call 19 [(.one (.v (.sl (.pair (.int .i64) (.pair (.int .i64) .str))) p0)), (.agg [(.v (.int .i64) p1), (.v (.int .i64) p2), (.v (.int .i64) p3), (.v (.int .i64) p4), (.v .bool p5)])]
noncomputable def syllable_Text.f (p0 : (List (Int × (Int × ByteArray)))) (p1 : (List Int)) : Option (ByteArray × (Int × Unit)) := (Go.Proofs.R.Einf Go.Proofs.C15.ctx).call 12 [(.one (.v (.sl (.pair (.int .i64) (.pair (.int .i64) .str))) p0)), (.one (.v (.sl (.int .i64)) p1))]
noncomputable def ancepsref15_Text.f (p0 : (List (Int × (Int × ByteArray)))) (p1 : (List Int)) : Option (ByteArray × (Int × Unit)) := (Go.Proofs.R.Einf Go.Proofs.C15.ctx).call 15 [(.one (.v (.sl (.pair (.int .i64) (.pair (.int .i64) .str))) p0)), (.one (.v (.sl (.int .i64)) p1))]
noncomputable def syllable_Divide.f (p0 : (List (Int × (Int × ByteArray)))) (p1 : (List Int)) : Option ((List (Int × (Int × (Int × (Int × Bool))))) × (Int × Unit)) := (Go.Proofs.R.Einf Go.Proofs.C15.ctx).call 21 [(.one (.v (.sl (.pair (.int .i64) (.pair (.int .i64) .str))) p0)), (.one (.v (.sl (.int .i64)) p1))]
noncomputable def ancepsref15_Divide.f (p0 : (List (Int × (Int × ByteArray)))) (p1 : (List Int)) : Option ((List (Int × (Int × (Int × (Int × Bool))))) × (Int × Unit)) := (Go.Proofs.R.Einf Go.Proofs.C15.ctx).call 24 [(.one (.v (.sl (.pair (.int .i64) (.pair (.int .i64) .str))) p0)), (.one (.v (.sl (.int .i64)) p1))]
noncomputable def ancepsref15_Same.f (p0 : (List (Int × (Int × (Int × (Int × Bool)))))) (p1 : (List (Int × (Int × (Int × (Int × Bool)))))) : Option (Bool × Unit) := (Go.Proofs.R.Einf Go.Proofs.C15.ctx).call 25 [(.one (.v (.sl (.pair (.int .i64) (.pair (.int .i64) (.pair (.int .i64) (.pair (.int .i64) .bool))))) p0)), (.one (.v (.sl (.pair (.int .i64) (.pair (.int .i64) (.pair (.int .i64) (.pair (.int .i64) .bool))))) p1))]
noncomputable def syllable_Check.f (p0 : (List (Int × (Int × ByteArray)))) (p1 : (List Int)) (p2 : (List (Int × (Int × (Int × (Int × Bool)))))) : Option (Bool × Unit) := (Go.Proofs.R.Einf Go.Proofs.C15.ctx).call 26 [(.one (.v (.sl (.pair (.int .i64) (.pair (.int .i64) .str))) p0)), (.one (.v (.sl (.int .i64)) p1)), (.one (.v (.sl (.pair (.int .i64) (.pair (.int .i64) (.pair (.int .i64) (.pair (.int .i64) .bool))))) p2))]
noncomputable def api_Syllable.f (p0 : (List (Int × (Int × (Int × (Int × Bool)))))) : Option ((List (Int × (Int × (Int × (Int × Bool))))) × Unit) := (Go.Proofs.R.Einf Go.Proofs.C15.ctx).call 27 [(.one (.v (.sl (.pair (.int .i64) (.pair (.int .i64) (.pair (.int .i64) (.pair (.int .i64) .bool))))) p0))]
noncomputable def ancepsref15_Check.f (p0 : (List (Int × (Int × ByteArray)))) (p1 : (List Int)) (p2 : (List (Int × (Int × (Int × (Int × Bool)))))) : Option (Bool × Unit) := (Go.Proofs.R.Einf Go.Proofs.C15.ctx).call 28 [(.one (.v (.sl (.pair (.int .i64) (.pair (.int .i64) .str))) p0)), (.one (.v (.sl (.int .i64)) p1)), (.one (.v (.sl (.pair (.int .i64) (.pair (.int .i64) (.pair (.int .i64) (.pair (.int .i64) .bool))))) p2))]
noncomputable def ancepsref15_Made.f (p0 : (List Int)) (p1 : (List Int)) : Option ((List (Int × (Int × ByteArray))) × ((List Int) × Unit)) := (Go.Proofs.R.Einf Go.Proofs.C15.ctx).call 20 [(.agg [(.v (.sl (.int .u8)) p0), (.v (.sl (.int .u8)) p1)])]
noncomputable def ancepsref11_Nuclei.f (p0 : (List (Int × (Int × ByteArray)))) : Option ((List Int) × Unit) := (Go.Proofs.R.Einf Go.Proofs.C15.ctx).call 22 [(.one (.v (.sl (.pair (.int .i64) (.pair (.int .i64) .str))) p0))]
noncomputable def ancepslaw15_SyllableCovers.l12 (p0 : Int) (p1 : Int) (p2 : Int) (p3 : (List (Int × (Int × ByteArray)))) (p4 : (List Int)) (p5 : (List (Int × (Int × (Int × (Int × Bool)))))) : Option (Bool × Unit) := Go.Proofs.R.loopAt Go.Proofs.C15.ctx (Go.Proofs.R.Einf Go.Proofs.C15.ctx) 6 12 (.mk [(3, (.one (.row 7))), (7, (.one (.row 15))), (8, (.one (.v (.int .i64) p0))), (59, (.one (.row 23))), (60, (.one (.v (.int .i64) p1))), (61, (.one (.v (.int .i64) p2)))] [(7, (.row 31 (.pair (.int .i64) (.pair (.int .i64) .str)) p3 false)), (15, (.row 3 (.int .i64) p4 false)), (23, (.row 36 (.pair (.int .i64) (.pair (.int .i64) (.pair (.int .i64) (.pair (.int .i64) .bool)))) p5 false))])
noncomputable def syllable_Nuclei.f (p0 : (List (Int × (Int × ByteArray)))) (p1 : (List Int)) : Option ((List (List Int)) × (Int × Unit)) := (Go.Proofs.R.Einf Go.Proofs.C15.ctx).call 29 [(.one (.v (.sl (.pair (.int .i64) (.pair (.int .i64) .str))) p0)), (.one (.v (.sl (.int .i64)) p1))]
noncomputable def ancepsref15_Nuclei.f (p0 : (List (Int × (Int × ByteArray)))) (p1 : (List Int)) : Option ((List (List Int)) × (Int × Unit)) := (Go.Proofs.R.Einf Go.Proofs.C15.ctx).call 32 [(.one (.v (.sl (.pair (.int .i64) (.pair (.int .i64) .str))) p0)), (.one (.v (.sl (.int .i64)) p1))]
noncomputable def syllable_Between.f (p0 : (List (Int × (Int × ByteArray)))) (p1 : (List Int)) (p2 : Int) : Option ((List (Int × (Int × ByteArray))) × ((List Int) × (Int × Unit))) := (Go.Proofs.R.Einf Go.Proofs.C15.ctx).call 33 [(.one (.v (.sl (.pair (.int .i64) (.pair (.int .i64) .str))) p0)), (.one (.v (.sl (.int .i64)) p1)), (.one (.v (.int .i64) p2))]
noncomputable def ancepsref15_Between.f (p0 : (List (Int × (Int × ByteArray)))) (p1 : (List Int)) (p2 : Int) : Option ((List (Int × (Int × ByteArray))) × ((List Int) × (Int × Unit))) := (Go.Proofs.R.Einf Go.Proofs.C15.ctx).call 34 [(.one (.v (.sl (.pair (.int .i64) (.pair (.int .i64) .str))) p0)), (.one (.v (.sl (.int .i64)) p1)), (.one (.v (.int .i64) p2))]
noncomputable def slices_EqualFunc_int_int_int_int.f (p0 : (List (List Int))) (p1 : (List (List Int))) : Option (Bool × Unit) := (Go.Proofs.R.Einf Go.Proofs.C15.ctx).call 30 [(.one (.v (.sl (.sl (.int .i64))) p0)), (.one (.v (.sl (.sl (.int .i64))) p1)), (.one (.clo 31 []))]
noncomputable def ancepsref14_Same.f (p0 : (List (Int × (Int × ByteArray)))) (p1 : (List Int)) (p2 : (List (Int × (Int × ByteArray)))) (p3 : (List Int)) : Option (Bool × Unit) := (Go.Proofs.R.Einf Go.Proofs.C15.ctx).call 35 [(.agg [(.v (.sl (.pair (.int .i64) (.pair (.int .i64) .str))) p0), (.v (.sl (.int .i64)) p1)]), (.agg [(.v (.sl (.pair (.int .i64) (.pair (.int .i64) .str))) p2), (.v (.sl (.int .i64)) p3)])]
noncomputable def ancepslaw15_SyllableEnds.l13 (p0 : Int) (p1 : Int) (p2 : Int) (p3 : Int) (p4 : (List (Int × (Int × (Int × (Int × Bool)))))) (p5 : (List (List Int))) (p6 : (List (List Int))) : Option (Bool × Unit) := Go.Proofs.R.loopAt Go.Proofs.C15.ctx (Go.Proofs.R.Einf Go.Proofs.C15.ctx) 8 13 (.mk [(5, (.one (.row 7))), (7, (.one (.row 15))), (9, (.one (.v (.int .i64) p0))), (10, (.one (.v (.int .i64) p1))), (11, (.one (.row 23))), (63, (.one (.row 15))), (64, (.one (.v (.int .i64) p2))), (65, (.one (.v (.int .i64) p3)))] [(7, (.row 36 (.pair (.int .i64) (.pair (.int .i64) (.pair (.int .i64) (.pair (.int .i64) .bool)))) p4 false)), (15, (.row 23 (.sl (.int .i64)) p5 false)), (23, (.rows 23 3 (.int .i64) p6 .full))])
noncomputable def ancepsref11_Parse.f (p0 : ByteArray) : Option ((List (Int × (Int × ByteArray))) × (Int × Unit)) := (Go.Proofs.R.Einf Go.Proofs.C15.ctx).call 36 [(.one (.v .str p0))]
noncomputable def syllable_Word.l3 (p0 : Int) (p1 : Int) (p2 : (List Int)) (p3 : Int) (p4 : Int) : Option (Int × Unit) := Go.Proofs.R.loopAt Go.Proofs.C15.ctx (Go.Proofs.R.Einf Go.Proofs.C15.ctx) 16 3 (.mk [(1, (.one (.v (.int .i64) p0))), (5, (.one (.v (.int .i64) p1))), (8, (.one (.v (.sl (.int .i64)) p2))), (9, (.one (.v (.int .i64) p3))), (10, (.one (.v (.int .i64) p4)))] [])
noncomputable def ancepsref15_Word.l3 (p0 : (List Int)) (p1 : Int) (p2 : Int) (p3 : Int) : Option (Int × Unit) := Go.Proofs.R.loopAt Go.Proofs.C15.ctx (Go.Proofs.R.Einf Go.Proofs.C15.ctx) 17 3 (.mk [(0, (.one (.v (.sl (.int .i64)) p0))), (1, (.one (.v (.int .i64) p1))), (5, (.one (.v (.int .i64) p2))), (6, (.one (.v (.int .i64) p3)))] [])
noncomputable def ancepsref11_Few.f (p0 : (List (Int × (Int × ByteArray)))) (p1 : Int) : Option (Bool × Unit) := (Go.Proofs.R.Einf Go.Proofs.C15.ctx).call 37 [(.one (.v (.sl (.pair (.int .i64) (.pair (.int .i64) .str))) p0)), (.one (.v (.int .i64) p1))]
noncomputable def sound_Nucleus.f (p0 : Int) (p1 : Int) (p2 : ByteArray) : Option (Bool × Unit) := (Go.Proofs.R.Einf Go.Proofs.C15.ctx).call 45 [(.agg [(.v (.int .i64) p0), (.v (.int .i64) p1), (.v .str p2)])]
noncomputable def ancepsref11_Nucleus.f (p0 : Int) (p1 : Int) (p2 : ByteArray) : Option (Bool × Unit) := (Go.Proofs.R.Einf Go.Proofs.C15.ctx).call 23 [(.agg [(.v (.int .i64) p0), (.v (.int .i64) p1), (.v .str p2)])]
noncomputable def syllable_Text.l6 (p0 : (List Int)) (p1 : (List (Int × (Int × ByteArray)))) (p2 : Int) (p3 : Int) (p4 : (List (Int × (Int × (Int × (Int × Bool)))))) (p5 : (List Int)) : Option (ByteArray × (Int × Unit)) := Go.Proofs.R.loopAt Go.Proofs.C15.ctx (Go.Proofs.R.Einf Go.Proofs.C15.ctx) 12 6 (.mk [(1, (.one (.v (.sl (.int .i64)) p0))), (6, (.one (.row 7))), (8, (.one (.ref 15 0))), (23, (.one (.v (.sl (.pair (.int .i64) (.pair (.int .i64) .str))) p1))), (24, (.one (.v (.int .i64) p2))), (25, (.one (.v (.int .i64) p3)))] [(7, (.row 36 (.pair (.int .i64) (.pair (.int .i64) (.pair (.int .i64) (.pair (.int .i64) .bool)))) p4 false)), (15, (.box 70 [.nilp, (.row 23)])), (23, (.row 5 (.int .u8) p5 false))])
noncomputable def ancepsref15_Text.l6 (p0 : (List (Int × (Int × ByteArray)))) (p1 : (List Int)) (p2 : Int) (p3 : (List (Int × (Int × (Int × (Int × Bool)))))) (p4 : (List Int)) : Option (ByteArray × (Int × Unit)) := Go.Proofs.R.loopAt Go.Proofs.C15.ctx (Go.Proofs.R.Einf Go.Proofs.C15.ctx) 15 6 (.mk [(0, (.one (.v (.sl (.pair (.int .i64) (.pair (.int .i64) .str))) p0))), (1, (.one (.v (.sl (.int .i64)) p1))), (6, (.one (.row 7))), (8, (.one (.row 15))), (9, (.one (.v (.int .i64) p2)))] [(7, (.row 36 (.pair (.int .i64) (.pair (.int .i64) (.pair (.int .i64) (.pair (.int .i64) .bool)))) p3 false)), (15, (.row 3 (.int .i64) p4 false))])
noncomputable def syllable_valid.f (p0 : (List (Int × (Int × ByteArray)))) (p1 : (List Int)) : Option (Int × Unit) := (Go.Proofs.R.Einf Go.Proofs.C15.ctx).call 47 [(.one (.v (.sl (.pair (.int .i64) (.pair (.int .i64) .str))) p0)), (.one (.v (.sl (.int .i64)) p1))]
noncomputable def sound_Nuclei.f (p0 : (List (Int × (Int × ByteArray)))) : Option ((List Int) × Unit) := (Go.Proofs.R.Einf Go.Proofs.C15.ctx).call 48 [(.one (.v (.sl (.pair (.int .i64) (.pair (.int .i64) .str))) p0))]
noncomputable def syllable_Divide.l10 (p0 : (List (Int × (Int × ByteArray)))) (p1 : (List Int)) (p2 : Int) (p3 : Int) (p4 : Int) (p5 : (List Int)) (p6 : (List (Int × (Int × (Int × (Int × Bool)))))) : Option ((List (Int × (Int × (Int × (Int × Bool))))) × (Int × Unit)) := Go.Proofs.R.loopAt Go.Proofs.C15.ctx (Go.Proofs.R.Einf Go.Proofs.C15.ctx) 21 10 (.mk [(0, (.one (.v (.sl (.pair (.int .i64) (.pair (.int .i64) .str))) p0))), (1, (.one (.v (.sl (.int .i64)) p1))), (7, (.one (.row 7))), (8, (.one (.row 15))), (9, (.one (.v (.int .i64) p2))), (26, (.one (.row 7))), (27, (.one (.v (.int .i64) p3))), (28, (.one (.v (.int .i64) p4)))] [(7, (.row 3 (.int .i64) p5 false)), (15, (.row 36 (.pair (.int .i64) (.pair (.int .i64) (.pair (.int .i64) (.pair (.int .i64) .bool)))) p6 false))])
noncomputable def ancepsref15_Valid.f (p0 : (List (Int × (Int × ByteArray)))) (p1 : (List Int)) : Option (Int × Unit) := (Go.Proofs.R.Einf Go.Proofs.C15.ctx).call 51 [(.one (.v (.sl (.pair (.int .i64) (.pair (.int .i64) .str))) p0)), (.one (.v (.sl (.int .i64)) p1))]
noncomputable def ancepsref15_Divide.l10 (p0 : (List (Int × (Int × ByteArray)))) (p1 : (List Int)) (p2 : Int) (p3 : Int) (p4 : (List Int)) (p5 : (List (Int × (Int × (Int × (Int × Bool)))))) : Option ((List (Int × (Int × (Int × (Int × Bool))))) × (Int × Unit)) := Go.Proofs.R.loopAt Go.Proofs.C15.ctx (Go.Proofs.R.Einf Go.Proofs.C15.ctx) 24 10 (.mk [(0, (.one (.v (.sl (.pair (.int .i64) (.pair (.int .i64) .str))) p0))), (1, (.one (.v (.sl (.int .i64)) p1))), (7, (.one (.row 7))), (8, (.one (.row 15))), (9, (.one (.v (.int .i64) p2))), (10, (.one (.v (.int .i64) p3)))] [(7, (.row 3 (.int .i64) p4 false)), (15, (.row 36 (.pair (.int .i64) (.pair (.int .i64) (.pair (.int .i64) (.pair (.int .i64) .bool)))) p5 false))])
noncomputable def ancepsref15_Same.l4 (p0 : (List (Int × (Int × (Int × (Int × Bool)))))) (p1 : (List (Int × (Int × (Int × (Int × Bool)))))) (p2 : Int) : Option (Bool × Unit) := Go.Proofs.R.loopAt Go.Proofs.C15.ctx (Go.Proofs.R.Einf Go.Proofs.C15.ctx) 25 4 (.mk [(0, (.one (.v (.sl (.pair (.int .i64) (.pair (.int .i64) (.pair (.int .i64) (.pair (.int .i64) .bool))))) p0))), (1, (.one (.v (.sl (.pair (.int .i64) (.pair (.int .i64) (.pair (.int .i64) (.pair (.int .i64) .bool))))) p1))), (5, (.one (.v (.int .i64) p2)))] [])
noncomputable def api_Syllable_54.f (p0 : (List (Int × (Int × (Int × (Int × Bool)))))) (p1 : (List (Int × (Int × (Int × (Int × Bool)))))) : Option (Bool × Unit) := (Go.Proofs.R.Einf Go.Proofs.C15.ctx).call 54 [(.one (.v (.sl (.pair (.int .i64) (.pair (.int .i64) (.pair (.int .i64) (.pair (.int .i64) .bool))))) p0)), (.one (.v (.sl (.pair (.int .i64) (.pair (.int .i64) (.pair (.int .i64) (.pair (.int .i64) .bool))))) p1))]
noncomputable def ancepsref11_All.f (p0 : (List Int)) : Option ((List (Int × (Int × ByteArray))) × Unit) := (Go.Proofs.R.Einf Go.Proofs.C15.ctx).call 46 [(.one (.v (.sl (.int .u8)) p0))]
noncomputable def ancepsref15_Made.l4 (p0 : Int) (p1 : (List Int)) (p2 : (List Int)) (p3 : (List (Int × (Int × ByteArray)))) (p4 : (List Int)) : Option ((List (Int × (Int × ByteArray))) × ((List Int) × Unit)) := Go.Proofs.R.loopAt Go.Proofs.C15.ctx (Go.Proofs.R.Einf Go.Proofs.C15.ctx) 20 4 (.mk [(1, (.one (.ref 7 0))), (4, (.one (.row 15))), (5, (.one (.row 23))), (6, (.one (.v (.int .i64) p0)))] [(7, (.box 42 [(.v (.sl (.int .u8)) p1), (.v (.sl (.int .u8)) p2)])), (15, (.row 31 (.pair (.int .i64) (.pair (.int .i64) .str)) p3 false)), (23, (.row 3 (.int .i64) p4 false))])
noncomputable def ancepsref11_Nuclei.l3 (p0 : (List (Int × (Int × ByteArray)))) (p1 : Int) (p2 : (List Int)) : Option ((List Int) × Unit) := Go.Proofs.R.loopAt Go.Proofs.C15.ctx (Go.Proofs.R.Einf Go.Proofs.C15.ctx) 22 3 (.mk [(0, (.one (.v (.sl (.pair (.int .i64) (.pair (.int .i64) .str))) p0))), (3, (.one (.row 7))), (4, (.one (.v (.int .i64) p1)))] [(7, (.row 3 (.int .i64) p2 false))])
noncomputable def ancepslaw15_SyllableCovers.l12_1 (p0 : Int) (p1 : Int) (p2 : Int) (p3 : (List (Int × (Int × ByteArray)))) (p4 : (List Int)) (p5 : (List (Int × (Int × (Int × (Int × Bool)))))) : Option (Bool × Unit) := Go.Proofs.R.loopAt Go.Proofs.C15.ctx (Go.Proofs.R.Einf Go.Proofs.C15.ctx) 6 12 (.mk [(3, (.one (.row 7))), (7, (.one (.row 15))), (8, (.one (.v (.int .i64) p0))), (59, (.one (.row 23))), (60, (.one (.v (.int .i64) p1))), (61, (.one (.v (.int .i64) p2)))] [(7, (.row 31 (.pair (.int .i64) (.pair (.int .i64) .str)) p3 true)), (15, (.row 3 (.int .i64) p4 false)), (23, (.row 36 (.pair (.int .i64) (.pair (.int .i64) (.pair (.int .i64) (.pair (.int .i64) .bool)))) p5 false))])
noncomputable def syllable_Nuclei.l6 (p0 : (List Int)) (p1 : Int) (p2 : Int) (p3 : (List (List Int))) (p4 : (List Int)) : Option ((List (List Int)) × (Int × Unit)) := Go.Proofs.R.loopAt Go.Proofs.C15.ctx (Go.Proofs.R.Einf Go.Proofs.C15.ctx) 29 6 (.mk [(1, (.one (.v (.sl (.int .i64)) p0))), (7, (.one (.row 7))), (22, (.one (.row 15))), (23, (.one (.v (.int .i64) p1))), (24, (.one (.v (.int .i64) p2)))] [(7, (.rows 23 3 (.int .i64) p3 .full)), (15, (.row 3 (.int .i64) p4 false))])
noncomputable def ancepsref15_Nuclei.l7 (p0 : (List Int)) (p1 : Int) (p2 : (List (List Int))) (p3 : (List Int)) : Option ((List (List Int)) × (Int × Unit)) := Go.Proofs.R.loopAt Go.Proofs.C15.ctx (Go.Proofs.R.Einf Go.Proofs.C15.ctx) 32 7 (.mk [(1, (.one (.v (.sl (.int .i64)) p0))), (7, (.one (.row 7))), (8, (.one (.row 15))), (9, (.one (.v (.int .i64) p1)))] [(7, (.rows 23 3 (.int .i64) p2 .full)), (15, (.row 3 (.int .i64) p3 false))])
noncomputable def syllable_between.f (p0 : (List (Int × (Int × ByteArray)))) (p1 : (List Int)) (p2 : (List Int)) (p3 : Int) : Option ((List (Int × (Int × ByteArray))) × ((List Int) × Unit)) := (Go.Proofs.R.Einf Go.Proofs.C15.ctx).call 50 [(.one (.v (.sl (.pair (.int .i64) (.pair (.int .i64) .str))) p0)), (.one (.v (.sl (.int .i64)) p1)), (.one (.v (.sl (.int .i64)) p2)), (.one (.v (.int .i64) p3))]
noncomputable def cluster_Valid.f (p0 : (List (Int × (Int × ByteArray)))) (p1 : (List Int)) : Option (Int × Unit) := (Go.Proofs.R.Einf Go.Proofs.C15.ctx).call 55 [(.agg [(.v (.sl (.pair (.int .i64) (.pair (.int .i64) .str))) p0), (.v (.sl (.int .i64)) p1)])]
noncomputable def ancepsref15_cluster.f (p0 : (List (Int × (Int × ByteArray)))) (p1 : (List Int)) (p2 : Int) (p3 : Int) : Option ((List (Int × (Int × ByteArray))) × ((List Int) × Unit)) := (Go.Proofs.R.Einf Go.Proofs.C15.ctx).call 53 [(.one (.v (.sl (.pair (.int .i64) (.pair (.int .i64) .str))) p0)), (.one (.v (.sl (.int .i64)) p1)), (.one (.v (.int .i64) p2)), (.one (.v (.int .i64) p3))]
noncomputable def ancepsref14_Valid.f (p0 : (List (Int × (Int × ByteArray)))) (p1 : (List Int)) : Option (Int × Unit) := (Go.Proofs.R.Einf Go.Proofs.C15.ctx).call 56 [(.agg [(.v (.sl (.pair (.int .i64) (.pair (.int .i64) .str))) p0), (.v (.sl (.int .i64)) p1)])]
noncomputable def slices_EqualFunc_int_int_int_int.l4 (p0 : (List (List Int))) (p1 : (List (List Int))) (p2 : Int) (p3 : Int) : Option (Bool × Unit) := Go.Proofs.R.loopAt Go.Proofs.C15.ctx (Go.Proofs.R.Einf Go.Proofs.C15.ctx) 30 4 (.mk [(1, (.one (.v (.sl (.sl (.int .i64))) p0))), (2, (.one (.clo 31 []))), (15, (.one (.v (.sl (.sl (.int .i64))) p1))), (16, (.one (.v (.int .i64) p2))), (17, (.one (.v (.int .i64) p3)))] [])
noncomputable def ancepsref14_Compare.f (p0 : (List (Int × (Int × ByteArray)))) (p1 : (List Int)) (p2 : (List (Int × (Int × ByteArray)))) (p3 : (List Int)) : Option (Int × Unit) := (Go.Proofs.R.Einf Go.Proofs.C15.ctx).call 57 [(.agg [(.v (.sl (.pair (.int .i64) (.pair (.int .i64) .str))) p0), (.v (.sl (.int .i64)) p1)]), (.agg [(.v (.sl (.pair (.int .i64) (.pair (.int .i64) .str))) p2), (.v (.sl (.int .i64)) p3)])]
noncomputable def ancepslaw15_SyllableEnds.l19 (p0 : Int) (p1 : Int) (p2 : Int) (p3 : Int) (p4 : (List (Int × (Int × (Int × (Int × Bool)))))) (p5 : (List (List Int))) (p6 : (List (List Int))) : Option (Bool × Unit) := Go.Proofs.R.loopAt Go.Proofs.C15.ctx (Go.Proofs.R.Einf Go.Proofs.C15.ctx) 8 19 (.mk [(5, (.one (.row 7))), (7, (.one (.row 15))), (9, (.one (.v (.int .i64) p0))), (10, (.one (.v (.int .i64) p1))), (11, (.one (.row 23))), (75, (.one (.row 7))), (76, (.one (.v (.int .i64) p2))), (77, (.one (.v (.int .i64) p3)))] [(7, (.row 36 (.pair (.int .i64) (.pair (.int .i64) (.pair (.int .i64) (.pair (.int .i64) .bool)))) p4 false)), (15, (.row 23 (.sl (.int .i64)) p5 false)), (23, (.rows 23 3 (.int .i64) p6 .full))])
noncomputable def ancepsref11_split.f (p0 : ByteArray) : Option ((List ByteArray) × Unit) := (Go.Proofs.R.Einf Go.Proofs.C15.ctx).call 58 [(.one (.v .str p0))]
noncomputable def ancepsref11_Parse.l8 (p0 : Int) (p1 : (List (Int × (Int × ByteArray)))) (p2 : (List ByteArray)) : Option ((List (Int × (Int × ByteArray))) × (Int × Unit)) := Go.Proofs.R.loopAt Go.Proofs.C15.ctx (Go.Proofs.R.Einf Go.Proofs.C15.ctx) 36 8 (.mk [(4, (.one (.row 7))), (5, (.one (.row 15))), (6, (.one (.v (.int .i64) p0)))] [(7, (.row 31 (.pair (.int .i64) (.pair (.int .i64) .str)) p1 false)), (15, (.row 9 .str p2 false))])
noncomputable def ancepsref11_Few.l4 (p0 : (List (Int × (Int × ByteArray)))) (p1 : Int) : Option (Bool × Unit) := Go.Proofs.R.loopAt Go.Proofs.C15.ctx (Go.Proofs.R.Einf Go.Proofs.C15.ctx) 37 4 (.mk [(0, (.one (.v (.sl (.pair (.int .i64) (.pair (.int .i64) .str))) p0))), (5, (.one (.v (.int .i64) p1)))] [])
noncomputable def api_Syllable_38.f (p0 : (List (Int × (Int × (Int × (Int × Bool)))))) (p1 : Int) : Option (Bool × Unit) := (Go.Proofs.R.Einf Go.Proofs.C15.ctx).call 38 [(.one (.v (.sl (.pair (.int .i64) (.pair (.int .i64) (.pair (.int .i64) (.pair (.int .i64) .bool))))) p0)), (.one (.clo 39 [(.pref [(.v (.int .i64) p1)] 0)]))]
noncomputable def slices_Contains_int_int.f (p0 : (List Int)) (p1 : Int) : Option (Bool × Unit) := (Go.Proofs.R.Einf Go.Proofs.C15.ctx).call 40 [(.one (.v (.sl (.int .i64)) p0)), (.one (.v (.int .i64) p1))]
noncomputable def syllable_Text.l6_1 (p0 : (List Int)) (p1 : (List (Int × (Int × ByteArray)))) (p2 : Int) (p3 : Int) (p4 : (List (Int × (Int × (Int × (Int × Bool)))))) (p5 : (List Int)) : Option (ByteArray × (Int × Unit)) := Go.Proofs.R.loopAt Go.Proofs.C15.ctx (Go.Proofs.R.Einf Go.Proofs.C15.ctx) 12 6 (.mk [(1, (.one (.v (.sl (.int .i64)) p0))), (6, (.one (.row 7))), (8, (.one (.ref 15 0))), (23, (.one (.v (.sl (.pair (.int .i64) (.pair (.int .i64) .str))) p1))), (24, (.one (.v (.int .i64) p2))), (25, (.one (.v (.int .i64) p3)))] [(7, (.row 36 (.pair (.int .i64) (.pair (.int .i64) (.pair (.int .i64) (.pair (.int .i64) .bool)))) p4 false)), (15, (.box 70 [(.ref 15 0), (.row 23)])), (23, (.row 5 (.int .u8) p5 false))])
noncomputable def ancepsref15_Text.l11 (p0 : (List (Int × (Int × ByteArray)))) (p1 : (List Int)) (p2 : ByteArray) (p3 : Int) (p4 : (List Int)) : Option (ByteArray × (Int × Unit)) := Go.Proofs.R.loopAt Go.Proofs.C15.ctx (Go.Proofs.R.Einf Go.Proofs.C15.ctx) 15 11 (.mk [(0, (.one (.v (.sl (.pair (.int .i64) (.pair (.int .i64) .str))) p0))), (1, (.one (.v (.sl (.int .i64)) p1))), (8, (.one (.row 7))), (10, (.one (.v .str p2))), (11, (.one (.v (.int .i64) p3)))] [(7, (.row 3 (.int .i64) p4 false))])
noncomputable def syllable_valid.l4 (p0 : (List (Int × (Int × ByteArray)))) (p1 : (List Int)) (p2 : (List (Int × (Int × ByteArray)))) (p3 : Int) (p4 : Int) : Option (Int × Unit) := Go.Proofs.R.loopAt Go.Proofs.C15.ctx (Go.Proofs.R.Einf Go.Proofs.C15.ctx) 47 4 (.mk [(0, (.one (.v (.sl (.pair (.int .i64) (.pair (.int .i64) .str))) p0))), (1, (.one (.v (.sl (.int .i64)) p1))), (13, (.one (.v (.sl (.pair (.int .i64) (.pair (.int .i64) .str))) p2))), (14, (.one (.v (.int .i64) p3))), (15, (.one (.v (.int .i64) p4)))] [])
noncomputable def sound_Nuclei.l3 (p0 : (List (Int × (Int × ByteArray)))) (p1 : Int) (p2 : Int) (p3 : (List Int)) : Option ((List Int) × Unit) := Go.Proofs.R.loopAt Go.Proofs.C15.ctx (Go.Proofs.R.Einf Go.Proofs.C15.ctx) 48 3 (.mk [(3, (.one (.row 7))), (6, (.one (.v (.sl (.pair (.int .i64) (.pair (.int .i64) .str))) p0))), (7, (.one (.v (.int .i64) p1))), (8, (.one (.v (.int .i64) p2)))] [(7, (.row 3 (.int .i64) p3 false))])
noncomputable def cluster_Coda.f (p0 : (List (Int × (Int × ByteArray)))) (p1 : (List Int)) : Option (Int × (Int × Unit)) := (Go.Proofs.R.Einf Go.Proofs.C15.ctx).call 49 [(.agg [(.v (.sl (.pair (.int .i64) (.pair (.int .i64) .str))) p0), (.v (.sl (.int .i64)) p1)])]
noncomputable def syllable_Divide.l10_1 (p0 : (List (Int × (Int × ByteArray)))) (p1 : (List Int)) (p2 : Int) (p3 : Int) (p4 : Int) (p5 : (List Int)) (p6 : (List (Int × (Int × (Int × (Int × Bool)))))) : Option ((List (Int × (Int × (Int × (Int × Bool))))) × (Int × Unit)) := Go.Proofs.R.loopAt Go.Proofs.C15.ctx (Go.Proofs.R.Einf Go.Proofs.C15.ctx) 21 10 (.mk [(0, (.one (.v (.sl (.pair (.int .i64) (.pair (.int .i64) .str))) p0))), (1, (.one (.v (.sl (.int .i64)) p1))), (7, (.one (.row 7))), (8, (.one (.row 15))), (9, (.one (.v (.int .i64) p2))), (26, (.one (.row 7))), (27, (.one (.v (.int .i64) p3))), (28, (.one (.v (.int .i64) p4)))] [(7, (.row 3 (.int .i64) p5 true)), (15, (.row 36 (.pair (.int .i64) (.pair (.int .i64) (.pair (.int .i64) (.pair (.int .i64) .bool)))) p6 false))])
noncomputable def ancepsref15_Valid.l4 (p0 : (List (Int × (Int × ByteArray)))) (p1 : (List Int)) (p2 : Int) : Option (Int × Unit) := Go.Proofs.R.loopAt Go.Proofs.C15.ctx (Go.Proofs.R.Einf Go.Proofs.C15.ctx) 51 4 (.mk [(0, (.one (.v (.sl (.pair (.int .i64) (.pair (.int .i64) .str))) p0))), (1, (.one (.v (.sl (.int .i64)) p1))), (5, (.one (.v (.int .i64) p2)))] [])
noncomputable def ancepsref14_Coda.f (p0 : (List (Int × (Int × ByteArray)))) (p1 : (List Int)) : Option (Int × (Int × Unit)) := (Go.Proofs.R.Einf Go.Proofs.C15.ctx).call 52 [(.agg [(.v (.sl (.pair (.int .i64) (.pair (.int .i64) .str))) p0), (.v (.sl (.int .i64)) p1)])]
noncomputable def api_Syllable_54.l4 (p0 : (List (Int × (Int × (Int × (Int × Bool)))))) (p1 : (List (Int × (Int × (Int × (Int × Bool)))))) (p2 : Int) (p3 : Int) : Option (Bool × Unit) := Go.Proofs.R.loopAt Go.Proofs.C15.ctx (Go.Proofs.R.Einf Go.Proofs.C15.ctx) 54 4 (.mk [(0, (.one (.v (.sl (.pair (.int .i64) (.pair (.int .i64) (.pair (.int .i64) (.pair (.int .i64) .bool))))) p0))), (1, (.one (.v (.sl (.pair (.int .i64) (.pair (.int .i64) (.pair (.int .i64) (.pair (.int .i64) .bool))))) p1))), (12, (.one (.v (.int .i64) p2))), (13, (.one (.v (.int .i64) p3)))] [])
noncomputable def ancepsref11_All.l3 (p0 : (List Int)) (p1 : Int) (p2 : (List (Int × (Int × ByteArray)))) : Option ((List (Int × (Int × ByteArray))) × Unit) := Go.Proofs.R.loopAt Go.Proofs.C15.ctx (Go.Proofs.R.Einf Go.Proofs.C15.ctx) 46 3 (.mk [(0, (.one (.v (.sl (.int .u8)) p0))), (3, (.one (.row 7))), (4, (.one (.v (.int .i64) p1)))] [(7, (.row 31 (.pair (.int .i64) (.pair (.int .i64) .str)) p2 false))])
noncomputable def ancepsref15_Made.l7 (p0 : Int) (p1 : Int) (p2 : (List Int)) (p3 : (List Int)) (p4 : (List (Int × (Int × ByteArray)))) (p5 : (List Int)) : Option ((List (Int × (Int × ByteArray))) × ((List Int) × Unit)) := Go.Proofs.R.loopAt Go.Proofs.C15.ctx (Go.Proofs.R.Einf Go.Proofs.C15.ctx) 20 7 (.mk [(1, (.one (.ref 7 0))), (4, (.one (.row 15))), (5, (.one (.row 23))), (6, (.one (.v (.int .i64) p0))), (7, (.one (.v (.int .i64) p1)))] [(7, (.box 42 [(.v (.sl (.int .u8)) p2), (.v (.sl (.int .u8)) p3)])), (15, (.row 31 (.pair (.int .i64) (.pair (.int .i64) .str)) p4 false)), (23, (.row 3 (.int .i64) p5 false))])
noncomputable def syllable_between.l6 (p0 : Int) (p1 : Int) (p2 : (List Int)) (p3 : Int) (p4 : Int) (p5 : (List (Int × (Int × ByteArray)))) (p6 : (List Int)) (p7 : (List (Int × (Int × ByteArray)))) (p8 : (List Int)) : Option ((List (Int × (Int × ByteArray))) × ((List Int) × Unit)) := Go.Proofs.R.loopAt Go.Proofs.C15.ctx (Go.Proofs.R.Einf Go.Proofs.C15.ctx) 50 6 (.mk [(8, (.one (.ref 7 0))), (9, (.one (.v (.int .i64) p0))), (10, (.one (.v (.int .i64) p1))), (12, (.one (.ref 15 0))), (40, (.one (.v (.sl (.int .i64)) p2))), (41, (.one (.v (.int .i64) p3))), (42, (.one (.v (.int .i64) p4)))] [(7, (.box 60 [(.row 23), (.row 31)])), (15, (.box 60 [(.row 39), (.row 47)])), (23, (.row 31 (.pair (.int .i64) (.pair (.int .i64) .str)) p5 false)), (31, (.row 3 (.int .i64) p6 false)), (39, (.row 31 (.pair (.int .i64) (.pair (.int .i64) .str)) p7 false)), (47, (.row 3 (.int .i64) p8 false))])
noncomputable def cluster_Valid.l4 (p0 : (List (Int × (Int × ByteArray)))) (p1 : Int) (p2 : Int) (p3 : (List (Int × (Int × ByteArray)))) (p4 : (List Int)) : Option (Int × Unit) := Go.Proofs.R.loopAt Go.Proofs.C15.ctx (Go.Proofs.R.Einf Go.Proofs.C15.ctx) 55 4 (.mk [(1, (.one (.ref 7 0))), (20, (.one (.v (.sl (.pair (.int .i64) (.pair (.int .i64) .str))) p0))), (21, (.one (.v (.int .i64) p1))), (22, (.one (.v (.int .i64) p2)))] [(7, (.box 60 [(.v (.sl (.pair (.int .i64) (.pair (.int .i64) .str))) p3), (.v (.sl (.int .i64)) p4)]))])
noncomputable def ancepsref15_cluster.l3 (p0 : (List (Int × (Int × ByteArray)))) (p1 : (List Int)) (p2 : Int) (p3 : Int) (p4 : Int) (p5 : (List (Int × (Int × ByteArray)))) (p6 : (List Int)) (p7 : (List (Int × (Int × ByteArray)))) (p8 : (List Int)) : Option ((List (Int × (Int × ByteArray))) × ((List Int) × Unit)) := Go.Proofs.R.loopAt Go.Proofs.C15.ctx (Go.Proofs.R.Einf Go.Proofs.C15.ctx) 53 3 (.mk [(0, (.one (.v (.sl (.pair (.int .i64) (.pair (.int .i64) .str))) p0))), (1, (.one (.v (.sl (.int .i64)) p1))), (2, (.one (.v (.int .i64) p2))), (3, (.one (.v (.int .i64) p3))), (8, (.one (.ref 7 0))), (9, (.one (.ref 15 0))), (10, (.one (.v (.int .i64) p4)))] [(7, (.box 60 [(.row 23), (.row 31)])), (15, (.box 60 [(.row 39), (.row 47)])), (23, (.row 31 (.pair (.int .i64) (.pair (.int .i64) .str)) p5 false)), (31, (.row 3 (.int .i64) p6 false)), (39, (.row 31 (.pair (.int .i64) (.pair (.int .i64) .str)) p7 false)), (47, (.row 3 (.int .i64) p8 false))])
noncomputable def ancepsref14_Valid.l4 (p0 : Int) (p1 : (List (Int × (Int × ByteArray)))) (p2 : (List Int)) : Option (Int × Unit) := Go.Proofs.R.loopAt Go.Proofs.C15.ctx (Go.Proofs.R.Einf Go.Proofs.C15.ctx) 56 4 (.mk [(1, (.one (.ref 7 0))), (3, (.one (.v (.int .i64) p0)))] [(7, (.box 60 [(.v (.sl (.pair (.int .i64) (.pair (.int .i64) .str))) p1), (.v (.sl (.int .i64)) p2)]))])
noncomputable def slices_Equal_int_int.f (p0 : (List Int)) (p1 : (List Int)) : Option (Bool × Unit) := (Go.Proofs.R.Einf Go.Proofs.C15.ctx).call 31 [(.one (.v (.sl (.int .i64)) p0)), (.one (.v (.sl (.int .i64)) p1))]
noncomputable def ancepsref14_Compare.l2 (p0 : Int) (p1 : (List (Int × (Int × ByteArray)))) (p2 : (List Int)) (p3 : (List (Int × (Int × ByteArray)))) (p4 : (List Int)) : Option (Int × Unit) := Go.Proofs.R.loopAt Go.Proofs.C15.ctx (Go.Proofs.R.Einf Go.Proofs.C15.ctx) 57 2 (.mk [(2, (.one (.ref 7 0))), (3, (.one (.ref 15 0))), (5, (.one (.v (.int .i64) p0)))] [(7, (.box 60 [(.v (.sl (.pair (.int .i64) (.pair (.int .i64) .str))) p1), (.v (.sl (.int .i64)) p2)])), (15, (.box 60 [(.v (.sl (.pair (.int .i64) (.pair (.int .i64) .str))) p3), (.v (.sl (.int .i64)) p4)]))])
noncomputable def ancepsref11_split.l3 (p0 : ByteArray) (p1 : Int) (p2 : (List ByteArray)) : Option ((List ByteArray) × Unit) := Go.Proofs.R.loopAt Go.Proofs.C15.ctx (Go.Proofs.R.Einf Go.Proofs.C15.ctx) 58 3 (.mk [(0, (.one (.v .str p0))), (3, (.one (.row 7))), (4, (.one (.v (.int .i64) p1)))] [(7, (.row 9 .str p2 false))])
noncomputable def ancepsref11_one.f (p0 : ByteArray) : Option (Int × (Int × (ByteArray × (Bool × Unit)))) := (Go.Proofs.R.Einf Go.Proofs.C15.ctx).call 59 [(.one (.v .str p0))]
noncomputable def api_Syllable_60.f (p0 : (List (Int × (Int × (Int × (Int × Bool)))))) (p1 : Int) : Option (Int × Unit) := (Go.Proofs.R.Einf Go.Proofs.C15.ctx).call 60 [(.one (.v (.sl (.pair (.int .i64) (.pair (.int .i64) (.pair (.int .i64) (.pair (.int .i64) .bool))))) p0)), (.one (.clo 39 [(.pref [(.v (.int .i64) p1)] 0)]))]
noncomputable def slices_Index_int_int.f (p0 : (List Int)) (p1 : Int) : Option (Int × Unit) := (Go.Proofs.R.Einf Go.Proofs.C15.ctx).call 61 [(.one (.v (.sl (.int .i64)) p0)), (.one (.v (.int .i64) p1))]
noncomputable def ancepsref15_in.f (p0 : (List Int)) (p1 : Int) : Option (Bool × Unit) := (Go.Proofs.R.Einf Go.Proofs.C15.ctx).call 44 [(.one (.v (.sl (.int .i64)) p0)), (.one (.v (.int .i64) p1))]
noncomputable def sound_Valid.f (p0 : Int) (p1 : Int) (p2 : ByteArray) : Option (Int × Unit) := (Go.Proofs.R.Einf Go.Proofs.C15.ctx).call 64 [(.agg [(.v (.int .i64) p0), (.v (.int .i64) p1), (.v .str p2)])]
noncomputable def syllable_valid.l13 (p0 : (List (Int × (Int × ByteArray)))) (p1 : (List Int)) (p2 : (List Int)) (p3 : Int) (p4 : Int) : Option (Int × Unit) := Go.Proofs.R.loopAt Go.Proofs.C15.ctx (Go.Proofs.R.Einf Go.Proofs.C15.ctx) 47 13 (.mk [(0, (.one (.v (.sl (.pair (.int .i64) (.pair (.int .i64) .str))) p0))), (1, (.one (.v (.sl (.int .i64)) p1))), (28, (.one (.v (.sl (.int .i64)) p2))), (29, (.one (.v (.int .i64) p3))), (30, (.one (.v (.int .i64) p4)))] [])
noncomputable def cluster_class.f (p0 : (List (Int × (Int × ByteArray)))) (p1 : (List Int)) : Option (Int × Unit) := (Go.Proofs.R.Einf Go.Proofs.C15.ctx).call 65 [(.agg [(.v (.sl (.pair (.int .i64) (.pair (.int .i64) .str))) p0), (.v (.sl (.int .i64)) p1)])]
noncomputable def cluster_core.f (p0 : (List (Int × (Int × ByteArray)))) (p1 : (List Int)) : Option ((List Int) × Unit) := (Go.Proofs.R.Einf Go.Proofs.C15.ctx).call 66 [(.agg [(.v (.sl (.pair (.int .i64) (.pair (.int .i64) .str))) p0), (.v (.sl (.int .i64)) p1)])]
noncomputable def ancepsref11_Valid.f (p0 : Int) (p1 : Int) (p2 : ByteArray) : Option (Int × Unit) := (Go.Proofs.R.Einf Go.Proofs.C15.ctx).call 67 [(.agg [(.v (.int .i64) p0), (.v (.int .i64) p1), (.v .str p2)])]
noncomputable def ancepsref15_Valid.l12 (p0 : (List (Int × (Int × ByteArray)))) (p1 : (List Int)) (p2 : Int) : Option (Int × Unit) := Go.Proofs.R.loopAt Go.Proofs.C15.ctx (Go.Proofs.R.Einf Go.Proofs.C15.ctx) 51 12 (.mk [(0, (.one (.v (.sl (.pair (.int .i64) (.pair (.int .i64) .str))) p0))), (1, (.one (.v (.sl (.int .i64)) p1))), (7, (.one (.v (.int .i64) p2)))] [])
noncomputable def ancepsref14_class.f (p0 : (List (Int × (Int × ByteArray)))) (p1 : (List Int)) : Option (Int × Unit) := (Go.Proofs.R.Einf Go.Proofs.C15.ctx).call 68 [(.agg [(.v (.sl (.pair (.int .i64) (.pair (.int .i64) .str))) p0), (.v (.sl (.int .i64)) p1)])]
noncomputable def ancepsref14_core.f (p0 : (List (Int × (Int × ByteArray)))) (p1 : (List Int)) : Option ((List Int) × Unit) := (Go.Proofs.R.Einf Go.Proofs.C15.ctx).call 69 [(.agg [(.v (.sl (.pair (.int .i64) (.pair (.int .i64) .str))) p0), (.v (.sl (.int .i64)) p1)])]
noncomputable def ancepsref11_Made.f (p0 : Int) : Option (Int × (Int × (ByteArray × Unit))) := (Go.Proofs.R.Einf Go.Proofs.C15.ctx).call 63 [(.one (.v (.int .u8) p0))]
noncomputable def cluster_Valid.l14 (p0 : Int) (p1 : (List Int)) (p2 : Int) (p3 : Int) (p4 : (List (Int × (Int × ByteArray)))) (p5 : (List Int)) : Option (Int × Unit) := Go.Proofs.R.loopAt Go.Proofs.C15.ctx (Go.Proofs.R.Einf Go.Proofs.C15.ctx) 55 14 (.mk [(1, (.one (.ref 7 0))), (6, (.one (.v (.int .i64) p0))), (35, (.one (.v (.sl (.int .i64)) p1))), (36, (.one (.v (.int .i64) p2))), (37, (.one (.v (.int .i64) p3)))] [(7, (.box 60 [(.v (.sl (.pair (.int .i64) (.pair (.int .i64) .str))) p4), (.v (.sl (.int .i64)) p5)]))])
noncomputable def ancepsref15_cluster.l7 (p0 : (List Int)) (p1 : Int) (p2 : Int) (p3 : Int) (p4 : (List (Int × (Int × ByteArray)))) (p5 : (List Int)) (p6 : (List (Int × (Int × ByteArray)))) (p7 : (List Int)) : Option ((List (Int × (Int × ByteArray))) × ((List Int) × Unit)) := Go.Proofs.R.loopAt Go.Proofs.C15.ctx (Go.Proofs.R.Einf Go.Proofs.C15.ctx) 53 7 (.mk [(1, (.one (.v (.sl (.int .i64)) p0))), (2, (.one (.v (.int .i64) p1))), (3, (.one (.v (.int .i64) p2))), (8, (.one (.ref 7 0))), (9, (.one (.ref 15 0))), (11, (.one (.v (.int .i64) p3)))] [(7, (.box 60 [(.row 23), (.row 31)])), (15, (.box 60 [(.row 39), (.row 47)])), (23, (.row 31 (.pair (.int .i64) (.pair (.int .i64) .str)) p4 false)), (31, (.row 3 (.int .i64) p5 false)), (39, (.row 31 (.pair (.int .i64) (.pair (.int .i64) .str)) p6 false)), (47, (.row 3 (.int .i64) p7 false))])
noncomputable def ancepsref14_Valid.l12 (p0 : Int) (p1 : (List (Int × (Int × ByteArray)))) (p2 : (List Int)) : Option (Int × Unit) := Go.Proofs.R.loopAt Go.Proofs.C15.ctx (Go.Proofs.R.Einf Go.Proofs.C15.ctx) 56 12 (.mk [(1, (.one (.ref 7 0))), (5, (.one (.v (.int .i64) p0)))] [(7, (.box 60 [(.v (.sl (.pair (.int .i64) (.pair (.int .i64) .str))) p1), (.v (.sl (.int .i64)) p2)]))])
noncomputable def slices_Equal_int_int.l4 (p0 : (List Int)) (p1 : (List Int)) (p2 : Int) (p3 : Int) : Option (Bool × Unit) := Go.Proofs.R.loopAt Go.Proofs.C15.ctx (Go.Proofs.R.Einf Go.Proofs.C15.ctx) 31 4 (.mk [(0, (.one (.v (.sl (.int .i64)) p0))), (1, (.one (.v (.sl (.int .i64)) p1))), (12, (.one (.v (.int .i64) p2))), (13, (.one (.v (.int .i64) p3)))] [])
noncomputable def ancepsref11_Compare.f (p0 : Int) (p1 : Int) (p2 : ByteArray) (p3 : Int) (p4 : Int) (p5 : ByteArray) : Option (Int × Unit) := (Go.Proofs.R.Einf Go.Proofs.C15.ctx).call 70 [(.agg [(.v (.int .i64) p0), (.v (.int .i64) p1), (.v .str p2)]), (.agg [(.v (.int .i64) p3), (.v (.int .i64) p4), (.v .str p5)])]
noncomputable def ancepsref14_order.f (p0 : Int) (p1 : Int) : Option (Int × Unit) := (Go.Proofs.R.Einf Go.Proofs.C15.ctx).call 71 [(.one (.v (.int .i64) p0)), (.one (.v (.int .i64) p1))]
noncomputable def ancepsref14_Compare.l11 (p0 : Int) (p1 : (List (Int × (Int × ByteArray)))) (p2 : (List Int)) (p3 : (List (Int × (Int × ByteArray)))) (p4 : (List Int)) : Option (Int × Unit) := Go.Proofs.R.loopAt Go.Proofs.C15.ctx (Go.Proofs.R.Einf Go.Proofs.C15.ctx) 57 11 (.mk [(2, (.one (.ref 7 0))), (3, (.one (.ref 15 0))), (8, (.one (.v (.int .i64) p0)))] [(7, (.box 60 [(.v (.sl (.pair (.int .i64) (.pair (.int .i64) .str))) p1), (.v (.sl (.int .i64)) p2)])), (15, (.box 60 [(.v (.sl (.pair (.int .i64) (.pair (.int .i64) .str))) p3), (.v (.sl (.int .i64)) p4)]))])
noncomputable def ancepsref11_one.l2 (p0 : ByteArray) (p1 : Int) (p2 : Int) (p3 : Int) (p4 : ByteArray) : Option (Int × (Int × (ByteArray × (Bool × Unit)))) := Go.Proofs.R.loopAt Go.Proofs.C15.ctx (Go.Proofs.R.Einf Go.Proofs.C15.ctx) 59 2 (.mk [(0, (.one (.v .str p0))), (2, (.one (.ref 7 0))), (4, (.one (.v (.int .i64) p1)))] [(7, (.box 31 [(.v (.int .i64) p2), (.v (.int .i64) p3), (.v .str p4)]))])
noncomputable def api_Syllable_60.l2 (p0 : (List (Int × (Int × (Int × (Int × Bool)))))) (p1 : Int) (p2 : Int) (p3 : Int) : Option (Int × Unit) := Go.Proofs.R.loopAt Go.Proofs.C15.ctx (Go.Proofs.R.Einf Go.Proofs.C15.ctx) 60 2 (.mk [(0, (.one (.v (.sl (.pair (.int .i64) (.pair (.int .i64) (.pair (.int .i64) (.pair (.int .i64) .bool))))) p0))), (1, (.one (.clo 39 [(.pref [(.v (.int .i64) p1)] 0)]))), (7, (.one (.v (.int .i64) p2))), (8, (.one (.v (.int .i64) p3)))] [])
noncomputable def slices_Index_int_int.l2 (p0 : (List Int)) (p1 : Int) (p2 : Int) (p3 : Int) : Option (Int × Unit) := Go.Proofs.R.loopAt Go.Proofs.C15.ctx (Go.Proofs.R.Einf Go.Proofs.C15.ctx) 61 2 (.mk [(0, (.one (.v (.sl (.int .i64)) p0))), (1, (.one (.v (.int .i64) p1))), (7, (.one (.v (.int .i64) p2))), (8, (.one (.v (.int .i64) p3)))] [])
noncomputable def ancepsref15_in.l2 (p0 : (List Int)) (p1 : Int) (p2 : Int) : Option (Bool × Unit) := Go.Proofs.R.loopAt Go.Proofs.C15.ctx (Go.Proofs.R.Einf Go.Proofs.C15.ctx) 44 2 (.mk [(0, (.one (.v (.sl (.int .i64)) p0))), (1, (.one (.v (.int .i64) p1))), (5, (.one (.v (.int .i64) p2)))] [])
noncomputable def sound_quantity.f (p0 : Int) (p1 : Int) (p2 : ByteArray) : Option (Bool × Unit) := (Go.Proofs.R.Einf Go.Proofs.C15.ctx).call 74 [(.agg [(.v (.int .i64) p0), (.v (.int .i64) p1), (.v .str p2)])]
noncomputable def strings_ContainsFunc.f (p0 : ByteArray) : Option (Bool × Unit) := (Go.Proofs.R.Einf Go.Proofs.C15.ctx).call 75 [(.one (.v .str p0)), (.one (.clo 76 []))]
noncomputable def sound_Beats.f (p0 : (List (Int × (Int × ByteArray)))) : Option (Int × Unit) := (Go.Proofs.R.Einf Go.Proofs.C15.ctx).call 78 [(.one (.v (.sl (.pair (.int .i64) (.pair (.int .i64) .str))) p0))]
noncomputable def cluster_core.l3 (p0 : (List (Int × (Int × ByteArray)))) (p1 : Int) (p2 : Int) (p3 : (List Int)) : Option ((List Int) × Unit) := Go.Proofs.R.loopAt Go.Proofs.C15.ctx (Go.Proofs.R.Einf Go.Proofs.C15.ctx) 66 3 (.mk [(3, (.one (.row 7))), (7, (.one (.v (.sl (.pair (.int .i64) (.pair (.int .i64) .str))) p0))), (8, (.one (.v (.int .i64) p1))), (9, (.one (.v (.int .i64) p2)))] [(7, (.row 3 (.int .i64) p3 false))])
noncomputable def ancepsref11_Valid.l15 (p0 : Int) (p1 : Int) (p2 : Int) (p3 : ByteArray) : Option (Int × Unit) := Go.Proofs.R.loopAt Go.Proofs.C15.ctx (Go.Proofs.R.Einf Go.Proofs.C15.ctx) 67 15 (.mk [(1, (.one (.ref 7 0))), (4, (.one (.v (.int .i64) p0)))] [(7, (.box 31 [(.v (.int .i64) p1), (.v (.int .i64) p2), (.v .str p3)]))])
noncomputable def ancepsref11_Beats.f (p0 : (List (Int × (Int × ByteArray)))) : Option (Int × Unit) := (Go.Proofs.R.Einf Go.Proofs.C15.ctx).call 80 [(.one (.v (.sl (.pair (.int .i64) (.pair (.int .i64) .str))) p0))]
noncomputable def ancepsref14_class.l8 (p0 : Bool) (p1 : Bool) (p2 : Int) (p3 : (List (Int × (Int × ByteArray)))) (p4 : (List Int)) (p5 : (List Int)) : Option (Int × Unit) := Go.Proofs.R.loopAt Go.Proofs.C15.ctx (Go.Proofs.R.Einf Go.Proofs.C15.ctx) 68 8 (.mk [(1, (.one (.ref 7 0))), (3, (.one (.row 15))), (4, (.one (.v .bool p0))), (5, (.one (.v .bool p1))), (6, (.one (.v (.int .i64) p2)))] [(7, (.box 60 [(.v (.sl (.pair (.int .i64) (.pair (.int .i64) .str))) p3), (.v (.sl (.int .i64)) p4)])), (15, (.row 3 (.int .i64) p5 false))])
noncomputable def ancepsref14_core.l3 (p0 : Int) (p1 : (List (Int × (Int × ByteArray)))) (p2 : (List Int)) (p3 : (List Int)) : Option ((List Int) × Unit) := Go.Proofs.R.loopAt Go.Proofs.C15.ctx (Go.Proofs.R.Einf Go.Proofs.C15.ctx) 69 3 (.mk [(1, (.one (.ref 7 0))), (3, (.one (.row 15))), (4, (.one (.v (.int .i64) p0)))] [(7, (.box 60 [(.v (.sl (.pair (.int .i64) (.pair (.int .i64) .str))) p1), (.v (.sl (.int .i64)) p2)])), (15, (.row 3 (.int .i64) p3 false))])
noncomputable def ancepsref11_order.f (p0 : Int) (p1 : Int) : Option (Int × Unit) := (Go.Proofs.R.Einf Go.Proofs.C15.ctx).call 81 [(.one (.v (.int .i64) p0)), (.one (.v (.int .i64) p1))]
noncomputable def ancepsref11_one.l11 (p0 : ByteArray) (p1 : Int) (p2 : Int) (p3 : Int) (p4 : ByteArray) (p5 : Int) (p6 : Int) (p7 : ByteArray) : Option (Int × (Int × (ByteArray × (Bool × Unit)))) := Go.Proofs.R.loopAt Go.Proofs.C15.ctx (Go.Proofs.R.Einf Go.Proofs.C15.ctx) 59 11 (.mk [(2, (.one (.ref 7 0))), (5, (.one (.v .str p0))), (6, (.one (.ref 15 0))), (7, (.one (.v (.int .i64) p1)))] [(7, (.box 31 [(.v (.int .i64) p2), (.v (.int .i64) p3), (.v .str p4)])), (15, (.box 31 [(.v (.int .i64) p5), (.v (.int .i64) p6), (.v .str p7)]))])
noncomputable def syllable_Text_1.f (p0 : Int) (p1 : Int) (p2 : Int) (p3 : Int) (p4 : Bool) (p5 : Int) : Option (Bool × Unit) := (Go.Proofs.R.Einf Go.Proofs.C15.ctx).call 39 [(.agg [(.v (.int .i64) p0), (.v (.int .i64) p1), (.v (.int .i64) p2), (.v (.int .i64) p3), (.v .bool p4)]), (.one (.pref [(.v (.int .i64) p5)] 0))]
noncomputable def strings_IndexFunc.f (p0 : ByteArray) : Option (Int × Unit) := (Go.Proofs.R.Einf Go.Proofs.C15.ctx).call 82 [(.one (.v .str p0)), (.one (.clo 76 []))]
noncomputable def sound_Beats.l3 (p0 : Int) (p1 : (List (Int × (Int × ByteArray)))) (p2 : Int) (p3 : Int) : Option (Int × Unit) := Go.Proofs.R.loopAt Go.Proofs.C15.ctx (Go.Proofs.R.Einf Go.Proofs.C15.ctx) 78 3 (.mk [(3, (.one (.v (.int .i64) p0))), (6, (.one (.v (.sl (.pair (.int .i64) (.pair (.int .i64) .str))) p1))), (7, (.one (.v (.int .i64) p2))), (8, (.one (.v (.int .i64) p3)))] [])
noncomputable def ancepsref11_letter.f (p0 : Int) : Option (Bool × Unit) := (Go.Proofs.R.Einf Go.Proofs.C15.ctx).call 79 [(.one (.v (.int .u8) p0))]
noncomputable def ancepsref11_Beats.l3 (p0 : (List (Int × (Int × ByteArray)))) (p1 : Int) (p2 : Int) : Option (Int × Unit) := Go.Proofs.R.loopAt Go.Proofs.C15.ctx (Go.Proofs.R.Einf Go.Proofs.C15.ctx) 80 3 (.mk [(0, (.one (.v (.sl (.pair (.int .i64) (.pair (.int .i64) .str))) p0))), (3, (.one (.v (.int .i64) p1))), (4, (.one (.v (.int .i64) p2)))] [])
noncomputable def ancepsref11_letters.f : Option (ByteArray × Unit) := (Go.Proofs.R.Einf Go.Proofs.C15.ctx).call 72 []
noncomputable def strings_indexFunc.f (p0 : ByteArray) (p1 : Bool) : Option (Int × Unit) := (Go.Proofs.R.Einf Go.Proofs.C15.ctx).call 84 [(.one (.v .str p0)), (.one (.clo 76 [])), (.one (.v .bool p1))]
noncomputable def sound_beats.f (p0 : Int) (p1 : Int) (p2 : ByteArray) : Option (Int × Unit) := (Go.Proofs.R.Einf Go.Proofs.C15.ctx).call 83 [(.agg [(.v (.int .i64) p0), (.v (.int .i64) p1), (.v .str p2)])]
noncomputable def strings_indexFunc.l2 (p0 : Bool) (p1 : ByteArray) (p2 : Nat) : Option (Int × Unit) := Go.Proofs.R.loopAt Go.Proofs.C15.ctx (Go.Proofs.R.Einf Go.Proofs.C15.ctx) 84 2 (.mk [(1, (.one (.clo 76 []))), (2, (.one (.v .bool p0))), (10, (.one (.ref 7 0)))] [(7, (.iter p1 p2))])
noncomputable def sound_Valid_1.f (p0 : Int) : Option (Bool × Unit) := (Go.Proofs.R.Einf Go.Proofs.C15.ctx).call 76 [(.one (.v (.int .i32) p0))]
noncomputable def sound_written.f (p0 : Int) : Option (Bool × Unit) := (Go.Proofs.R.Einf Go.Proofs.C15.ctx).call 77 [(.one (.v (.int .i32) p0))]

theorem ancepslaw15_SyllableWord.f_eq (p0 : (List Int)) (p1 : Int) : ancepslaw15_SyllableWord.f p0 p1 =
  bindD (ancepslaw15_awake.f) fun t0 =>
  ifB (!t0.1)
   (bindD (ancepslaw15_awake.f) fun t1 =>
   some (t1.1, ()))
  (ifB (decide ((((List.length p0) : Nat) : Int) > (100 : Int)))
    (bindD (ancepslaw15_awake.f) fun t2 =>
    some (t2.1, ()))
   (bindD (slices_Clone_int_int.f p0) fun t3 =>
    bindD (syllable_Word.f t3.1 p1) fun t4 =>
    bindD (ancepsref15_Word.f p0 p1) fun t5 =>
    ifB (t4.1 == t5.1)
     (ifB (decide (p1 ≥ (1000000 : Int)))
      (some (true, ()))
     (bindD (syllable_Word.f p0 (Go.IntKind.wrap Go.IntKind.i64 (p1 + (1 : Int)))) fun t6 =>
      some ((decide (t6.1 ≥ t4.1)), ())))
    (some (false, ())))) := (Einf_call Go.Proofs.C15.ctx 4 _).trans (by kernel_rfl)
theorem ancepslaw15_SyllableOpen.f_eq (p0 : (List (Int × (Int × ByteArray)))) (p1 : Int) (p2 : Int) (p3 : Int) (p4 : Int) (p5 : Bool) : ancepslaw15_SyllableOpen.f p0 p1 p2 p3 p4 p5 =
  bindD (ancepslaw15_awake.f) fun t7 =>
  ifB (!t7.1)
   (bindD (ancepslaw15_awake.f) fun t8 =>
   some (t8.1, ()))
  (bindD (ancepsref15_Few.f p0 ([] : (List Int))) fun t9 =>
   ifB (!t9.1)
    (bindD (ancepslaw15_awake.f) fun t10 =>
    some (t10.1, ()))
   (bindD (api_Sound.f p0) fun t11 =>
    bindD (syllable_Open.f t11.1 p1 p2 p3 p4 p5) fun t12 =>
    bindD (ancepsref15_Open.f p0 p1 p2 p3 p4 p5) fun t13 =>
    ifB (t12.1 == t13.1)
     (some ((t12.2.1 == t13.2.1), ()))
    (some (false, ())))) := (Einf_call Go.Proofs.C15.ctx 5 _).trans (by kernel_rfl)
theorem ancepslaw15_SyllableText.f_eq (p0 : (List (Int × (Int × ByteArray)))) (p1 : (List Int)) : ancepslaw15_SyllableText.f p0 p1 =
  bindD (ancepslaw15_awake.f) fun t14 =>
  ifB (!t14.1)
   (bindD (ancepslaw15_awake.f) fun t15 =>
   some (t15.1, ()))
  (bindD (ancepsref15_Few.f p0 p1) fun t16 =>
   ifB (!t16.1)
    (bindD (ancepslaw15_awake.f) fun t17 =>
    some (t17.1, ()))
   (bindD (api_Sound.f p0) fun t18 =>
    bindD (slices_Clone_int_int.f p1) fun t19 =>
    bindD (syllable_Text.f t18.1 t19.1) fun t20 =>
    bindD (ancepsref15_Text.f p0 p1) fun t21 =>
    ifB ((ByteArray.toList t20.1) == (ByteArray.toList t21.1))
     (some ((t20.2.1 == t21.2.1), ()))
    (some (false, ())))) := (Einf_call Go.Proofs.C15.ctx 3 _).trans (by kernel_rfl)
theorem ancepslaw15_SyllableDivide.f_eq (p0 : (List (Int × (Int × ByteArray)))) (p1 : (List Int)) (p2 : (List (Int × (Int × (Int × (Int × Bool)))))) : ancepslaw15_SyllableDivide.f p0 p1 p2 =
  bindD (ancepslaw15_awake.f) fun t22 =>
  ifB (!t22.1)
   (bindD (ancepslaw15_awake.f) fun t23 =>
   some (t23.1, ()))
  (bindD (ancepsref15_Few.f p0 p1) fun t24 =>
   ifB (!t24.1)
    (bindD (ancepslaw15_awake.f) fun t25 =>
    some (t25.1, ()))
   (ifB (decide ((((List.length p2) : Nat) : Int) > (210 : Int)))
     (bindD (ancepslaw15_awake.f) fun t26 =>
     some (t26.1, ()))
    (bindD (api_Sound.f p0) fun t27 =>
     bindD (slices_Clone_int_int.f p1) fun t28 =>
     bindD (syllable_Divide.f t27.1 t28.1) fun t29 =>
     bindD (ancepsref15_Divide.f p0 p1) fun t30 =>
     ifB (t29.2.1 != t30.2.1)
      (some (false, ()))
     (bindD (ancepsref15_Same.f t29.1 t30.1) fun t31 =>
      ifB (!t31.1)
       (some (false, ()))
      (ifB (t29.2.1 == (0 : Int))
        (bindD (syllable_Check.f p0 p1 t30.1) fun t32 =>
        ifB (!t32.1)
         (some (false, ()))
        (bindD (api_Syllable.f p2) fun t33 =>
         bindD (syllable_Check.f p0 p1 t33.1) fun t34 =>
         bindD (ancepsref15_Check.f p0 p1 p2) fun t35 =>
         some ((t34.1 == t35.1), ())))
       (bindD (api_Syllable.f p2) fun t36 =>
        bindD (syllable_Check.f p0 p1 t36.1) fun t37 =>
        bindD (ancepsref15_Check.f p0 p1 p2) fun t38 =>
        some ((t37.1 == t38.1), ()))))))) := (Einf_call Go.Proofs.C15.ctx 7 _).trans (by kernel_rfl)
theorem ancepslaw15_SyllableCovers.f_eq (p0 : (List Int)) (p1 : (List Int)) : ancepslaw15_SyllableCovers.f p0 p1 =
  bindD (ancepslaw15_awake.f) fun t39 =>
  ifB (!t39.1)
   (bindD (ancepslaw15_awake.f) fun t40 =>
   some (t40.1, ()))
  (ifB (decide ((((List.length p0) : Nat) : Int) > (60 : Int)))
    (bindD (ancepslaw15_awake.f) fun t41 =>
    some (t41.1, ()))
   (ifB (decide ((((List.length p1) : Nat) : Int) > (20 : Int)))
     (bindD (ancepslaw15_awake.f) fun t42 =>
     some (t42.1, ()))
    (bindD (ancepsref15_Made.f p0 p1) fun t43 =>
     bindD (syllable_Divide.f t43.1 t43.2.1) fun t44 =>
     bindD (ancepsref11_Nuclei.f t43.1) fun t45 =>
     ifB (t44.2.1 != (0 : Int))
      (ifB (t44.2.1 == (7 : Int))
       (ifB ((((List.length t45.1) : Nat) : Int) == (0 : Int))
        (some (true, ()))
       (some ((t44.2.1 == (3 : Int)), ())))
      (some ((t44.2.1 == (3 : Int)), ())))
     (ifB ((((List.length t44.1) : Nat) : Int) != (((List.length t45.1) : Nat) : Int))
       (some (false, ()))
      (ancepslaw15_SyllableCovers.l12 (0 : Int) (((List.length t44.1) : Nat) : Int) (0 : Int) t43.1 t45.1 t44.1))))) := (Einf_call Go.Proofs.C15.ctx 6 _).trans (by kernel_rfl)
theorem ancepslaw15_SyllableBetween.f_eq (p0 : (List (Int × (Int × ByteArray)))) (p1 : (List Int)) (p2 : Int) : ancepslaw15_SyllableBetween.f p0 p1 p2 =
  bindD (ancepslaw15_awake.f) fun t46 =>
  ifB (!t46.1)
   (bindD (ancepslaw15_awake.f) fun t47 =>
   some (t47.1, ()))
  (bindD (ancepsref15_Few.f p0 p1) fun t48 =>
   ifB (!t48.1)
    (bindD (ancepslaw15_awake.f) fun t49 =>
    some (t49.1, ()))
   (bindD (api_Sound.f p0) fun t50 =>
    bindD (slices_Clone_int_int.f p1) fun t51 =>
    bindD (syllable_Nuclei.f t50.1 t51.1) fun t52 =>
    bindD (ancepsref15_Nuclei.f p0 p1) fun t53 =>
    bindD (api_Sound.f p0) fun t54 =>
    bindD (slices_Clone_int_int.f p1) fun t55 =>
    bindD (syllable_Between.f t54.1 t55.1 p2) fun t56 =>
    bindD (ancepsref15_Between.f p0 p1 p2) fun t57 =>
    ifB (t52.2.1 == t53.2.1)
     (bindD (slices_EqualFunc_int_int_int_int.f t52.1 t53.1) fun t58 =>
     ifB t58.1
      (ifB (t56.2.2.1 == t57.2.2.1)
       (bindD (ancepsref14_Same.f t56.1 t56.2.1 t57.1 t57.2.1) fun t59 =>
       some (t59.1, ()))
      (some (false, ())))
     (some (false, ())))
    (some (false, ())))) := (Einf_call Go.Proofs.C15.ctx 9 _).trans (by kernel_rfl)
theorem ancepslaw15_SyllableEnds.f_eq (p0 : (List Int)) (p1 : (List Int)) : ancepslaw15_SyllableEnds.f p0 p1 =
  bindD (ancepslaw15_awake.f) fun t60 =>
  ifB (!t60.1)
   (bindD (ancepslaw15_awake.f) fun t61 =>
   some (t61.1, ()))
  (ifB (decide ((((List.length p0) : Nat) : Int) > (60 : Int)))
    (bindD (ancepslaw15_awake.f) fun t62 =>
    some (t62.1, ()))
   (ifB (decide ((((List.length p1) : Nat) : Int) > (20 : Int)))
     (bindD (ancepslaw15_awake.f) fun t63 =>
     some (t63.1, ()))
    (bindD (ancepsref15_Made.f p0 p1) fun t64 =>
     bindD (syllable_Divide.f t64.1 t64.2.1) fun t65 =>
     ifB (t65.2.1 != (0 : Int))
      (some (true, ()))
     (bindD (syllable_Nuclei.f t64.1 t64.2.1) fun t66 =>
      ifB (t66.2.1 != (0 : Int))
       (some (false, ()))
      (ifB ((((List.length t66.1) : Nat) : Int) != (Go.IntKind.wrap Go.IntKind.i64 ((((List.length t64.2.1) : Nat) : Int) + (1 : Int))))
        (some (false, ()))
       (bindD ((Go.Proofs.R.mkLen (((List.length t66.1) : Nat) : Int) (((List.length t66.1) : Nat) : Int))) fun t67 =>
        ancepslaw15_SyllableEnds.l13 (0 : Int) (0 : Int) (((List.length t66.1) : Nat) : Int) (0 : Int) t65.1 t66.1 (List.replicate t67 ([] : (List Int))))))))) := (Einf_call Go.Proofs.C15.ctx 8 _).trans (by kernel_rfl)
theorem ancepslaw15_awake.f_eq : ancepslaw15_awake.f =
  bindD (ancepsref11_Parse.f (ByteArray.mk (List.toArray ((97 : UInt8) :: ((47 : UInt8) :: ((118 : UInt8) :: ((51 : UInt8) :: ((32 : UInt8) :: ((114 : UInt8) :: ((47 : UInt8) :: ((108 : UInt8) :: ((32 : UInt8) :: ((109 : UInt8) :: ((47 : UInt8) :: ((110 : UInt8) :: ((32 : UInt8) :: ((97 : UInt8) :: ((47 : UInt8) :: ((118 : UInt8) :: ((51 : UInt8) :: ([] : (List UInt8)))))))))))))))))))))) fun t68 =>
  bindD (ancepsref11_Parse.f (ByteArray.mk (List.toArray ((101 : UInt8) :: ((47 : UInt8) :: ((118 : UInt8) :: ((51 : UInt8) :: ((32 : UInt8) :: ((116 : UInt8) :: ((47 : UInt8) :: ((109 : UInt8) :: ((32 : UInt8) :: ((97 : UInt8) :: ((47 : UInt8) :: ((118 : UInt8) :: ((51 : UInt8) :: ((32 : UInt8) :: ((108 : UInt8) :: ((47 : UInt8) :: ((108 : UInt8) :: ((32 : UInt8) :: ((116 : UInt8) :: ((47 : UInt8) :: ((109 : UInt8) :: ((32 : UInt8) :: ((111 : UInt8) :: ((47 : UInt8) :: ((118 : UInt8) :: ((51 : UInt8) :: ([] : (List UInt8))))))))))))))))))))))))))))))) fun t69 =>
  bindD (syllable_Divide.f t68.1 ([] : (List Int))) fun t70 =>
  bindD (syllable_Text.f t69.1 ((2 : Int) :: ([] : (List Int)))) fun t71 =>
  ifB (t70.2.1 == (0 : Int))
   (ifB ((((List.length t70.1) : Nat) : Int) == (2 : Int))
    (bindD ((ixAt t70.1 (0 : Int))) fun t72 =>
    bindD ((ixAt t70.1 (0 : Int))) fun t73 =>
    ifB (t73.2.1 == (2 : Int))
     (bindD ((ixAt t70.1 (1 : Int))) fun t74 =>
     bindD ((ixAt t70.1 (1 : Int))) fun t75 =>
     ifB t75.2.2.2.2
      (bindD ((ixAt t70.1 (0 : Int))) fun t76 =>
      bindD ((ixAt t70.1 (0 : Int))) fun t77 =>
      ifB (!t77.2.2.2.2)
       (ifB (t71.2.1 == (0 : Int))
        (some (((ByteArray.toList t71.1) == (ByteArray.toList (ByteArray.mk (List.toArray ((101 : UInt8) :: ((46 : UInt8) :: ((116 : UInt8) :: ((95 : UInt8) :: ((97 : UInt8) :: ((108 : UInt8) :: ((46 : UInt8) :: ((116 : UInt8) :: ((111 : UInt8) :: ([] : (List UInt8))))))))))))))), ()))
       (some (false, ())))
      (some (false, ())))
     (some (false, ())))
    (some (false, ())))
   (some (false, ())))
  (some (false, ())) := (Einf_call Go.Proofs.C15.ctx 10 _).trans (by kernel_rfl)
theorem slices_Clone_int_int.f_eq (p0 : (List Int)) : slices_Clone_int_int.f p0 =
  bindD ((Go.Proofs.R.grow (List.length p0))) fun t78 =>
  some (p0, ()) := (Einf_call Go.Proofs.C15.ctx 14 _).trans (by kernel_rfl)
theorem syllable_Word.f_eq (p0 : (List Int)) (p1 : Int) : syllable_Word.f p0 p1 =
  syllable_Word.l3 p1 (0 : Int) p0 (((List.length p0) : Nat) : Int) (0 : Int) := (Einf_call Go.Proofs.C15.ctx 16 _).trans (by kernel_rfl)
theorem ancepsref15_Word.f_eq (p0 : (List Int)) (p1 : Int) : ancepsref15_Word.f p0 p1 =
  ancepsref15_Word.l3 p0 p1 (0 : Int) (0 : Int) := (Einf_call Go.Proofs.C15.ctx 17 _).trans (by kernel_rfl)
theorem ancepsref15_Few.f_eq (p0 : (List (Int × (Int × ByteArray)))) (p1 : (List Int)) : ancepsref15_Few.f p0 p1 =
  bindD (ancepsref11_Few.f p0 (210 : Int)) fun t79 =>
  ifB t79.1
   (some ((decide ((((List.length p1) : Nat) : Int) ≤ (30 : Int))), ()))
  (some (false, ())) := (Einf_call Go.Proofs.C15.ctx 11 _).trans (by kernel_rfl)
theorem api_Sound.f_eq (p0 : (List (Int × (Int × ByteArray)))) : api_Sound.f p0 =
  bindD ((Go.Proofs.R.grow (List.length p0))) fun t80 =>
  some (p0, ()) := (Einf_call Go.Proofs.C15.ctx 13 _).trans (by kernel_rfl)
theorem syllable_Open.f_eq (p0 : (List (Int × (Int × ByteArray)))) (p1 : Int) (p2 : Int) (p3 : Int) (p4 : Int) (p5 : Bool) : syllable_Open.f p0 p1 p2 p3 p4 p5 =
  ifB (decide (p1 < (0 : Int)))
   (some (false, ((1 : Int), ())))
  (ifB (decide (p1 > p3))
    (some (false, ((1 : Int), ())))
   (ifB (decide (p3 ≥ p2))
     (some (false, ((1 : Int), ())))
    (ifB (decide (p2 > (((List.length p0) : Nat) : Int)))
      (some (false, ((1 : Int), ())))
     (bindD ((ixAt p0 p3)) fun t81 =>
      bindD (sound_Nucleus.f t81.1 t81.2.1 t81.2.2) fun t82 =>
      ifB (!t82.1)
       (some (false, ((1 : Int), ())))
      (some ((p3 == (Go.IntKind.wrap Go.IntKind.i64 (p2 - (1 : Int)))), ((0 : Int), ()))))))) := (Einf_call Go.Proofs.C15.ctx 18 _).trans (by kernel_rfl)
theorem ancepsref15_Open.f_eq (p0 : (List (Int × (Int × ByteArray)))) (p1 : Int) (p2 : Int) (p3 : Int) (p4 : Int) (p5 : Bool) : ancepsref15_Open.f p0 p1 p2 p3 p4 p5 =
  ifB (decide (p1 < (0 : Int)))
   (some (false, ((1 : Int), ())))
  (ifB (decide (p1 > p3))
    (some (false, ((1 : Int), ())))
   (ifB (decide (p3 ≥ p2))
     (some (false, ((1 : Int), ())))
    (ifB (decide (p2 > (((List.length p0) : Nat) : Int)))
      (some (false, ((1 : Int), ())))
     (bindD ((ixAt p0 p3)) fun t83 =>
      bindD (ancepsref11_Nucleus.f t83.1 t83.2.1 t83.2.2) fun t84 =>
      ifB (!t84.1)
       (some (false, ((1 : Int), ())))
      (some ((p3 == (Go.IntKind.wrap Go.IntKind.i64 (p2 - (1 : Int)))), ((0 : Int), ()))))))) := (Einf_call Go.Proofs.C15.ctx 19 _).trans (by kernel_rfl)
theorem syllable_Text.f_eq (p0 : (List (Int × (Int × ByteArray)))) (p1 : (List Int)) : syllable_Text.f p0 p1 =
  bindD (syllable_Divide.f p0 p1) fun t85 =>
  ifB (t85.2.1 != (0 : Int))
   (some ((ByteArray.mk (List.toArray ([] : (List UInt8)))), (t85.2.1, ())))
  (syllable_Text.l6 p1 p0 (((List.length p0) : Nat) : Int) (0 : Int) t85.1 ([] : (List Int))) := (Einf_call Go.Proofs.C15.ctx 12 _).trans (by kernel_rfl)
theorem ancepsref15_Text.f_eq (p0 : (List (Int × (Int × ByteArray)))) (p1 : (List Int)) : ancepsref15_Text.f p0 p1 =
  bindD (ancepsref15_Divide.f p0 p1) fun t86 =>
  ifB (t86.2.1 != (0 : Int))
   (some ((ByteArray.mk (List.toArray ([] : (List UInt8)))), (t86.2.1, ())))
  (ancepsref15_Text.l6 p0 p1 (0 : Int) t86.1 ([] : (List Int))) := (Einf_call Go.Proofs.C15.ctx 15 _).trans (by kernel_rfl)
theorem syllable_Divide.f_eq (p0 : (List (Int × (Int × ByteArray)))) (p1 : (List Int)) : syllable_Divide.f p0 p1 =
  bindD (syllable_valid.f p0 p1) fun t87 =>
  ifB (t87.1 != (0 : Int))
   (some (([] : (List (Int × (Int × (Int × (Int × Bool)))))), (t87.1, ())))
  (bindD (sound_Nuclei.f p0) fun t88 =>
   ifB ((((List.length t88.1) : Nat) : Int) == (0 : Int))
    (some (([] : (List (Int × (Int × (Int × (Int × Bool)))))), ((7 : Int), ())))
   (syllable_Divide.l10 p0 p1 (0 : Int) (((List.length t88.1) : Nat) : Int) (0 : Int) t88.1 ([] : (List (Int × (Int × (Int × (Int × Bool)))))))) := (Einf_call Go.Proofs.C15.ctx 21 _).trans (by kernel_rfl)
theorem ancepsref15_Divide.f_eq (p0 : (List (Int × (Int × ByteArray)))) (p1 : (List Int)) : ancepsref15_Divide.f p0 p1 =
  bindD (ancepsref15_Valid.f p0 p1) fun t89 =>
  ifB (t89.1 != (0 : Int))
   (some (([] : (List (Int × (Int × (Int × (Int × Bool)))))), (t89.1, ())))
  (bindD (ancepsref11_Nuclei.f p0) fun t90 =>
   ifB ((((List.length t90.1) : Nat) : Int) == (0 : Int))
    (some (([] : (List (Int × (Int × (Int × (Int × Bool)))))), ((7 : Int), ())))
   (ancepsref15_Divide.l10 p0 p1 (0 : Int) (0 : Int) t90.1 ([] : (List (Int × (Int × (Int × (Int × Bool)))))))) := (Einf_call Go.Proofs.C15.ctx 24 _).trans (by kernel_rfl)
theorem ancepsref15_Same.f_eq (p0 : (List (Int × (Int × (Int × (Int × Bool)))))) (p1 : (List (Int × (Int × (Int × (Int × Bool)))))) : ancepsref15_Same.f p0 p1 =
  ifB ((((List.length p0) : Nat) : Int) != (((List.length p1) : Nat) : Int))
   (some (false, ()))
  (ancepsref15_Same.l4 p0 p1 (0 : Int)) := (Einf_call Go.Proofs.C15.ctx 25 _).trans (by kernel_rfl)
theorem syllable_Check.f_eq (p0 : (List (Int × (Int × ByteArray)))) (p1 : (List Int)) (p2 : (List (Int × (Int × (Int × (Int × Bool)))))) : syllable_Check.f p0 p1 p2 =
  bindD (syllable_Divide.f p0 p1) fun t91 =>
  ifB (t91.2.1 == (0 : Int))
   (bindD (api_Syllable_54.f t91.1 p2) fun t92 =>
   some (t92.1, ()))
  (some (false, ())) := (Einf_call Go.Proofs.C15.ctx 26 _).trans (by kernel_rfl)
theorem api_Syllable.f_eq (p0 : (List (Int × (Int × (Int × (Int × Bool)))))) : api_Syllable.f p0 =
  bindD ((Go.Proofs.R.grow (List.length p0))) fun t93 =>
  some (p0, ()) := (Einf_call Go.Proofs.C15.ctx 27 _).trans (by kernel_rfl)
theorem ancepsref15_Check.f_eq (p0 : (List (Int × (Int × ByteArray)))) (p1 : (List Int)) (p2 : (List (Int × (Int × (Int × (Int × Bool)))))) : ancepsref15_Check.f p0 p1 p2 =
  bindD (ancepsref15_Divide.f p0 p1) fun t94 =>
  ifB (t94.2.1 == (0 : Int))
   (bindD (ancepsref15_Same.f p2 t94.1) fun t95 =>
   some (t95.1, ()))
  (some (false, ())) := (Einf_call Go.Proofs.C15.ctx 28 _).trans (by kernel_rfl)
theorem ancepsref15_Made.f_eq (p0 : (List Int)) (p1 : (List Int)) : ancepsref15_Made.f p0 p1 =
  bindD (ancepsref11_All.f p0) fun t96 =>
  ancepsref15_Made.l4 (0 : Int) p0 p1 t96.1 ([] : (List Int)) := (Einf_call Go.Proofs.C15.ctx 20 _).trans (by kernel_rfl)
theorem ancepsref11_Nuclei.f_eq (p0 : (List (Int × (Int × ByteArray)))) : ancepsref11_Nuclei.f p0 =
  ancepsref11_Nuclei.l3 p0 (0 : Int) ([] : (List Int)) := (Einf_call Go.Proofs.C15.ctx 22 _).trans (by kernel_rfl)
theorem ancepslaw15_SyllableCovers.l12_eq (p0 : Int) (p1 : Int) (p2 : Int) (p3 : (List (Int × (Int × ByteArray)))) (p4 : (List Int)) (p5 : (List (Int × (Int × (Int × (Int × Bool)))))) : ancepslaw15_SyllableCovers.l12 p0 p1 p2 p3 p4 p5 =
  ifB (decide (p2 < p1))
   (bindD ((ixAt p5 p2)) fun t97 =>
   bindD ((ixAt p5 p2)) fun t98 =>
   ifB (t98.1 != p0)
    (some (false, ()))
   (ifB (decide (t98.2.1 ≤ t98.1))
     (some (false, ()))
    (ifB (decide (t98.2.1 > (((List.length p3) : Nat) : Int)))
      (some (false, ()))
     (bindD ((ixAt p4 p2)) fun t99 =>
      bindD ((ixAt p4 p2)) fun t100 =>
      ifB (t98.2.2.1 != t100)
       (some (false, ()))
      (bindD ((subL p3 t98.1 t98.2.1)) fun t101 =>
       bindD (ancepsref11_Nuclei.f t101) fun t102 =>
       ifB ((((List.length t102.1) : Nat) : Int) != (1 : Int))
        (some (false, ()))
       (bindD (syllable_Open.f p3 t98.1 t98.2.1 t98.2.2.1 t98.2.2.2.1 t98.2.2.2.2) fun t103 =>
        ifB (t103.2.1 != (0 : Int))
         (some (false, ()))
        (bindD ((ixAt p3 (Go.IntKind.wrap Go.IntKind.i64 (t98.2.1 - (1 : Int))))) fun t104 =>
         bindD ((ixAt p3 (Go.IntKind.wrap Go.IntKind.i64 (t98.2.1 - (1 : Int))))) fun t105 =>
         bindD (ancepsref11_Nucleus.f t105.1 t105.2.1 t105.2.2) fun t106 =>
         ifB (!(t103.1 == t106.1))
          (some (false, ()))
         (ancepslaw15_SyllableCovers.l12_1 t98.2.1 p1 (Go.IntKind.wrap Go.IntKind.i64 (p2 + (1 : Int))) p3 p4 p5))))))))
  (some ((p0 == (((List.length p3) : Nat) : Int)), ())) := (loopAt_step Go.Proofs.C15.ctx 6 12 _).trans (by kernel_rfl)
theorem syllable_Nuclei.f_eq (p0 : (List (Int × (Int × ByteArray)))) (p1 : (List Int)) : syllable_Nuclei.f p0 p1 =
  bindD (syllable_valid.f p0 p1) fun t107 =>
  ifB (t107.1 != (0 : Int))
   (some (([] : (List (List Int))), (t107.1, ())))
  (bindD ((Go.Proofs.R.mkLen (Go.IntKind.wrap Go.IntKind.i64 ((((List.length p1) : Nat) : Int) + (1 : Int))) (Go.IntKind.wrap Go.IntKind.i64 ((((List.length p1) : Nat) : Int) + (1 : Int))))) fun t108 =>
   bindD (sound_Nuclei.f p0) fun t109 =>
   syllable_Nuclei.l6 p1 (((List.length t109.1) : Nat) : Int) (0 : Int) (List.replicate t108 ([] : (List Int))) t109.1) := (Einf_call Go.Proofs.C15.ctx 29 _).trans (by kernel_rfl)
theorem ancepsref15_Nuclei.f_eq (p0 : (List (Int × (Int × ByteArray)))) (p1 : (List Int)) : ancepsref15_Nuclei.f p0 p1 =
  bindD (ancepsref15_Valid.f p0 p1) fun t110 =>
  ifB (t110.1 != (0 : Int))
   (some (([] : (List (List Int))), (t110.1, ())))
  (bindD ((Go.Proofs.R.mkLen (Go.IntKind.wrap Go.IntKind.i64 ((((List.length p1) : Nat) : Int) + (1 : Int))) (Go.IntKind.wrap Go.IntKind.i64 ((((List.length p1) : Nat) : Int) + (1 : Int))))) fun t111 =>
   bindD (ancepsref11_Nuclei.f p0) fun t112 =>
   ancepsref15_Nuclei.l7 p1 (0 : Int) (List.replicate t111 ([] : (List Int))) t112.1) := (Einf_call Go.Proofs.C15.ctx 32 _).trans (by kernel_rfl)
theorem syllable_Between.f_eq (p0 : (List (Int × (Int × ByteArray)))) (p1 : (List Int)) (p2 : Int) : syllable_Between.f p0 p1 p2 =
  bindD (syllable_valid.f p0 p1) fun t113 =>
  ifB (t113.1 != (0 : Int))
   (some (([] : (List (Int × (Int × ByteArray)))), (([] : (List Int)), (t113.1, ()))))
  (bindD (sound_Nuclei.f p0) fun t114 =>
   ifB (decide (p2 < (0 : Int)))
    (some (([] : (List (Int × (Int × ByteArray)))), (([] : (List Int)), ((6 : Int), ()))))
   (ifB (decide (p2 ≥ (((List.length t114.1) : Nat) : Int)))
     (some (([] : (List (Int × (Int × ByteArray)))), (([] : (List Int)), ((6 : Int), ()))))
    (bindD (syllable_between.f p0 p1 t114.1 p2) fun t115 =>
     bindD (cluster_Valid.f t115.1 t115.2.1) fun t116 =>
     ifB (t116.1 != (0 : Int))
      (some (([] : (List (Int × (Int × ByteArray)))), (([] : (List Int)), (t116.1, ()))))
     (some (t115.1, (t115.2.1, ((0 : Int), ()))))))) := (Einf_call Go.Proofs.C15.ctx 33 _).trans (by kernel_rfl)
theorem ancepsref15_Between.f_eq (p0 : (List (Int × (Int × ByteArray)))) (p1 : (List Int)) (p2 : Int) : ancepsref15_Between.f p0 p1 p2 =
  bindD (ancepsref15_Valid.f p0 p1) fun t117 =>
  ifB (t117.1 != (0 : Int))
   (some (([] : (List (Int × (Int × ByteArray)))), (([] : (List Int)), (t117.1, ()))))
  (bindD (ancepsref11_Nuclei.f p0) fun t118 =>
   ifB (decide (p2 < (0 : Int)))
    (some (([] : (List (Int × (Int × ByteArray)))), (([] : (List Int)), ((6 : Int), ()))))
   (ifB (decide (p2 ≥ (((List.length t118.1) : Nat) : Int)))
     (some (([] : (List (Int × (Int × ByteArray)))), (([] : (List Int)), ((6 : Int), ()))))
    (ifB (decide ((Go.IntKind.wrap Go.IntKind.i64 (p2 + (1 : Int))) < (((List.length t118.1) : Nat) : Int)))
      (bindD ((ixAt t118.1 (Go.IntKind.wrap Go.IntKind.i64 (p2 + (1 : Int))))) fun t119 =>
      bindD ((ixAt t118.1 (Go.IntKind.wrap Go.IntKind.i64 (p2 + (1 : Int))))) fun t120 =>
      bindD ((ixAt t118.1 p2)) fun t121 =>
      bindD ((ixAt t118.1 p2)) fun t122 =>
      bindD (ancepsref15_cluster.f p0 p1 t122 t120) fun t123 =>
      bindD (ancepsref14_Valid.f t123.1 t123.2.1) fun t124 =>
      ifB (t124.1 != (0 : Int))
       (some (([] : (List (Int × (Int × ByteArray)))), (([] : (List Int)), (t124.1, ()))))
      (some (t123.1, (t123.2.1, ((0 : Int), ())))))
     (bindD ((ixAt t118.1 p2)) fun t125 =>
      bindD ((ixAt t118.1 p2)) fun t126 =>
      bindD (ancepsref15_cluster.f p0 p1 t126 (((List.length p0) : Nat) : Int)) fun t127 =>
      bindD (ancepsref14_Valid.f t127.1 t127.2.1) fun t128 =>
      ifB (t128.1 != (0 : Int))
       (some (([] : (List (Int × (Int × ByteArray)))), (([] : (List Int)), (t128.1, ()))))
      (some (t127.1, (t127.2.1, ((0 : Int), ())))))))) := (Einf_call Go.Proofs.C15.ctx 34 _).trans (by kernel_rfl)
theorem slices_EqualFunc_int_int_int_int.f_eq (p0 : (List (List Int))) (p1 : (List (List Int))) : slices_EqualFunc_int_int_int_int.f p0 p1 =
  ifB ((((List.length p0) : Nat) : Int) != (((List.length p1) : Nat) : Int))
   (some (false, ()))
  (slices_EqualFunc_int_int_int_int.l4 p1 p0 (((List.length p0) : Nat) : Int) (0 : Int)) := (Einf_call Go.Proofs.C15.ctx 30 _).trans (by kernel_rfl)
theorem ancepsref14_Same.f_eq (p0 : (List (Int × (Int × ByteArray)))) (p1 : (List Int)) (p2 : (List (Int × (Int × ByteArray)))) (p3 : (List Int)) : ancepsref14_Same.f p0 p1 p2 p3 =
  bindD (ancepsref14_Compare.f p0 p1 p2 p3) fun t129 =>
  some ((t129.1 == (0 : Int)), ()) := (Einf_call Go.Proofs.C15.ctx 35 _).trans (by kernel_rfl)
theorem ancepslaw15_SyllableEnds.l13_eq (p0 : Int) (p1 : Int) (p2 : Int) (p3 : Int) (p4 : (List (Int × (Int × (Int × (Int × Bool)))))) (p5 : (List (List Int))) (p6 : (List (List Int))) : ancepslaw15_SyllableEnds.l13 p0 p1 p2 p3 p4 p5 p6 =
  ifB (decide (p3 < p2))
   (bindD ((ixAt p5 p3)) fun t130 =>
   bindD ((ixAt p5 p3)) fun t131 =>
   ifB (decide ((((List.length t131) : Nat) : Int) > (0 : Int)))
    (ancepslaw15_SyllableEnds.l13 (Go.IntKind.wrap Go.IntKind.i64 (p0 + (1 : Int))) p1 p2 (Go.IntKind.wrap Go.IntKind.i64 (p3 + (1 : Int))) p4 p5 p6)
   (ancepslaw15_SyllableEnds.l13 p0 p1 p2 (Go.IntKind.wrap Go.IntKind.i64 (p3 + (1 : Int))) p4 p5 p6))
  (ancepslaw15_SyllableEnds.l19 p0 p1 (((List.length p4) : Nat) : Int) (0 : Int) p4 p5 p6) := (loopAt_step Go.Proofs.C15.ctx 8 13 _).trans (by kernel_rfl)
theorem ancepsref11_Parse.f_eq (p0 : ByteArray) : ancepsref11_Parse.f p0 =
  ifB (decide ((((ByteArray.size p0) : Nat) : Int) > (4000 : Int)))
   (some (([] : (List (Int × (Int × ByteArray)))), ((3 : Int), ())))
  (ifB ((ByteArray.toList p0) == (ByteArray.toList (ByteArray.mk (List.toArray ([] : (List UInt8))))))
    (some (([] : (List (Int × (Int × ByteArray)))), ((0 : Int), ())))
   (bindD (ancepsref11_split.f p0) fun t132 =>
    ancepsref11_Parse.l8 (0 : Int) ([] : (List (Int × (Int × ByteArray)))) t132.1)) := (Einf_call Go.Proofs.C15.ctx 36 _).trans (by kernel_rfl)
theorem syllable_Word.l3_eq (p0 : Int) (p1 : Int) (p2 : (List Int)) (p3 : Int) (p4 : Int) : syllable_Word.l3 p0 p1 p2 p3 p4 =
  ifB (decide (p4 < p3))
   (bindD ((ixAt p2 p4)) fun t133 =>
   ifB (decide (t133 ≤ p0))
    (syllable_Word.l3 p0 (Go.IntKind.wrap Go.IntKind.i64 (p1 + (1 : Int))) p2 p3 (Go.IntKind.wrap Go.IntKind.i64 (p4 + (1 : Int))))
   (syllable_Word.l3 p0 p1 p2 p3 (Go.IntKind.wrap Go.IntKind.i64 (p4 + (1 : Int)))))
  (some (p1, ())) := (loopAt_step Go.Proofs.C15.ctx 16 3 _).trans (by kernel_rfl)
theorem ancepsref15_Word.l3_eq (p0 : (List Int)) (p1 : Int) (p2 : Int) (p3 : Int) : ancepsref15_Word.l3 p0 p1 p2 p3 =
  ifB (decide (p3 < (((List.length p0) : Nat) : Int)))
   (bindD ((ixAt p0 p3)) fun t134 =>
   ifB (decide (t134 ≤ p1))
    (ancepsref15_Word.l3 p0 p1 (Go.IntKind.wrap Go.IntKind.i64 (p2 + (1 : Int))) (Go.IntKind.wrap Go.IntKind.i64 (p3 + (1 : Int))))
   (ancepsref15_Word.l3 p0 p1 p2 (Go.IntKind.wrap Go.IntKind.i64 (p3 + (1 : Int)))))
  (some (p2, ())) := (loopAt_step Go.Proofs.C15.ctx 17 3 _).trans (by kernel_rfl)
theorem ancepsref11_Few.f_eq (p0 : (List (Int × (Int × ByteArray)))) (p1 : Int) : ancepsref11_Few.f p0 p1 =
  ifB (decide ((((List.length p0) : Nat) : Int) > p1))
   (some (false, ()))
  (ancepsref11_Few.l4 p0 (0 : Int)) := (Einf_call Go.Proofs.C15.ctx 37 _).trans (by kernel_rfl)
theorem sound_Nucleus.f_eq (p0 : Int) (p1 : Int) (p2 : ByteArray) : sound_Nucleus.f p0 p1 p2 =
  ifB (p0 == (1 : Int))
   (some (true, ()))
  (some ((p0 == (2 : Int)), ())) := (Einf_call Go.Proofs.C15.ctx 45 _).trans (by kernel_rfl)
theorem ancepsref11_Nucleus.f_eq (p0 : Int) (p1 : Int) (p2 : ByteArray) : ancepsref11_Nucleus.f p0 p1 p2 =
  ifB (p0 == (1 : Int))
   (some (true, ()))
  (some ((p0 == (2 : Int)), ())) := (Einf_call Go.Proofs.C15.ctx 23 _).trans (by kernel_rfl)
theorem syllable_Text.l6_eq (p0 : (List Int)) (p1 : (List (Int × (Int × ByteArray)))) (p2 : Int) (p3 : Int) (p4 : (List (Int × (Int × (Int × (Int × Bool)))))) (p5 : (List Int)) : syllable_Text.l6 p0 p1 p2 p3 p4 p5 =
  ifB (decide (p3 < p2))
   (bindD ((ixAt p1 p3)) fun t135 =>
   ifB (decide (p3 > (0 : Int)))
    (bindD (api_Syllable_38.f p4 p3) fun t136 =>
    bindD (slices_Contains_int_int.f p0 p3) fun t137 =>
    ifB t136.1
     (ifB t137.1
      (bindD ((Go.Proofs.R.grow ((List.length p5) + (List.length ((32 : Int) :: ([] : (List Int))))))) fun t138 =>
      bindD ((Go.Proofs.R.grow ((List.length (p5 ++ ((32 : Int) :: ([] : (List Int))))) + (List.length (Go.Proofs.R.ints t135.2.2))))) fun t139 =>
      syllable_Text.l6_1 p0 p1 p2 (Go.IntKind.wrap Go.IntKind.i64 (p3 + (1 : Int))) p4 ((p5 ++ ((32 : Int) :: ([] : (List Int)))) ++ (Go.Proofs.R.ints t135.2.2)))
     (ifB t136.1
       (bindD ((Go.Proofs.R.grow ((List.length p5) + (List.length ((46 : Int) :: ([] : (List Int))))))) fun t140 =>
       bindD ((Go.Proofs.R.grow ((List.length (p5 ++ ((46 : Int) :: ([] : (List Int))))) + (List.length (Go.Proofs.R.ints t135.2.2))))) fun t141 =>
       syllable_Text.l6_1 p0 p1 p2 (Go.IntKind.wrap Go.IntKind.i64 (p3 + (1 : Int))) p4 ((p5 ++ ((46 : Int) :: ([] : (List Int)))) ++ (Go.Proofs.R.ints t135.2.2)))
      (ifB t137.1
        (bindD ((Go.Proofs.R.grow ((List.length p5) + (List.length ((95 : Int) :: ([] : (List Int))))))) fun t142 =>
        bindD ((Go.Proofs.R.grow ((List.length (p5 ++ ((95 : Int) :: ([] : (List Int))))) + (List.length (Go.Proofs.R.ints t135.2.2))))) fun t143 =>
        syllable_Text.l6_1 p0 p1 p2 (Go.IntKind.wrap Go.IntKind.i64 (p3 + (1 : Int))) p4 ((p5 ++ ((95 : Int) :: ([] : (List Int)))) ++ (Go.Proofs.R.ints t135.2.2)))
       (bindD ((Go.Proofs.R.grow ((List.length p5) + (List.length (Go.Proofs.R.ints t135.2.2))))) fun t144 =>
        syllable_Text.l6_1 p0 p1 p2 (Go.IntKind.wrap Go.IntKind.i64 (p3 + (1 : Int))) p4 (p5 ++ (Go.Proofs.R.ints t135.2.2))))))
    (ifB t136.1
      (bindD ((Go.Proofs.R.grow ((List.length p5) + (List.length ((46 : Int) :: ([] : (List Int))))))) fun t145 =>
      bindD ((Go.Proofs.R.grow ((List.length (p5 ++ ((46 : Int) :: ([] : (List Int))))) + (List.length (Go.Proofs.R.ints t135.2.2))))) fun t146 =>
      syllable_Text.l6_1 p0 p1 p2 (Go.IntKind.wrap Go.IntKind.i64 (p3 + (1 : Int))) p4 ((p5 ++ ((46 : Int) :: ([] : (List Int)))) ++ (Go.Proofs.R.ints t135.2.2)))
     (ifB t137.1
       (bindD ((Go.Proofs.R.grow ((List.length p5) + (List.length ((95 : Int) :: ([] : (List Int))))))) fun t147 =>
       bindD ((Go.Proofs.R.grow ((List.length (p5 ++ ((95 : Int) :: ([] : (List Int))))) + (List.length (Go.Proofs.R.ints t135.2.2))))) fun t148 =>
       syllable_Text.l6_1 p0 p1 p2 (Go.IntKind.wrap Go.IntKind.i64 (p3 + (1 : Int))) p4 ((p5 ++ ((95 : Int) :: ([] : (List Int)))) ++ (Go.Proofs.R.ints t135.2.2)))
      (bindD ((Go.Proofs.R.grow ((List.length p5) + (List.length (Go.Proofs.R.ints t135.2.2))))) fun t149 =>
       syllable_Text.l6_1 p0 p1 p2 (Go.IntKind.wrap Go.IntKind.i64 (p3 + (1 : Int))) p4 (p5 ++ (Go.Proofs.R.ints t135.2.2))))))
   (bindD ((Go.Proofs.R.grow ((List.length p5) + (List.length (Go.Proofs.R.ints t135.2.2))))) fun t150 =>
    syllable_Text.l6_1 p0 p1 p2 (Go.IntKind.wrap Go.IntKind.i64 (p3 + (1 : Int))) p4 (p5 ++ (Go.Proofs.R.ints t135.2.2))))
  (bindD ((Go.Proofs.R.bytesOf p5)) fun t151 =>
   some (t151, ((0 : Int), ()))) := (loopAt_step Go.Proofs.C15.ctx 12 6 _).trans (by kernel_rfl)
theorem ancepsref15_Text.l6_eq (p0 : (List (Int × (Int × ByteArray)))) (p1 : (List Int)) (p2 : Int) (p3 : (List (Int × (Int × (Int × (Int × Bool)))))) (p4 : (List Int)) : ancepsref15_Text.l6 p0 p1 p2 p3 p4 =
  ifB (decide (p2 < (((List.length p3) : Nat) : Int)))
   (bindD ((ixAt p3 p2)) fun t152 =>
   bindD ((ixAt p3 p2)) fun t153 =>
   bindD ((Go.Proofs.R.grow ((List.length p4) + (List.length (t153.2.1 :: ([] : (List Int))))))) fun t154 =>
   ancepsref15_Text.l6 p0 p1 (Go.IntKind.wrap Go.IntKind.i64 (p2 + (1 : Int))) p3 (p4 ++ (t153.2.1 :: ([] : (List Int)))))
  (ancepsref15_Text.l11 p0 p1 (ByteArray.mk (List.toArray ([] : (List UInt8)))) (0 : Int) p4) := (loopAt_step Go.Proofs.C15.ctx 15 6 _).trans (by kernel_rfl)
theorem syllable_valid.f_eq (p0 : (List (Int × (Int × ByteArray)))) (p1 : (List Int)) : syllable_valid.f p0 p1 =
  ifB (decide ((((List.length p0) : Nat) : Int) > (200 : Int)))
   (some ((3 : Int), ()))
  (syllable_valid.l4 p0 p1 p0 (((List.length p0) : Nat) : Int) (0 : Int)) := (Einf_call Go.Proofs.C15.ctx 47 _).trans (by kernel_rfl)
theorem sound_Nuclei.f_eq (p0 : (List (Int × (Int × ByteArray)))) : sound_Nuclei.f p0 =
  sound_Nuclei.l3 p0 (((List.length p0) : Nat) : Int) (0 : Int) ([] : (List Int)) := (Einf_call Go.Proofs.C15.ctx 48 _).trans (by kernel_rfl)
theorem syllable_Divide.l10_eq (p0 : (List (Int × (Int × ByteArray)))) (p1 : (List Int)) (p2 : Int) (p3 : Int) (p4 : Int) (p5 : (List Int)) (p6 : (List (Int × (Int × (Int × (Int × Bool)))))) : syllable_Divide.l10 p0 p1 p2 p3 p4 p5 p6 =
  ifB (decide (p4 < p3))
   (bindD ((ixAt p5 p4)) fun t155 =>
   bindD ((ixAt p5 p4)) fun t156 =>
   bindD (syllable_Word.f p1 t156) fun t157 =>
   ifB (decide (p4 < (Go.IntKind.wrap Go.IntKind.i64 ((((List.length p5) : Nat) : Int) - (1 : Int)))))
    (bindD (syllable_between.f p0 p1 p5 p4) fun t158 =>
    bindD (cluster_Coda.f t158.1 t158.2.1) fun t159 =>
    ifB (t159.2.1 != (0 : Int))
     (some (([] : (List (Int × (Int × (Int × (Int × Bool)))))), (t159.2.1, ())))
    (bindD ((ixAt p5 (Go.IntKind.wrap Go.IntKind.i64 (p4 + (1 : Int))))) fun t160 =>
     bindD ((ixAt p5 (Go.IntKind.wrap Go.IntKind.i64 (p4 + (1 : Int))))) fun t161 =>
     bindD (syllable_Word.f p1 t161) fun t162 =>
     bindD ((Go.Proofs.R.grow ((List.length p6) + (List.length ((p2, ((Go.IntKind.wrap Go.IntKind.i64 ((Go.IntKind.wrap Go.IntKind.i64 (t156 + (1 : Int))) + t159.1)), (t156, (t157.1, (t162.1 != t157.1))))) :: ([] : (List (Int × (Int × (Int × (Int × Bool))))))))))) fun t163 =>
     syllable_Divide.l10_1 p0 p1 (Go.IntKind.wrap Go.IntKind.i64 ((Go.IntKind.wrap Go.IntKind.i64 (t156 + (1 : Int))) + t159.1)) p3 (Go.IntKind.wrap Go.IntKind.i64 (p4 + (1 : Int))) p5 (p6 ++ ((p2, ((Go.IntKind.wrap Go.IntKind.i64 ((Go.IntKind.wrap Go.IntKind.i64 (t156 + (1 : Int))) + t159.1)), (t156, (t157.1, (t162.1 != t157.1))))) :: ([] : (List (Int × (Int × (Int × (Int × Bool))))))))))
   (bindD ((Go.Proofs.R.grow ((List.length p6) + (List.length ((p2, ((((List.length p0) : Nat) : Int), (t156, (t157.1, true)))) :: ([] : (List (Int × (Int × (Int × (Int × Bool))))))))))) fun t164 =>
    syllable_Divide.l10 p0 p1 (((List.length p0) : Nat) : Int) p3 (Go.IntKind.wrap Go.IntKind.i64 (p4 + (1 : Int))) p5 (p6 ++ ((p2, ((((List.length p0) : Nat) : Int), (t156, (t157.1, true)))) :: ([] : (List (Int × (Int × (Int × (Int × Bool))))))))))
  (some (p6, ((0 : Int), ()))) := (loopAt_step Go.Proofs.C15.ctx 21 10 _).trans (by kernel_rfl)
theorem ancepsref15_Valid.f_eq (p0 : (List (Int × (Int × ByteArray)))) (p1 : (List Int)) : ancepsref15_Valid.f p0 p1 =
  ifB (decide ((((List.length p0) : Nat) : Int) > (200 : Int)))
   (some ((3 : Int), ()))
  (ancepsref15_Valid.l4 p0 p1 (0 : Int)) := (Einf_call Go.Proofs.C15.ctx 51 _).trans (by kernel_rfl)
theorem ancepsref15_Divide.l10_eq (p0 : (List (Int × (Int × ByteArray)))) (p1 : (List Int)) (p2 : Int) (p3 : Int) (p4 : (List Int)) (p5 : (List (Int × (Int × (Int × (Int × Bool)))))) : ancepsref15_Divide.l10 p0 p1 p2 p3 p4 p5 =
  ifB (decide (p3 < (((List.length p4) : Nat) : Int)))
   (bindD ((ixAt p4 p3)) fun t165 =>
   bindD ((ixAt p4 p3)) fun t166 =>
   bindD ((ixAt p4 p3)) fun t167 =>
   bindD ((ixAt p4 p3)) fun t168 =>
   bindD (ancepsref15_Word.f p1 t168) fun t169 =>
   ifB (decide ((Go.IntKind.wrap Go.IntKind.i64 (p3 + (1 : Int))) < (((List.length p4) : Nat) : Int)))
    (bindD ((ixAt p4 p3)) fun t170 =>
    bindD ((ixAt p4 p3)) fun t171 =>
    bindD ((ixAt p4 (Go.IntKind.wrap Go.IntKind.i64 (p3 + (1 : Int))))) fun t172 =>
    bindD ((ixAt p4 (Go.IntKind.wrap Go.IntKind.i64 (p3 + (1 : Int))))) fun t173 =>
    bindD (ancepsref15_cluster.f p0 p1 t171 t173) fun t174 =>
    bindD (ancepsref14_Coda.f t174.1 t174.2.1) fun t175 =>
    ifB (t175.2.1 != (0 : Int))
     (some (([] : (List (Int × (Int × (Int × (Int × Bool)))))), (t175.2.1, ())))
    (bindD ((ixAt p4 p3)) fun t176 =>
     bindD ((ixAt p4 p3)) fun t177 =>
     bindD ((ixAt p4 (Go.IntKind.wrap Go.IntKind.i64 (p3 + (1 : Int))))) fun t178 =>
     bindD ((ixAt p4 (Go.IntKind.wrap Go.IntKind.i64 (p3 + (1 : Int))))) fun t179 =>
     bindD (ancepsref15_Word.f p1 t179) fun t180 =>
     bindD ((Go.Proofs.R.grow ((List.length p5) + (List.length ((p2, ((Go.IntKind.wrap Go.IntKind.i64 ((Go.IntKind.wrap Go.IntKind.i64 (t177 + (1 : Int))) + t175.1)), (t166, (t169.1, (t180.1 != t169.1))))) :: ([] : (List (Int × (Int × (Int × (Int × Bool))))))))))) fun t181 =>
     ancepsref15_Divide.l10 p0 p1 (Go.IntKind.wrap Go.IntKind.i64 ((Go.IntKind.wrap Go.IntKind.i64 (t177 + (1 : Int))) + t175.1)) (Go.IntKind.wrap Go.IntKind.i64 (p3 + (1 : Int))) p4 (p5 ++ ((p2, ((Go.IntKind.wrap Go.IntKind.i64 ((Go.IntKind.wrap Go.IntKind.i64 (t177 + (1 : Int))) + t175.1)), (t166, (t169.1, (t180.1 != t169.1))))) :: ([] : (List (Int × (Int × (Int × (Int × Bool))))))))))
   (bindD ((Go.Proofs.R.grow ((List.length p5) + (List.length ((p2, ((((List.length p0) : Nat) : Int), (t166, (t169.1, true)))) :: ([] : (List (Int × (Int × (Int × (Int × Bool))))))))))) fun t182 =>
    ancepsref15_Divide.l10 p0 p1 (((List.length p0) : Nat) : Int) (Go.IntKind.wrap Go.IntKind.i64 (p3 + (1 : Int))) p4 (p5 ++ ((p2, ((((List.length p0) : Nat) : Int), (t166, (t169.1, true)))) :: ([] : (List (Int × (Int × (Int × (Int × Bool))))))))))
  (some (p5, ((0 : Int), ()))) := (loopAt_step Go.Proofs.C15.ctx 24 10 _).trans (by kernel_rfl)
theorem ancepsref15_Same.l4_eq (p0 : (List (Int × (Int × (Int × (Int × Bool)))))) (p1 : (List (Int × (Int × (Int × (Int × Bool)))))) (p2 : Int) : ancepsref15_Same.l4 p0 p1 p2 =
  ifB (decide (p2 < (((List.length p0) : Nat) : Int)))
   (bindD ((ixAt p0 p2)) fun t183 =>
   bindD ((ixAt p1 p2)) fun t184 =>
   ifB (!((t183.1 == t184.1) && ((t183.2.1 == t184.2.1) && ((t183.2.2.1 == t184.2.2.1) && ((t183.2.2.2.1 == t184.2.2.2.1) && (t183.2.2.2.2 == t184.2.2.2.2))))))
    (some (false, ()))
   (ancepsref15_Same.l4 p0 p1 (Go.IntKind.wrap Go.IntKind.i64 (p2 + (1 : Int)))))
  (some (true, ())) := (loopAt_step Go.Proofs.C15.ctx 25 4 _).trans (by kernel_rfl)
theorem api_Syllable_54.f_eq (p0 : (List (Int × (Int × (Int × (Int × Bool)))))) (p1 : (List (Int × (Int × (Int × (Int × Bool)))))) : api_Syllable_54.f p0 p1 =
  ifB ((((List.length p0) : Nat) : Int) != (((List.length p1) : Nat) : Int))
   (some (false, ()))
  (api_Syllable_54.l4 p0 p1 (((List.length p0) : Nat) : Int) (0 : Int)) := (Einf_call Go.Proofs.C15.ctx 54 _).trans (by kernel_rfl)
theorem ancepsref11_All.f_eq (p0 : (List Int)) : ancepsref11_All.f p0 =
  ancepsref11_All.l3 p0 (0 : Int) ([] : (List (Int × (Int × ByteArray)))) := (Einf_call Go.Proofs.C15.ctx 46 _).trans (by kernel_rfl)
theorem ancepsref15_Made.l4_eq (p0 : Int) (p1 : (List Int)) (p2 : (List Int)) (p3 : (List (Int × (Int × ByteArray)))) (p4 : (List Int)) : ancepsref15_Made.l4 p0 p1 p2 p3 p4 =
  ifB (decide (p0 ≤ (((List.length p3) : Nat) : Int)))
   (ancepsref15_Made.l7 p0 (0 : Int) p1 p2 p3 p4)
  (some (p3, (p4, ()))) := (loopAt_step Go.Proofs.C15.ctx 20 4 _).trans (by kernel_rfl)
theorem ancepsref11_Nuclei.l3_eq (p0 : (List (Int × (Int × ByteArray)))) (p1 : Int) (p2 : (List Int)) : ancepsref11_Nuclei.l3 p0 p1 p2 =
  ifB (decide (p1 < (((List.length p0) : Nat) : Int)))
   (bindD ((ixAt p0 p1)) fun t185 =>
   bindD (ancepsref11_Nucleus.f t185.1 t185.2.1 t185.2.2) fun t186 =>
   ifB t186.1
    (bindD ((Go.Proofs.R.grow ((List.length p2) + (List.length (p1 :: ([] : (List Int))))))) fun t187 =>
    ancepsref11_Nuclei.l3 p0 (Go.IntKind.wrap Go.IntKind.i64 (p1 + (1 : Int))) (p2 ++ (p1 :: ([] : (List Int)))))
   (ancepsref11_Nuclei.l3 p0 (Go.IntKind.wrap Go.IntKind.i64 (p1 + (1 : Int))) p2))
  (some (p2, ())) := (loopAt_step Go.Proofs.C15.ctx 22 3 _).trans (by kernel_rfl)
theorem ancepslaw15_SyllableCovers.l12_1_eq (p0 : Int) (p1 : Int) (p2 : Int) (p3 : (List (Int × (Int × ByteArray)))) (p4 : (List Int)) (p5 : (List (Int × (Int × (Int × (Int × Bool)))))) : ancepslaw15_SyllableCovers.l12_1 p0 p1 p2 p3 p4 p5 =
  ifB (decide (p2 < p1))
   (bindD ((ixAt p5 p2)) fun t188 =>
   bindD ((ixAt p5 p2)) fun t189 =>
   ifB (t189.1 != p0)
    (some (false, ()))
   (ifB (decide (t189.2.1 ≤ t189.1))
     (some (false, ()))
    (ifB (decide (t189.2.1 > (((List.length p3) : Nat) : Int)))
      (some (false, ()))
     (bindD ((ixAt p4 p2)) fun t190 =>
      bindD ((ixAt p4 p2)) fun t191 =>
      ifB (t189.2.2.1 != t191)
       (some (false, ()))
      (bindD ((subL p3 t189.1 t189.2.1)) fun t192 =>
       bindD (ancepsref11_Nuclei.f t192) fun t193 =>
       ifB ((((List.length t193.1) : Nat) : Int) != (1 : Int))
        (some (false, ()))
       (bindD (syllable_Open.f p3 t189.1 t189.2.1 t189.2.2.1 t189.2.2.2.1 t189.2.2.2.2) fun t194 =>
        ifB (t194.2.1 != (0 : Int))
         (some (false, ()))
        (bindD ((ixAt p3 (Go.IntKind.wrap Go.IntKind.i64 (t189.2.1 - (1 : Int))))) fun t195 =>
         bindD ((ixAt p3 (Go.IntKind.wrap Go.IntKind.i64 (t189.2.1 - (1 : Int))))) fun t196 =>
         bindD (ancepsref11_Nucleus.f t196.1 t196.2.1 t196.2.2) fun t197 =>
         ifB (!(t194.1 == t197.1))
          (some (false, ()))
         (ancepslaw15_SyllableCovers.l12_1 t189.2.1 p1 (Go.IntKind.wrap Go.IntKind.i64 (p2 + (1 : Int))) p3 p4 p5))))))))
  (some ((p0 == (((List.length p3) : Nat) : Int)), ())) := (loopAt_step Go.Proofs.C15.ctx 6 12 _).trans (by kernel_rfl)
theorem syllable_Nuclei.l6_eq (p0 : (List Int)) (p1 : Int) (p2 : Int) (p3 : (List (List Int))) (p4 : (List Int)) : syllable_Nuclei.l6 p0 p1 p2 p3 p4 =
  ifB (decide (p2 < p1))
   (bindD ((ixAt p4 p2)) fun t198 =>
   bindD ((ixAt p4 p2)) fun t199 =>
   bindD (syllable_Word.f p0 t199) fun t200 =>
   bindD ((ixAt p3 t200.1)) fun t201 =>
   bindD ((ixAt p3 t200.1)) fun t202 =>
   bindD ((ixAt p3 t200.1)) fun t203 =>
   bindD ((Go.Proofs.R.grow ((List.length t203) + (List.length (t199 :: ([] : (List Int))))))) fun t204 =>
   bindD ((ixAt p3 t200.1)) fun t205 =>
   ifB (decide (t200.1 = t200.1))
    (syllable_Nuclei.l6 p0 p1 (Go.IntKind.wrap Go.IntKind.i64 (p2 + (1 : Int))) (setRow p3 t200.1 (t203 ++ (t199 :: ([] : (List Int))))) p4)
   (none))
  (some (p3, ((0 : Int), ()))) := (loopAt_step Go.Proofs.C15.ctx 29 6 _).trans (by kernel_rfl)
theorem ancepsref15_Nuclei.l7_eq (p0 : (List Int)) (p1 : Int) (p2 : (List (List Int))) (p3 : (List Int)) : ancepsref15_Nuclei.l7 p0 p1 p2 p3 =
  ifB (decide (p1 < (((List.length p3) : Nat) : Int)))
   (bindD ((ixAt p3 p1)) fun t206 =>
   bindD ((ixAt p3 p1)) fun t207 =>
   bindD (ancepsref15_Word.f p0 t207) fun t208 =>
   bindD ((ixAt p2 t208.1)) fun t209 =>
   bindD ((ixAt p2 t208.1)) fun t210 =>
   bindD ((ixAt p3 p1)) fun t211 =>
   bindD ((ixAt p3 p1)) fun t212 =>
   bindD ((ixAt p2 t208.1)) fun t213 =>
   bindD ((Go.Proofs.R.grow ((List.length t213) + (List.length (t212 :: ([] : (List Int))))))) fun t214 =>
   bindD ((ixAt p2 t208.1)) fun t215 =>
   ifB (decide (t208.1 = t208.1))
    (ancepsref15_Nuclei.l7 p0 (Go.IntKind.wrap Go.IntKind.i64 (p1 + (1 : Int))) (setRow p2 t208.1 (t213 ++ (t212 :: ([] : (List Int))))) p3)
   (none))
  (some (p2, ((0 : Int), ()))) := (loopAt_step Go.Proofs.C15.ctx 32 7 _).trans (by kernel_rfl)
theorem syllable_between.f_eq (p0 : (List (Int × (Int × ByteArray)))) (p1 : (List Int)) (p2 : (List Int)) (p3 : Int) : syllable_between.f p0 p1 p2 p3 =
  bindD ((ixAt p2 p3)) fun t216 =>
  ifB (!(p3 == (Go.IntKind.wrap Go.IntKind.i64 ((((List.length p2) : Nat) : Int) - (1 : Int)))))
   (bindD ((ixAt p2 (Go.IntKind.wrap Go.IntKind.i64 (p3 + (1 : Int))))) fun t217 =>
   bindD ((subL p0 (Go.IntKind.wrap Go.IntKind.i64 (t216 + (1 : Int))) t217)) fun t218 =>
   bindD (api_Sound.f t218) fun t219 =>
   syllable_between.l6 t216 t217 p1 (((List.length p1) : Nat) : Int) (0 : Int) ([] : (List (Int × (Int × ByteArray)))) ([] : (List Int)) t219.1 ([] : (List Int)))
  (bindD ((subL p0 (Go.IntKind.wrap Go.IntKind.i64 (t216 + (1 : Int))) (((List.length p0) : Nat) : Int))) fun t220 =>
   bindD (api_Sound.f t220) fun t221 =>
   syllable_between.l6 t216 (((List.length p0) : Nat) : Int) p1 (((List.length p1) : Nat) : Int) (0 : Int) ([] : (List (Int × (Int × ByteArray)))) ([] : (List Int)) t221.1 ([] : (List Int))) := (Einf_call Go.Proofs.C15.ctx 50 _).trans (by kernel_rfl)
theorem cluster_Valid.f_eq (p0 : (List (Int × (Int × ByteArray)))) (p1 : (List Int)) : cluster_Valid.f p0 p1 =
  ifB (decide ((((List.length p0) : Nat) : Int) > (12 : Int)))
   (some ((3 : Int), ()))
  (ifB (decide ((((List.length p1) : Nat) : Int) > (12 : Int)))
    (some ((3 : Int), ()))
   (cluster_Valid.l4 p0 (((List.length p0) : Nat) : Int) (0 : Int) p0 p1)) := (Einf_call Go.Proofs.C15.ctx 55 _).trans (by kernel_rfl)
theorem ancepsref15_cluster.f_eq (p0 : (List (Int × (Int × ByteArray)))) (p1 : (List Int)) (p2 : Int) (p3 : Int) : ancepsref15_cluster.f p0 p1 p2 p3 =
  ancepsref15_cluster.l3 p0 p1 p2 p3 (Go.IntKind.wrap Go.IntKind.i64 (p2 + (1 : Int))) ([] : (List (Int × (Int × ByteArray)))) ([] : (List Int)) ([] : (List (Int × (Int × ByteArray)))) ([] : (List Int)) := (Einf_call Go.Proofs.C15.ctx 53 _).trans (by kernel_rfl)
theorem ancepsref14_Valid.f_eq (p0 : (List (Int × (Int × ByteArray)))) (p1 : (List Int)) : ancepsref14_Valid.f p0 p1 =
  ifB (decide ((((List.length p0) : Nat) : Int) > (12 : Int)))
   (some ((3 : Int), ()))
  (ifB (decide ((((List.length p1) : Nat) : Int) > (12 : Int)))
    (some ((3 : Int), ()))
   (ancepsref14_Valid.l4 (0 : Int) p0 p1)) := (Einf_call Go.Proofs.C15.ctx 56 _).trans (by kernel_rfl)
theorem slices_EqualFunc_int_int_int_int.l4_eq (p0 : (List (List Int))) (p1 : (List (List Int))) (p2 : Int) (p3 : Int) : slices_EqualFunc_int_int_int_int.l4 p0 p1 p2 p3 =
  ifB (decide (p3 < p2))
   (bindD ((ixAt p1 p3)) fun t222 =>
   bindD ((ixAt p0 p3)) fun t223 =>
   bindD (slices_Equal_int_int.f t222 t223) fun t224 =>
   ifB (!t224.1)
    (some (false, ()))
   (slices_EqualFunc_int_int_int_int.l4 p0 p1 p2 (Go.IntKind.wrap Go.IntKind.i64 (p3 + (1 : Int)))))
  (some (true, ())) := (loopAt_step Go.Proofs.C15.ctx 30 4 _).trans (by kernel_rfl)
theorem ancepsref14_Compare.f_eq (p0 : (List (Int × (Int × ByteArray)))) (p1 : (List Int)) (p2 : (List (Int × (Int × ByteArray)))) (p3 : (List Int)) : ancepsref14_Compare.f p0 p1 p2 p3 =
  ancepsref14_Compare.l2 (0 : Int) p0 p1 p2 p3 := (Einf_call Go.Proofs.C15.ctx 57 _).trans (by kernel_rfl)
theorem ancepslaw15_SyllableEnds.l19_eq (p0 : Int) (p1 : Int) (p2 : Int) (p3 : Int) (p4 : (List (Int × (Int × (Int × (Int × Bool)))))) (p5 : (List (List Int))) (p6 : (List (List Int))) : ancepslaw15_SyllableEnds.l19 p0 p1 p2 p3 p4 p5 p6 =
  ifB (decide (p3 < p2))
   (bindD ((ixAt p4 p3)) fun t225 =>
   bindD ((ixAt p4 p3)) fun t226 =>
   ifB (decide (t226.2.2.2.1 < (0 : Int)))
    (some (false, ()))
   (ifB (decide (t226.2.2.2.1 ≥ (((List.length p5) : Nat) : Int)))
     (some (false, ()))
    (ifB (decide (p3 > (0 : Int)))
      (bindD ((ixAt p4 (Go.IntKind.wrap Go.IntKind.i64 (p3 - (1 : Int))))) fun t227 =>
      bindD ((ixAt p4 (Go.IntKind.wrap Go.IntKind.i64 (p3 - (1 : Int))))) fun t228 =>
      ifB (decide (t226.2.2.2.1 < t228.2.2.2.1))
       (some (false, ()))
      (ifB (decide (p3 > (0 : Int)))
        (bindD ((ixAt p4 (Go.IntKind.wrap Go.IntKind.i64 (p3 - (1 : Int))))) fun t229 =>
        bindD ((ixAt p4 (Go.IntKind.wrap Go.IntKind.i64 (p3 - (1 : Int))))) fun t230 =>
        bindD ((ixAt p4 (Go.IntKind.wrap Go.IntKind.i64 (p3 - (1 : Int))))) fun t231 =>
        bindD ((ixAt p4 (Go.IntKind.wrap Go.IntKind.i64 (p3 - (1 : Int))))) fun t232 =>
        ifB (!(t230.2.2.2.2 == (t226.2.2.2.1 != t232.2.2.2.1)))
         (some (false, ()))
        (bindD ((ixAt p6 t226.2.2.2.1)) fun t233 =>
         bindD ((ixAt p6 t226.2.2.2.1)) fun t234 =>
         bindD ((ixAt p6 t226.2.2.2.1)) fun t235 =>
         bindD ((Go.Proofs.R.grow ((List.length t235) + (List.length (t226.2.2.1 :: ([] : (List Int))))))) fun t236 =>
         bindD ((ixAt p6 t226.2.2.2.1)) fun t237 =>
         ifB (decide (t226.2.2.2.1 = t226.2.2.2.1))
          (ifB t226.2.2.2.2
           (ancepslaw15_SyllableEnds.l19 p0 (Go.IntKind.wrap Go.IntKind.i64 (p1 + (1 : Int))) p2 (Go.IntKind.wrap Go.IntKind.i64 (p3 + (1 : Int))) p4 p5 (setRow p6 t226.2.2.2.1 (t235 ++ (t226.2.2.1 :: ([] : (List Int))))))
          (ancepslaw15_SyllableEnds.l19 p0 p1 p2 (Go.IntKind.wrap Go.IntKind.i64 (p3 + (1 : Int))) p4 p5 (setRow p6 t226.2.2.2.1 (t235 ++ (t226.2.2.1 :: ([] : (List Int)))))))
         (none)))
       (bindD ((ixAt p6 t226.2.2.2.1)) fun t238 =>
        bindD ((ixAt p6 t226.2.2.2.1)) fun t239 =>
        bindD ((ixAt p6 t226.2.2.2.1)) fun t240 =>
        bindD ((Go.Proofs.R.grow ((List.length t240) + (List.length (t226.2.2.1 :: ([] : (List Int))))))) fun t241 =>
        bindD ((ixAt p6 t226.2.2.2.1)) fun t242 =>
        ifB (decide (t226.2.2.2.1 = t226.2.2.2.1))
         (ifB t226.2.2.2.2
          (ancepslaw15_SyllableEnds.l19 p0 (Go.IntKind.wrap Go.IntKind.i64 (p1 + (1 : Int))) p2 (Go.IntKind.wrap Go.IntKind.i64 (p3 + (1 : Int))) p4 p5 (setRow p6 t226.2.2.2.1 (t240 ++ (t226.2.2.1 :: ([] : (List Int))))))
         (ancepslaw15_SyllableEnds.l19 p0 p1 p2 (Go.IntKind.wrap Go.IntKind.i64 (p3 + (1 : Int))) p4 p5 (setRow p6 t226.2.2.2.1 (t240 ++ (t226.2.2.1 :: ([] : (List Int)))))))
        (none))))
     (ifB (decide (p3 > (0 : Int)))
       (bindD ((ixAt p4 (Go.IntKind.wrap Go.IntKind.i64 (p3 - (1 : Int))))) fun t243 =>
       bindD ((ixAt p4 (Go.IntKind.wrap Go.IntKind.i64 (p3 - (1 : Int))))) fun t244 =>
       bindD ((ixAt p4 (Go.IntKind.wrap Go.IntKind.i64 (p3 - (1 : Int))))) fun t245 =>
       bindD ((ixAt p4 (Go.IntKind.wrap Go.IntKind.i64 (p3 - (1 : Int))))) fun t246 =>
       ifB (!(t244.2.2.2.2 == (t226.2.2.2.1 != t246.2.2.2.1)))
        (some (false, ()))
       (bindD ((ixAt p6 t226.2.2.2.1)) fun t247 =>
        bindD ((ixAt p6 t226.2.2.2.1)) fun t248 =>
        bindD ((ixAt p6 t226.2.2.2.1)) fun t249 =>
        bindD ((Go.Proofs.R.grow ((List.length t249) + (List.length (t226.2.2.1 :: ([] : (List Int))))))) fun t250 =>
        bindD ((ixAt p6 t226.2.2.2.1)) fun t251 =>
        ifB (decide (t226.2.2.2.1 = t226.2.2.2.1))
         (ifB t226.2.2.2.2
          (ancepslaw15_SyllableEnds.l19 p0 (Go.IntKind.wrap Go.IntKind.i64 (p1 + (1 : Int))) p2 (Go.IntKind.wrap Go.IntKind.i64 (p3 + (1 : Int))) p4 p5 (setRow p6 t226.2.2.2.1 (t249 ++ (t226.2.2.1 :: ([] : (List Int))))))
         (ancepslaw15_SyllableEnds.l19 p0 p1 p2 (Go.IntKind.wrap Go.IntKind.i64 (p3 + (1 : Int))) p4 p5 (setRow p6 t226.2.2.2.1 (t249 ++ (t226.2.2.1 :: ([] : (List Int)))))))
        (none)))
      (bindD ((ixAt p6 t226.2.2.2.1)) fun t252 =>
       bindD ((ixAt p6 t226.2.2.2.1)) fun t253 =>
       bindD ((ixAt p6 t226.2.2.2.1)) fun t254 =>
       bindD ((Go.Proofs.R.grow ((List.length t254) + (List.length (t226.2.2.1 :: ([] : (List Int))))))) fun t255 =>
       bindD ((ixAt p6 t226.2.2.2.1)) fun t256 =>
       ifB (decide (t226.2.2.2.1 = t226.2.2.2.1))
        (ifB t226.2.2.2.2
         (ancepslaw15_SyllableEnds.l19 p0 (Go.IntKind.wrap Go.IntKind.i64 (p1 + (1 : Int))) p2 (Go.IntKind.wrap Go.IntKind.i64 (p3 + (1 : Int))) p4 p5 (setRow p6 t226.2.2.2.1 (t254 ++ (t226.2.2.1 :: ([] : (List Int))))))
        (ancepslaw15_SyllableEnds.l19 p0 p1 p2 (Go.IntKind.wrap Go.IntKind.i64 (p3 + (1 : Int))) p4 p5 (setRow p6 t226.2.2.2.1 (t254 ++ (t226.2.2.1 :: ([] : (List Int)))))))
       (none))))))
  (ifB (p1 == p0)
    (ifB ((((List.length p4) : Nat) : Int) == (0 : Int))
     (bindD (slices_EqualFunc_int_int_int_int.f p6 p5) fun t257 =>
     some (t257.1, ()))
    (bindD ((ixAt p4 (Go.IntKind.wrap Go.IntKind.i64 ((((List.length p4) : Nat) : Int) - (1 : Int))))) fun t258 =>
     bindD ((ixAt p4 (Go.IntKind.wrap Go.IntKind.i64 ((((List.length p4) : Nat) : Int) - (1 : Int))))) fun t259 =>
     ifB t259.2.2.2.2
      (bindD (slices_EqualFunc_int_int_int_int.f p6 p5) fun t260 =>
      some (t260.1, ()))
     (some (false, ()))))
   (some (false, ()))) := (loopAt_step Go.Proofs.C15.ctx 8 19 _).trans (by kernel_rfl)
theorem ancepsref11_split.f_eq (p0 : ByteArray) : ancepsref11_split.f p0 =
  ancepsref11_split.l3 p0 (0 : Int) ((ByteArray.mk (List.toArray ([] : (List UInt8)))) :: ([] : (List ByteArray))) := (Einf_call Go.Proofs.C15.ctx 58 _).trans (by kernel_rfl)
theorem ancepsref11_Parse.l8_eq (p0 : Int) (p1 : (List (Int × (Int × ByteArray)))) (p2 : (List ByteArray)) : ancepsref11_Parse.l8 p0 p1 p2 =
  ifB (decide (p0 < (((List.length p2) : Nat) : Int)))
   (bindD ((ixAt p2 p0)) fun t261 =>
   bindD ((ixAt p2 p0)) fun t262 =>
   bindD (ancepsref11_one.f t262) fun t263 =>
   ifB (!t263.2.2.2.1)
    (some (([] : (List (Int × (Int × ByteArray)))), ((2 : Int), ())))
   (bindD ((Go.Proofs.R.grow ((List.length p1) + (List.length ((t263.1, (t263.2.1, t263.2.2.1)) :: ([] : (List (Int × (Int × ByteArray))))))))) fun t264 =>
    ancepsref11_Parse.l8 (Go.IntKind.wrap Go.IntKind.i64 (p0 + (1 : Int))) (p1 ++ ((t263.1, (t263.2.1, t263.2.2.1)) :: ([] : (List (Int × (Int × ByteArray)))))) p2))
  (ifB (decide ((((List.length p1) : Nat) : Int) > (200 : Int)))
    (some (([] : (List (Int × (Int × ByteArray)))), ((2 : Int), ())))
   (some (p1, ((0 : Int), ())))) := (loopAt_step Go.Proofs.C15.ctx 36 8 _).trans (by kernel_rfl)
theorem ancepsref11_Few.l4_eq (p0 : (List (Int × (Int × ByteArray)))) (p1 : Int) : ancepsref11_Few.l4 p0 p1 =
  ifB (decide (p1 < (((List.length p0) : Nat) : Int)))
   (bindD ((ixAt p0 p1)) fun t265 =>
   ifB (decide ((((ByteArray.size t265.2.2) : Nat) : Int) > (40 : Int)))
    (some (false, ()))
   (ancepsref11_Few.l4 p0 (Go.IntKind.wrap Go.IntKind.i64 (p1 + (1 : Int)))))
  (some (true, ())) := (loopAt_step Go.Proofs.C15.ctx 37 4 _).trans (by kernel_rfl)
theorem api_Syllable_38.f_eq (p0 : (List (Int × (Int × (Int × (Int × Bool)))))) (p1 : Int) : api_Syllable_38.f p0 p1 =
  bindD (api_Syllable_60.f p0 p1) fun t266 =>
  some ((decide (t266.1 ≥ (0 : Int))), ()) := (Einf_call Go.Proofs.C15.ctx 38 _).trans (by kernel_rfl)
theorem slices_Contains_int_int.f_eq (p0 : (List Int)) (p1 : Int) : slices_Contains_int_int.f p0 p1 =
  bindD (slices_Index_int_int.f p0 p1) fun t267 =>
  some ((decide (t267.1 ≥ (0 : Int))), ()) := (Einf_call Go.Proofs.C15.ctx 40 _).trans (by kernel_rfl)
theorem syllable_Text.l6_1_eq (p0 : (List Int)) (p1 : (List (Int × (Int × ByteArray)))) (p2 : Int) (p3 : Int) (p4 : (List (Int × (Int × (Int × (Int × Bool)))))) (p5 : (List Int)) : syllable_Text.l6_1 p0 p1 p2 p3 p4 p5 =
  ifB (decide (p3 < p2))
   (bindD ((ixAt p1 p3)) fun t268 =>
   ifB (decide (p3 > (0 : Int)))
    (bindD (api_Syllable_38.f p4 p3) fun t269 =>
    bindD (slices_Contains_int_int.f p0 p3) fun t270 =>
    ifB t269.1
     (ifB t270.1
      (bindD ((Go.Proofs.R.grow ((List.length p5) + (List.length ((32 : Int) :: ([] : (List Int))))))) fun t271 =>
      bindD ((Go.Proofs.R.grow ((List.length (p5 ++ ((32 : Int) :: ([] : (List Int))))) + (List.length (Go.Proofs.R.ints t268.2.2))))) fun t272 =>
      syllable_Text.l6_1 p0 p1 p2 (Go.IntKind.wrap Go.IntKind.i64 (p3 + (1 : Int))) p4 ((p5 ++ ((32 : Int) :: ([] : (List Int)))) ++ (Go.Proofs.R.ints t268.2.2)))
     (ifB t269.1
       (bindD ((Go.Proofs.R.grow ((List.length p5) + (List.length ((46 : Int) :: ([] : (List Int))))))) fun t273 =>
       bindD ((Go.Proofs.R.grow ((List.length (p5 ++ ((46 : Int) :: ([] : (List Int))))) + (List.length (Go.Proofs.R.ints t268.2.2))))) fun t274 =>
       syllable_Text.l6_1 p0 p1 p2 (Go.IntKind.wrap Go.IntKind.i64 (p3 + (1 : Int))) p4 ((p5 ++ ((46 : Int) :: ([] : (List Int)))) ++ (Go.Proofs.R.ints t268.2.2)))
      (ifB t270.1
        (bindD ((Go.Proofs.R.grow ((List.length p5) + (List.length ((95 : Int) :: ([] : (List Int))))))) fun t275 =>
        bindD ((Go.Proofs.R.grow ((List.length (p5 ++ ((95 : Int) :: ([] : (List Int))))) + (List.length (Go.Proofs.R.ints t268.2.2))))) fun t276 =>
        syllable_Text.l6_1 p0 p1 p2 (Go.IntKind.wrap Go.IntKind.i64 (p3 + (1 : Int))) p4 ((p5 ++ ((95 : Int) :: ([] : (List Int)))) ++ (Go.Proofs.R.ints t268.2.2)))
       (bindD ((Go.Proofs.R.grow ((List.length p5) + (List.length (Go.Proofs.R.ints t268.2.2))))) fun t277 =>
        syllable_Text.l6_1 p0 p1 p2 (Go.IntKind.wrap Go.IntKind.i64 (p3 + (1 : Int))) p4 (p5 ++ (Go.Proofs.R.ints t268.2.2))))))
    (ifB t269.1
      (bindD ((Go.Proofs.R.grow ((List.length p5) + (List.length ((46 : Int) :: ([] : (List Int))))))) fun t278 =>
      bindD ((Go.Proofs.R.grow ((List.length (p5 ++ ((46 : Int) :: ([] : (List Int))))) + (List.length (Go.Proofs.R.ints t268.2.2))))) fun t279 =>
      syllable_Text.l6_1 p0 p1 p2 (Go.IntKind.wrap Go.IntKind.i64 (p3 + (1 : Int))) p4 ((p5 ++ ((46 : Int) :: ([] : (List Int)))) ++ (Go.Proofs.R.ints t268.2.2)))
     (ifB t270.1
       (bindD ((Go.Proofs.R.grow ((List.length p5) + (List.length ((95 : Int) :: ([] : (List Int))))))) fun t280 =>
       bindD ((Go.Proofs.R.grow ((List.length (p5 ++ ((95 : Int) :: ([] : (List Int))))) + (List.length (Go.Proofs.R.ints t268.2.2))))) fun t281 =>
       syllable_Text.l6_1 p0 p1 p2 (Go.IntKind.wrap Go.IntKind.i64 (p3 + (1 : Int))) p4 ((p5 ++ ((95 : Int) :: ([] : (List Int)))) ++ (Go.Proofs.R.ints t268.2.2)))
      (bindD ((Go.Proofs.R.grow ((List.length p5) + (List.length (Go.Proofs.R.ints t268.2.2))))) fun t282 =>
       syllable_Text.l6_1 p0 p1 p2 (Go.IntKind.wrap Go.IntKind.i64 (p3 + (1 : Int))) p4 (p5 ++ (Go.Proofs.R.ints t268.2.2))))))
   (bindD ((Go.Proofs.R.grow ((List.length p5) + (List.length (Go.Proofs.R.ints t268.2.2))))) fun t283 =>
    syllable_Text.l6_1 p0 p1 p2 (Go.IntKind.wrap Go.IntKind.i64 (p3 + (1 : Int))) p4 (p5 ++ (Go.Proofs.R.ints t268.2.2))))
  (bindD ((Go.Proofs.R.bytesOf p5)) fun t284 =>
   some (t284, ((0 : Int), ()))) := (loopAt_step Go.Proofs.C15.ctx 12 6 _).trans (by kernel_rfl)
theorem ancepsref15_Text.l11_eq (p0 : (List (Int × (Int × ByteArray)))) (p1 : (List Int)) (p2 : ByteArray) (p3 : Int) (p4 : (List Int)) : ancepsref15_Text.l11 p0 p1 p2 p3 p4 =
  ifB (decide (p3 < (((List.length p0) : Nat) : Int)))
   (bindD (ancepsref15_in.f p4 p3) fun t285 =>
   bindD (ancepsref15_in.f p1 p3) fun t286 =>
   ifB (decide (p3 > (0 : Int)))
    (ifB t285.1
     (ifB t286.1
      (bindD ((Go.Proofs.R.grow ((ByteArray.size p2) + (ByteArray.size (ByteArray.mk (List.toArray ((32 : UInt8) :: ([] : (List UInt8))))))))) fun t287 =>
      ifB (decide (p3 > (0 : Int)))
       (ifB t285.1
        (ifB (!t286.1)
         (bindD ((Go.Proofs.R.grow ((ByteArray.size (p2 ++ (ByteArray.mk (List.toArray ((32 : UInt8) :: ([] : (List UInt8))))))) + (ByteArray.size (ByteArray.mk (List.toArray ((46 : UInt8) :: ([] : (List UInt8))))))))) fun t288 =>
         ifB (decide (p3 > (0 : Int)))
          (ifB (!t285.1)
           (ifB t286.1
            (bindD ((Go.Proofs.R.grow ((ByteArray.size ((p2 ++ (ByteArray.mk (List.toArray ((32 : UInt8) :: ([] : (List UInt8)))))) ++ (ByteArray.mk (List.toArray ((46 : UInt8) :: ([] : (List UInt8))))))) + (ByteArray.size (ByteArray.mk (List.toArray ((95 : UInt8) :: ([] : (List UInt8))))))))) fun t289 =>
            bindD ((ixAt p0 p3)) fun t290 =>
            bindD ((Go.Proofs.R.grow ((ByteArray.size (((p2 ++ (ByteArray.mk (List.toArray ((32 : UInt8) :: ([] : (List UInt8)))))) ++ (ByteArray.mk (List.toArray ((46 : UInt8) :: ([] : (List UInt8)))))) ++ (ByteArray.mk (List.toArray ((95 : UInt8) :: ([] : (List UInt8))))))) + (ByteArray.size t290.2.2)))) fun t291 =>
            ancepsref15_Text.l11 p0 p1 ((((p2 ++ (ByteArray.mk (List.toArray ((32 : UInt8) :: ([] : (List UInt8)))))) ++ (ByteArray.mk (List.toArray ((46 : UInt8) :: ([] : (List UInt8)))))) ++ (ByteArray.mk (List.toArray ((95 : UInt8) :: ([] : (List UInt8)))))) ++ t290.2.2) (Go.IntKind.wrap Go.IntKind.i64 (p3 + (1 : Int))) p4)
           (bindD ((ixAt p0 p3)) fun t292 =>
            bindD ((Go.Proofs.R.grow ((ByteArray.size ((p2 ++ (ByteArray.mk (List.toArray ((32 : UInt8) :: ([] : (List UInt8)))))) ++ (ByteArray.mk (List.toArray ((46 : UInt8) :: ([] : (List UInt8))))))) + (ByteArray.size t292.2.2)))) fun t293 =>
            ancepsref15_Text.l11 p0 p1 (((p2 ++ (ByteArray.mk (List.toArray ((32 : UInt8) :: ([] : (List UInt8)))))) ++ (ByteArray.mk (List.toArray ((46 : UInt8) :: ([] : (List UInt8)))))) ++ t292.2.2) (Go.IntKind.wrap Go.IntKind.i64 (p3 + (1 : Int))) p4))
          (bindD ((ixAt p0 p3)) fun t294 =>
           bindD ((Go.Proofs.R.grow ((ByteArray.size ((p2 ++ (ByteArray.mk (List.toArray ((32 : UInt8) :: ([] : (List UInt8)))))) ++ (ByteArray.mk (List.toArray ((46 : UInt8) :: ([] : (List UInt8))))))) + (ByteArray.size t294.2.2)))) fun t295 =>
           ancepsref15_Text.l11 p0 p1 (((p2 ++ (ByteArray.mk (List.toArray ((32 : UInt8) :: ([] : (List UInt8)))))) ++ (ByteArray.mk (List.toArray ((46 : UInt8) :: ([] : (List UInt8)))))) ++ t294.2.2) (Go.IntKind.wrap Go.IntKind.i64 (p3 + (1 : Int))) p4))
         (bindD ((ixAt p0 p3)) fun t296 =>
          bindD ((Go.Proofs.R.grow ((ByteArray.size ((p2 ++ (ByteArray.mk (List.toArray ((32 : UInt8) :: ([] : (List UInt8)))))) ++ (ByteArray.mk (List.toArray ((46 : UInt8) :: ([] : (List UInt8))))))) + (ByteArray.size t296.2.2)))) fun t297 =>
          ancepsref15_Text.l11 p0 p1 (((p2 ++ (ByteArray.mk (List.toArray ((32 : UInt8) :: ([] : (List UInt8)))))) ++ (ByteArray.mk (List.toArray ((46 : UInt8) :: ([] : (List UInt8)))))) ++ t296.2.2) (Go.IntKind.wrap Go.IntKind.i64 (p3 + (1 : Int))) p4))
        (ifB (decide (p3 > (0 : Int)))
          (ifB (!t285.1)
           (ifB t286.1
            (bindD ((Go.Proofs.R.grow ((ByteArray.size (p2 ++ (ByteArray.mk (List.toArray ((32 : UInt8) :: ([] : (List UInt8))))))) + (ByteArray.size (ByteArray.mk (List.toArray ((95 : UInt8) :: ([] : (List UInt8))))))))) fun t298 =>
            bindD ((ixAt p0 p3)) fun t299 =>
            bindD ((Go.Proofs.R.grow ((ByteArray.size ((p2 ++ (ByteArray.mk (List.toArray ((32 : UInt8) :: ([] : (List UInt8)))))) ++ (ByteArray.mk (List.toArray ((95 : UInt8) :: ([] : (List UInt8))))))) + (ByteArray.size t299.2.2)))) fun t300 =>
            ancepsref15_Text.l11 p0 p1 (((p2 ++ (ByteArray.mk (List.toArray ((32 : UInt8) :: ([] : (List UInt8)))))) ++ (ByteArray.mk (List.toArray ((95 : UInt8) :: ([] : (List UInt8)))))) ++ t299.2.2) (Go.IntKind.wrap Go.IntKind.i64 (p3 + (1 : Int))) p4)
           (bindD ((ixAt p0 p3)) fun t301 =>
            bindD ((Go.Proofs.R.grow ((ByteArray.size (p2 ++ (ByteArray.mk (List.toArray ((32 : UInt8) :: ([] : (List UInt8))))))) + (ByteArray.size t301.2.2)))) fun t302 =>
            ancepsref15_Text.l11 p0 p1 ((p2 ++ (ByteArray.mk (List.toArray ((32 : UInt8) :: ([] : (List UInt8)))))) ++ t301.2.2) (Go.IntKind.wrap Go.IntKind.i64 (p3 + (1 : Int))) p4))
          (bindD ((ixAt p0 p3)) fun t303 =>
           bindD ((Go.Proofs.R.grow ((ByteArray.size (p2 ++ (ByteArray.mk (List.toArray ((32 : UInt8) :: ([] : (List UInt8))))))) + (ByteArray.size t303.2.2)))) fun t304 =>
           ancepsref15_Text.l11 p0 p1 ((p2 ++ (ByteArray.mk (List.toArray ((32 : UInt8) :: ([] : (List UInt8)))))) ++ t303.2.2) (Go.IntKind.wrap Go.IntKind.i64 (p3 + (1 : Int))) p4))
         (bindD ((ixAt p0 p3)) fun t305 =>
          bindD ((Go.Proofs.R.grow ((ByteArray.size (p2 ++ (ByteArray.mk (List.toArray ((32 : UInt8) :: ([] : (List UInt8))))))) + (ByteArray.size t305.2.2)))) fun t306 =>
          ancepsref15_Text.l11 p0 p1 ((p2 ++ (ByteArray.mk (List.toArray ((32 : UInt8) :: ([] : (List UInt8)))))) ++ t305.2.2) (Go.IntKind.wrap Go.IntKind.i64 (p3 + (1 : Int))) p4)))
       (ifB (decide (p3 > (0 : Int)))
         (ifB (!t285.1)
          (ifB t286.1
           (bindD ((Go.Proofs.R.grow ((ByteArray.size (p2 ++ (ByteArray.mk (List.toArray ((32 : UInt8) :: ([] : (List UInt8))))))) + (ByteArray.size (ByteArray.mk (List.toArray ((95 : UInt8) :: ([] : (List UInt8))))))))) fun t307 =>
           bindD ((ixAt p0 p3)) fun t308 =>
           bindD ((Go.Proofs.R.grow ((ByteArray.size ((p2 ++ (ByteArray.mk (List.toArray ((32 : UInt8) :: ([] : (List UInt8)))))) ++ (ByteArray.mk (List.toArray ((95 : UInt8) :: ([] : (List UInt8))))))) + (ByteArray.size t308.2.2)))) fun t309 =>
           ancepsref15_Text.l11 p0 p1 (((p2 ++ (ByteArray.mk (List.toArray ((32 : UInt8) :: ([] : (List UInt8)))))) ++ (ByteArray.mk (List.toArray ((95 : UInt8) :: ([] : (List UInt8)))))) ++ t308.2.2) (Go.IntKind.wrap Go.IntKind.i64 (p3 + (1 : Int))) p4)
          (bindD ((ixAt p0 p3)) fun t310 =>
           bindD ((Go.Proofs.R.grow ((ByteArray.size (p2 ++ (ByteArray.mk (List.toArray ((32 : UInt8) :: ([] : (List UInt8))))))) + (ByteArray.size t310.2.2)))) fun t311 =>
           ancepsref15_Text.l11 p0 p1 ((p2 ++ (ByteArray.mk (List.toArray ((32 : UInt8) :: ([] : (List UInt8)))))) ++ t310.2.2) (Go.IntKind.wrap Go.IntKind.i64 (p3 + (1 : Int))) p4))
         (bindD ((ixAt p0 p3)) fun t312 =>
          bindD ((Go.Proofs.R.grow ((ByteArray.size (p2 ++ (ByteArray.mk (List.toArray ((32 : UInt8) :: ([] : (List UInt8))))))) + (ByteArray.size t312.2.2)))) fun t313 =>
          ancepsref15_Text.l11 p0 p1 ((p2 ++ (ByteArray.mk (List.toArray ((32 : UInt8) :: ([] : (List UInt8)))))) ++ t312.2.2) (Go.IntKind.wrap Go.IntKind.i64 (p3 + (1 : Int))) p4))
        (bindD ((ixAt p0 p3)) fun t314 =>
         bindD ((Go.Proofs.R.grow ((ByteArray.size (p2 ++ (ByteArray.mk (List.toArray ((32 : UInt8) :: ([] : (List UInt8))))))) + (ByteArray.size t314.2.2)))) fun t315 =>
         ancepsref15_Text.l11 p0 p1 ((p2 ++ (ByteArray.mk (List.toArray ((32 : UInt8) :: ([] : (List UInt8)))))) ++ t314.2.2) (Go.IntKind.wrap Go.IntKind.i64 (p3 + (1 : Int))) p4)))
      (ifB (decide (p3 > (0 : Int)))
        (ifB (!t285.1)
         (ifB t286.1
          (bindD ((Go.Proofs.R.grow ((ByteArray.size (p2 ++ (ByteArray.mk (List.toArray ((32 : UInt8) :: ([] : (List UInt8))))))) + (ByteArray.size (ByteArray.mk (List.toArray ((95 : UInt8) :: ([] : (List UInt8))))))))) fun t316 =>
          bindD ((ixAt p0 p3)) fun t317 =>
          bindD ((Go.Proofs.R.grow ((ByteArray.size ((p2 ++ (ByteArray.mk (List.toArray ((32 : UInt8) :: ([] : (List UInt8)))))) ++ (ByteArray.mk (List.toArray ((95 : UInt8) :: ([] : (List UInt8))))))) + (ByteArray.size t317.2.2)))) fun t318 =>
          ancepsref15_Text.l11 p0 p1 (((p2 ++ (ByteArray.mk (List.toArray ((32 : UInt8) :: ([] : (List UInt8)))))) ++ (ByteArray.mk (List.toArray ((95 : UInt8) :: ([] : (List UInt8)))))) ++ t317.2.2) (Go.IntKind.wrap Go.IntKind.i64 (p3 + (1 : Int))) p4)
         (bindD ((ixAt p0 p3)) fun t319 =>
          bindD ((Go.Proofs.R.grow ((ByteArray.size (p2 ++ (ByteArray.mk (List.toArray ((32 : UInt8) :: ([] : (List UInt8))))))) + (ByteArray.size t319.2.2)))) fun t320 =>
          ancepsref15_Text.l11 p0 p1 ((p2 ++ (ByteArray.mk (List.toArray ((32 : UInt8) :: ([] : (List UInt8)))))) ++ t319.2.2) (Go.IntKind.wrap Go.IntKind.i64 (p3 + (1 : Int))) p4))
        (bindD ((ixAt p0 p3)) fun t321 =>
         bindD ((Go.Proofs.R.grow ((ByteArray.size (p2 ++ (ByteArray.mk (List.toArray ((32 : UInt8) :: ([] : (List UInt8))))))) + (ByteArray.size t321.2.2)))) fun t322 =>
         ancepsref15_Text.l11 p0 p1 ((p2 ++ (ByteArray.mk (List.toArray ((32 : UInt8) :: ([] : (List UInt8)))))) ++ t321.2.2) (Go.IntKind.wrap Go.IntKind.i64 (p3 + (1 : Int))) p4))
       (bindD ((ixAt p0 p3)) fun t323 =>
        bindD ((Go.Proofs.R.grow ((ByteArray.size (p2 ++ (ByteArray.mk (List.toArray ((32 : UInt8) :: ([] : (List UInt8))))))) + (ByteArray.size t323.2.2)))) fun t324 =>
        ancepsref15_Text.l11 p0 p1 ((p2 ++ (ByteArray.mk (List.toArray ((32 : UInt8) :: ([] : (List UInt8)))))) ++ t323.2.2) (Go.IntKind.wrap Go.IntKind.i64 (p3 + (1 : Int))) p4)))
     (ifB (decide (p3 > (0 : Int)))
       (ifB t285.1
        (ifB (!t286.1)
         (bindD ((Go.Proofs.R.grow ((ByteArray.size p2) + (ByteArray.size (ByteArray.mk (List.toArray ((46 : UInt8) :: ([] : (List UInt8))))))))) fun t325 =>
         ifB (decide (p3 > (0 : Int)))
          (ifB (!t285.1)
           (ifB t286.1
            (bindD ((Go.Proofs.R.grow ((ByteArray.size (p2 ++ (ByteArray.mk (List.toArray ((46 : UInt8) :: ([] : (List UInt8))))))) + (ByteArray.size (ByteArray.mk (List.toArray ((95 : UInt8) :: ([] : (List UInt8))))))))) fun t326 =>
            bindD ((ixAt p0 p3)) fun t327 =>
            bindD ((Go.Proofs.R.grow ((ByteArray.size ((p2 ++ (ByteArray.mk (List.toArray ((46 : UInt8) :: ([] : (List UInt8)))))) ++ (ByteArray.mk (List.toArray ((95 : UInt8) :: ([] : (List UInt8))))))) + (ByteArray.size t327.2.2)))) fun t328 =>
            ancepsref15_Text.l11 p0 p1 (((p2 ++ (ByteArray.mk (List.toArray ((46 : UInt8) :: ([] : (List UInt8)))))) ++ (ByteArray.mk (List.toArray ((95 : UInt8) :: ([] : (List UInt8)))))) ++ t327.2.2) (Go.IntKind.wrap Go.IntKind.i64 (p3 + (1 : Int))) p4)
           (bindD ((ixAt p0 p3)) fun t329 =>
            bindD ((Go.Proofs.R.grow ((ByteArray.size (p2 ++ (ByteArray.mk (List.toArray ((46 : UInt8) :: ([] : (List UInt8))))))) + (ByteArray.size t329.2.2)))) fun t330 =>
            ancepsref15_Text.l11 p0 p1 ((p2 ++ (ByteArray.mk (List.toArray ((46 : UInt8) :: ([] : (List UInt8)))))) ++ t329.2.2) (Go.IntKind.wrap Go.IntKind.i64 (p3 + (1 : Int))) p4))
          (bindD ((ixAt p0 p3)) fun t331 =>
           bindD ((Go.Proofs.R.grow ((ByteArray.size (p2 ++ (ByteArray.mk (List.toArray ((46 : UInt8) :: ([] : (List UInt8))))))) + (ByteArray.size t331.2.2)))) fun t332 =>
           ancepsref15_Text.l11 p0 p1 ((p2 ++ (ByteArray.mk (List.toArray ((46 : UInt8) :: ([] : (List UInt8)))))) ++ t331.2.2) (Go.IntKind.wrap Go.IntKind.i64 (p3 + (1 : Int))) p4))
         (bindD ((ixAt p0 p3)) fun t333 =>
          bindD ((Go.Proofs.R.grow ((ByteArray.size (p2 ++ (ByteArray.mk (List.toArray ((46 : UInt8) :: ([] : (List UInt8))))))) + (ByteArray.size t333.2.2)))) fun t334 =>
          ancepsref15_Text.l11 p0 p1 ((p2 ++ (ByteArray.mk (List.toArray ((46 : UInt8) :: ([] : (List UInt8)))))) ++ t333.2.2) (Go.IntKind.wrap Go.IntKind.i64 (p3 + (1 : Int))) p4))
        (ifB (decide (p3 > (0 : Int)))
          (ifB (!t285.1)
           (ifB t286.1
            (bindD ((Go.Proofs.R.grow ((ByteArray.size p2) + (ByteArray.size (ByteArray.mk (List.toArray ((95 : UInt8) :: ([] : (List UInt8))))))))) fun t335 =>
            bindD ((ixAt p0 p3)) fun t336 =>
            bindD ((Go.Proofs.R.grow ((ByteArray.size (p2 ++ (ByteArray.mk (List.toArray ((95 : UInt8) :: ([] : (List UInt8))))))) + (ByteArray.size t336.2.2)))) fun t337 =>
            ancepsref15_Text.l11 p0 p1 ((p2 ++ (ByteArray.mk (List.toArray ((95 : UInt8) :: ([] : (List UInt8)))))) ++ t336.2.2) (Go.IntKind.wrap Go.IntKind.i64 (p3 + (1 : Int))) p4)
           (bindD ((ixAt p0 p3)) fun t338 =>
            bindD ((Go.Proofs.R.grow ((ByteArray.size p2) + (ByteArray.size t338.2.2)))) fun t339 =>
            ancepsref15_Text.l11 p0 p1 (p2 ++ t338.2.2) (Go.IntKind.wrap Go.IntKind.i64 (p3 + (1 : Int))) p4))
          (bindD ((ixAt p0 p3)) fun t340 =>
           bindD ((Go.Proofs.R.grow ((ByteArray.size p2) + (ByteArray.size t340.2.2)))) fun t341 =>
           ancepsref15_Text.l11 p0 p1 (p2 ++ t340.2.2) (Go.IntKind.wrap Go.IntKind.i64 (p3 + (1 : Int))) p4))
         (bindD ((ixAt p0 p3)) fun t342 =>
          bindD ((Go.Proofs.R.grow ((ByteArray.size p2) + (ByteArray.size t342.2.2)))) fun t343 =>
          ancepsref15_Text.l11 p0 p1 (p2 ++ t342.2.2) (Go.IntKind.wrap Go.IntKind.i64 (p3 + (1 : Int))) p4)))
       (ifB (decide (p3 > (0 : Int)))
         (ifB (!t285.1)
          (ifB t286.1
           (bindD ((Go.Proofs.R.grow ((ByteArray.size p2) + (ByteArray.size (ByteArray.mk (List.toArray ((95 : UInt8) :: ([] : (List UInt8))))))))) fun t344 =>
           bindD ((ixAt p0 p3)) fun t345 =>
           bindD ((Go.Proofs.R.grow ((ByteArray.size (p2 ++ (ByteArray.mk (List.toArray ((95 : UInt8) :: ([] : (List UInt8))))))) + (ByteArray.size t345.2.2)))) fun t346 =>
           ancepsref15_Text.l11 p0 p1 ((p2 ++ (ByteArray.mk (List.toArray ((95 : UInt8) :: ([] : (List UInt8)))))) ++ t345.2.2) (Go.IntKind.wrap Go.IntKind.i64 (p3 + (1 : Int))) p4)
          (bindD ((ixAt p0 p3)) fun t347 =>
           bindD ((Go.Proofs.R.grow ((ByteArray.size p2) + (ByteArray.size t347.2.2)))) fun t348 =>
           ancepsref15_Text.l11 p0 p1 (p2 ++ t347.2.2) (Go.IntKind.wrap Go.IntKind.i64 (p3 + (1 : Int))) p4))
         (bindD ((ixAt p0 p3)) fun t349 =>
          bindD ((Go.Proofs.R.grow ((ByteArray.size p2) + (ByteArray.size t349.2.2)))) fun t350 =>
          ancepsref15_Text.l11 p0 p1 (p2 ++ t349.2.2) (Go.IntKind.wrap Go.IntKind.i64 (p3 + (1 : Int))) p4))
        (bindD ((ixAt p0 p3)) fun t351 =>
         bindD ((Go.Proofs.R.grow ((ByteArray.size p2) + (ByteArray.size t351.2.2)))) fun t352 =>
         ancepsref15_Text.l11 p0 p1 (p2 ++ t351.2.2) (Go.IntKind.wrap Go.IntKind.i64 (p3 + (1 : Int))) p4)))
      (ifB (decide (p3 > (0 : Int)))
        (ifB (!t285.1)
         (ifB t286.1
          (bindD ((Go.Proofs.R.grow ((ByteArray.size p2) + (ByteArray.size (ByteArray.mk (List.toArray ((95 : UInt8) :: ([] : (List UInt8))))))))) fun t353 =>
          bindD ((ixAt p0 p3)) fun t354 =>
          bindD ((Go.Proofs.R.grow ((ByteArray.size (p2 ++ (ByteArray.mk (List.toArray ((95 : UInt8) :: ([] : (List UInt8))))))) + (ByteArray.size t354.2.2)))) fun t355 =>
          ancepsref15_Text.l11 p0 p1 ((p2 ++ (ByteArray.mk (List.toArray ((95 : UInt8) :: ([] : (List UInt8)))))) ++ t354.2.2) (Go.IntKind.wrap Go.IntKind.i64 (p3 + (1 : Int))) p4)
         (bindD ((ixAt p0 p3)) fun t356 =>
          bindD ((Go.Proofs.R.grow ((ByteArray.size p2) + (ByteArray.size t356.2.2)))) fun t357 =>
          ancepsref15_Text.l11 p0 p1 (p2 ++ t356.2.2) (Go.IntKind.wrap Go.IntKind.i64 (p3 + (1 : Int))) p4))
        (bindD ((ixAt p0 p3)) fun t358 =>
         bindD ((Go.Proofs.R.grow ((ByteArray.size p2) + (ByteArray.size t358.2.2)))) fun t359 =>
         ancepsref15_Text.l11 p0 p1 (p2 ++ t358.2.2) (Go.IntKind.wrap Go.IntKind.i64 (p3 + (1 : Int))) p4))
       (bindD ((ixAt p0 p3)) fun t360 =>
        bindD ((Go.Proofs.R.grow ((ByteArray.size p2) + (ByteArray.size t360.2.2)))) fun t361 =>
        ancepsref15_Text.l11 p0 p1 (p2 ++ t360.2.2) (Go.IntKind.wrap Go.IntKind.i64 (p3 + (1 : Int))) p4))))
    (ifB (decide (p3 > (0 : Int)))
      (ifB t285.1
       (ifB (!t286.1)
        (bindD ((Go.Proofs.R.grow ((ByteArray.size p2) + (ByteArray.size (ByteArray.mk (List.toArray ((46 : UInt8) :: ([] : (List UInt8))))))))) fun t362 =>
        ifB (decide (p3 > (0 : Int)))
         (ifB (!t285.1)
          (ifB t286.1
           (bindD ((Go.Proofs.R.grow ((ByteArray.size (p2 ++ (ByteArray.mk (List.toArray ((46 : UInt8) :: ([] : (List UInt8))))))) + (ByteArray.size (ByteArray.mk (List.toArray ((95 : UInt8) :: ([] : (List UInt8))))))))) fun t363 =>
           bindD ((ixAt p0 p3)) fun t364 =>
           bindD ((Go.Proofs.R.grow ((ByteArray.size ((p2 ++ (ByteArray.mk (List.toArray ((46 : UInt8) :: ([] : (List UInt8)))))) ++ (ByteArray.mk (List.toArray ((95 : UInt8) :: ([] : (List UInt8))))))) + (ByteArray.size t364.2.2)))) fun t365 =>
           ancepsref15_Text.l11 p0 p1 (((p2 ++ (ByteArray.mk (List.toArray ((46 : UInt8) :: ([] : (List UInt8)))))) ++ (ByteArray.mk (List.toArray ((95 : UInt8) :: ([] : (List UInt8)))))) ++ t364.2.2) (Go.IntKind.wrap Go.IntKind.i64 (p3 + (1 : Int))) p4)
          (bindD ((ixAt p0 p3)) fun t366 =>
           bindD ((Go.Proofs.R.grow ((ByteArray.size (p2 ++ (ByteArray.mk (List.toArray ((46 : UInt8) :: ([] : (List UInt8))))))) + (ByteArray.size t366.2.2)))) fun t367 =>
           ancepsref15_Text.l11 p0 p1 ((p2 ++ (ByteArray.mk (List.toArray ((46 : UInt8) :: ([] : (List UInt8)))))) ++ t366.2.2) (Go.IntKind.wrap Go.IntKind.i64 (p3 + (1 : Int))) p4))
         (bindD ((ixAt p0 p3)) fun t368 =>
          bindD ((Go.Proofs.R.grow ((ByteArray.size (p2 ++ (ByteArray.mk (List.toArray ((46 : UInt8) :: ([] : (List UInt8))))))) + (ByteArray.size t368.2.2)))) fun t369 =>
          ancepsref15_Text.l11 p0 p1 ((p2 ++ (ByteArray.mk (List.toArray ((46 : UInt8) :: ([] : (List UInt8)))))) ++ t368.2.2) (Go.IntKind.wrap Go.IntKind.i64 (p3 + (1 : Int))) p4))
        (bindD ((ixAt p0 p3)) fun t370 =>
         bindD ((Go.Proofs.R.grow ((ByteArray.size (p2 ++ (ByteArray.mk (List.toArray ((46 : UInt8) :: ([] : (List UInt8))))))) + (ByteArray.size t370.2.2)))) fun t371 =>
         ancepsref15_Text.l11 p0 p1 ((p2 ++ (ByteArray.mk (List.toArray ((46 : UInt8) :: ([] : (List UInt8)))))) ++ t370.2.2) (Go.IntKind.wrap Go.IntKind.i64 (p3 + (1 : Int))) p4))
       (ifB (decide (p3 > (0 : Int)))
         (ifB (!t285.1)
          (ifB t286.1
           (bindD ((Go.Proofs.R.grow ((ByteArray.size p2) + (ByteArray.size (ByteArray.mk (List.toArray ((95 : UInt8) :: ([] : (List UInt8))))))))) fun t372 =>
           bindD ((ixAt p0 p3)) fun t373 =>
           bindD ((Go.Proofs.R.grow ((ByteArray.size (p2 ++ (ByteArray.mk (List.toArray ((95 : UInt8) :: ([] : (List UInt8))))))) + (ByteArray.size t373.2.2)))) fun t374 =>
           ancepsref15_Text.l11 p0 p1 ((p2 ++ (ByteArray.mk (List.toArray ((95 : UInt8) :: ([] : (List UInt8)))))) ++ t373.2.2) (Go.IntKind.wrap Go.IntKind.i64 (p3 + (1 : Int))) p4)
          (bindD ((ixAt p0 p3)) fun t375 =>
           bindD ((Go.Proofs.R.grow ((ByteArray.size p2) + (ByteArray.size t375.2.2)))) fun t376 =>
           ancepsref15_Text.l11 p0 p1 (p2 ++ t375.2.2) (Go.IntKind.wrap Go.IntKind.i64 (p3 + (1 : Int))) p4))
         (bindD ((ixAt p0 p3)) fun t377 =>
          bindD ((Go.Proofs.R.grow ((ByteArray.size p2) + (ByteArray.size t377.2.2)))) fun t378 =>
          ancepsref15_Text.l11 p0 p1 (p2 ++ t377.2.2) (Go.IntKind.wrap Go.IntKind.i64 (p3 + (1 : Int))) p4))
        (bindD ((ixAt p0 p3)) fun t379 =>
         bindD ((Go.Proofs.R.grow ((ByteArray.size p2) + (ByteArray.size t379.2.2)))) fun t380 =>
         ancepsref15_Text.l11 p0 p1 (p2 ++ t379.2.2) (Go.IntKind.wrap Go.IntKind.i64 (p3 + (1 : Int))) p4)))
      (ifB (decide (p3 > (0 : Int)))
        (ifB (!t285.1)
         (ifB t286.1
          (bindD ((Go.Proofs.R.grow ((ByteArray.size p2) + (ByteArray.size (ByteArray.mk (List.toArray ((95 : UInt8) :: ([] : (List UInt8))))))))) fun t381 =>
          bindD ((ixAt p0 p3)) fun t382 =>
          bindD ((Go.Proofs.R.grow ((ByteArray.size (p2 ++ (ByteArray.mk (List.toArray ((95 : UInt8) :: ([] : (List UInt8))))))) + (ByteArray.size t382.2.2)))) fun t383 =>
          ancepsref15_Text.l11 p0 p1 ((p2 ++ (ByteArray.mk (List.toArray ((95 : UInt8) :: ([] : (List UInt8)))))) ++ t382.2.2) (Go.IntKind.wrap Go.IntKind.i64 (p3 + (1 : Int))) p4)
         (bindD ((ixAt p0 p3)) fun t384 =>
          bindD ((Go.Proofs.R.grow ((ByteArray.size p2) + (ByteArray.size t384.2.2)))) fun t385 =>
          ancepsref15_Text.l11 p0 p1 (p2 ++ t384.2.2) (Go.IntKind.wrap Go.IntKind.i64 (p3 + (1 : Int))) p4))
        (bindD ((ixAt p0 p3)) fun t386 =>
         bindD ((Go.Proofs.R.grow ((ByteArray.size p2) + (ByteArray.size t386.2.2)))) fun t387 =>
         ancepsref15_Text.l11 p0 p1 (p2 ++ t386.2.2) (Go.IntKind.wrap Go.IntKind.i64 (p3 + (1 : Int))) p4))
       (bindD ((ixAt p0 p3)) fun t388 =>
        bindD ((Go.Proofs.R.grow ((ByteArray.size p2) + (ByteArray.size t388.2.2)))) fun t389 =>
        ancepsref15_Text.l11 p0 p1 (p2 ++ t388.2.2) (Go.IntKind.wrap Go.IntKind.i64 (p3 + (1 : Int))) p4)))
     (ifB (decide (p3 > (0 : Int)))
       (ifB (!t285.1)
        (ifB t286.1
         (bindD ((Go.Proofs.R.grow ((ByteArray.size p2) + (ByteArray.size (ByteArray.mk (List.toArray ((95 : UInt8) :: ([] : (List UInt8))))))))) fun t390 =>
         bindD ((ixAt p0 p3)) fun t391 =>
         bindD ((Go.Proofs.R.grow ((ByteArray.size (p2 ++ (ByteArray.mk (List.toArray ((95 : UInt8) :: ([] : (List UInt8))))))) + (ByteArray.size t391.2.2)))) fun t392 =>
         ancepsref15_Text.l11 p0 p1 ((p2 ++ (ByteArray.mk (List.toArray ((95 : UInt8) :: ([] : (List UInt8)))))) ++ t391.2.2) (Go.IntKind.wrap Go.IntKind.i64 (p3 + (1 : Int))) p4)
        (bindD ((ixAt p0 p3)) fun t393 =>
         bindD ((Go.Proofs.R.grow ((ByteArray.size p2) + (ByteArray.size t393.2.2)))) fun t394 =>
         ancepsref15_Text.l11 p0 p1 (p2 ++ t393.2.2) (Go.IntKind.wrap Go.IntKind.i64 (p3 + (1 : Int))) p4))
       (bindD ((ixAt p0 p3)) fun t395 =>
        bindD ((Go.Proofs.R.grow ((ByteArray.size p2) + (ByteArray.size t395.2.2)))) fun t396 =>
        ancepsref15_Text.l11 p0 p1 (p2 ++ t395.2.2) (Go.IntKind.wrap Go.IntKind.i64 (p3 + (1 : Int))) p4))
      (bindD ((ixAt p0 p3)) fun t397 =>
       bindD ((Go.Proofs.R.grow ((ByteArray.size p2) + (ByteArray.size t397.2.2)))) fun t398 =>
       ancepsref15_Text.l11 p0 p1 (p2 ++ t397.2.2) (Go.IntKind.wrap Go.IntKind.i64 (p3 + (1 : Int))) p4))))
   (ifB (decide (p3 > (0 : Int)))
     (ifB t285.1
      (ifB (!t286.1)
       (bindD ((Go.Proofs.R.grow ((ByteArray.size p2) + (ByteArray.size (ByteArray.mk (List.toArray ((46 : UInt8) :: ([] : (List UInt8))))))))) fun t399 =>
       ifB (decide (p3 > (0 : Int)))
        (ifB (!t285.1)
         (ifB t286.1
          (bindD ((Go.Proofs.R.grow ((ByteArray.size (p2 ++ (ByteArray.mk (List.toArray ((46 : UInt8) :: ([] : (List UInt8))))))) + (ByteArray.size (ByteArray.mk (List.toArray ((95 : UInt8) :: ([] : (List UInt8))))))))) fun t400 =>
          bindD ((ixAt p0 p3)) fun t401 =>
          bindD ((Go.Proofs.R.grow ((ByteArray.size ((p2 ++ (ByteArray.mk (List.toArray ((46 : UInt8) :: ([] : (List UInt8)))))) ++ (ByteArray.mk (List.toArray ((95 : UInt8) :: ([] : (List UInt8))))))) + (ByteArray.size t401.2.2)))) fun t402 =>
          ancepsref15_Text.l11 p0 p1 (((p2 ++ (ByteArray.mk (List.toArray ((46 : UInt8) :: ([] : (List UInt8)))))) ++ (ByteArray.mk (List.toArray ((95 : UInt8) :: ([] : (List UInt8)))))) ++ t401.2.2) (Go.IntKind.wrap Go.IntKind.i64 (p3 + (1 : Int))) p4)
         (bindD ((ixAt p0 p3)) fun t403 =>
          bindD ((Go.Proofs.R.grow ((ByteArray.size (p2 ++ (ByteArray.mk (List.toArray ((46 : UInt8) :: ([] : (List UInt8))))))) + (ByteArray.size t403.2.2)))) fun t404 =>
          ancepsref15_Text.l11 p0 p1 ((p2 ++ (ByteArray.mk (List.toArray ((46 : UInt8) :: ([] : (List UInt8)))))) ++ t403.2.2) (Go.IntKind.wrap Go.IntKind.i64 (p3 + (1 : Int))) p4))
        (bindD ((ixAt p0 p3)) fun t405 =>
         bindD ((Go.Proofs.R.grow ((ByteArray.size (p2 ++ (ByteArray.mk (List.toArray ((46 : UInt8) :: ([] : (List UInt8))))))) + (ByteArray.size t405.2.2)))) fun t406 =>
         ancepsref15_Text.l11 p0 p1 ((p2 ++ (ByteArray.mk (List.toArray ((46 : UInt8) :: ([] : (List UInt8)))))) ++ t405.2.2) (Go.IntKind.wrap Go.IntKind.i64 (p3 + (1 : Int))) p4))
       (bindD ((ixAt p0 p3)) fun t407 =>
        bindD ((Go.Proofs.R.grow ((ByteArray.size (p2 ++ (ByteArray.mk (List.toArray ((46 : UInt8) :: ([] : (List UInt8))))))) + (ByteArray.size t407.2.2)))) fun t408 =>
        ancepsref15_Text.l11 p0 p1 ((p2 ++ (ByteArray.mk (List.toArray ((46 : UInt8) :: ([] : (List UInt8)))))) ++ t407.2.2) (Go.IntKind.wrap Go.IntKind.i64 (p3 + (1 : Int))) p4))
      (ifB (decide (p3 > (0 : Int)))
        (ifB (!t285.1)
         (ifB t286.1
          (bindD ((Go.Proofs.R.grow ((ByteArray.size p2) + (ByteArray.size (ByteArray.mk (List.toArray ((95 : UInt8) :: ([] : (List UInt8))))))))) fun t409 =>
          bindD ((ixAt p0 p3)) fun t410 =>
          bindD ((Go.Proofs.R.grow ((ByteArray.size (p2 ++ (ByteArray.mk (List.toArray ((95 : UInt8) :: ([] : (List UInt8))))))) + (ByteArray.size t410.2.2)))) fun t411 =>
          ancepsref15_Text.l11 p0 p1 ((p2 ++ (ByteArray.mk (List.toArray ((95 : UInt8) :: ([] : (List UInt8)))))) ++ t410.2.2) (Go.IntKind.wrap Go.IntKind.i64 (p3 + (1 : Int))) p4)
         (bindD ((ixAt p0 p3)) fun t412 =>
          bindD ((Go.Proofs.R.grow ((ByteArray.size p2) + (ByteArray.size t412.2.2)))) fun t413 =>
          ancepsref15_Text.l11 p0 p1 (p2 ++ t412.2.2) (Go.IntKind.wrap Go.IntKind.i64 (p3 + (1 : Int))) p4))
        (bindD ((ixAt p0 p3)) fun t414 =>
         bindD ((Go.Proofs.R.grow ((ByteArray.size p2) + (ByteArray.size t414.2.2)))) fun t415 =>
         ancepsref15_Text.l11 p0 p1 (p2 ++ t414.2.2) (Go.IntKind.wrap Go.IntKind.i64 (p3 + (1 : Int))) p4))
       (bindD ((ixAt p0 p3)) fun t416 =>
        bindD ((Go.Proofs.R.grow ((ByteArray.size p2) + (ByteArray.size t416.2.2)))) fun t417 =>
        ancepsref15_Text.l11 p0 p1 (p2 ++ t416.2.2) (Go.IntKind.wrap Go.IntKind.i64 (p3 + (1 : Int))) p4)))
     (ifB (decide (p3 > (0 : Int)))
       (ifB (!t285.1)
        (ifB t286.1
         (bindD ((Go.Proofs.R.grow ((ByteArray.size p2) + (ByteArray.size (ByteArray.mk (List.toArray ((95 : UInt8) :: ([] : (List UInt8))))))))) fun t418 =>
         bindD ((ixAt p0 p3)) fun t419 =>
         bindD ((Go.Proofs.R.grow ((ByteArray.size (p2 ++ (ByteArray.mk (List.toArray ((95 : UInt8) :: ([] : (List UInt8))))))) + (ByteArray.size t419.2.2)))) fun t420 =>
         ancepsref15_Text.l11 p0 p1 ((p2 ++ (ByteArray.mk (List.toArray ((95 : UInt8) :: ([] : (List UInt8)))))) ++ t419.2.2) (Go.IntKind.wrap Go.IntKind.i64 (p3 + (1 : Int))) p4)
        (bindD ((ixAt p0 p3)) fun t421 =>
         bindD ((Go.Proofs.R.grow ((ByteArray.size p2) + (ByteArray.size t421.2.2)))) fun t422 =>
         ancepsref15_Text.l11 p0 p1 (p2 ++ t421.2.2) (Go.IntKind.wrap Go.IntKind.i64 (p3 + (1 : Int))) p4))
       (bindD ((ixAt p0 p3)) fun t423 =>
        bindD ((Go.Proofs.R.grow ((ByteArray.size p2) + (ByteArray.size t423.2.2)))) fun t424 =>
        ancepsref15_Text.l11 p0 p1 (p2 ++ t423.2.2) (Go.IntKind.wrap Go.IntKind.i64 (p3 + (1 : Int))) p4))
      (bindD ((ixAt p0 p3)) fun t425 =>
       bindD ((Go.Proofs.R.grow ((ByteArray.size p2) + (ByteArray.size t425.2.2)))) fun t426 =>
       ancepsref15_Text.l11 p0 p1 (p2 ++ t425.2.2) (Go.IntKind.wrap Go.IntKind.i64 (p3 + (1 : Int))) p4)))
    (ifB (decide (p3 > (0 : Int)))
      (ifB (!t285.1)
       (ifB t286.1
        (bindD ((Go.Proofs.R.grow ((ByteArray.size p2) + (ByteArray.size (ByteArray.mk (List.toArray ((95 : UInt8) :: ([] : (List UInt8))))))))) fun t427 =>
        bindD ((ixAt p0 p3)) fun t428 =>
        bindD ((Go.Proofs.R.grow ((ByteArray.size (p2 ++ (ByteArray.mk (List.toArray ((95 : UInt8) :: ([] : (List UInt8))))))) + (ByteArray.size t428.2.2)))) fun t429 =>
        ancepsref15_Text.l11 p0 p1 ((p2 ++ (ByteArray.mk (List.toArray ((95 : UInt8) :: ([] : (List UInt8)))))) ++ t428.2.2) (Go.IntKind.wrap Go.IntKind.i64 (p3 + (1 : Int))) p4)
       (bindD ((ixAt p0 p3)) fun t430 =>
        bindD ((Go.Proofs.R.grow ((ByteArray.size p2) + (ByteArray.size t430.2.2)))) fun t431 =>
        ancepsref15_Text.l11 p0 p1 (p2 ++ t430.2.2) (Go.IntKind.wrap Go.IntKind.i64 (p3 + (1 : Int))) p4))
      (bindD ((ixAt p0 p3)) fun t432 =>
       bindD ((Go.Proofs.R.grow ((ByteArray.size p2) + (ByteArray.size t432.2.2)))) fun t433 =>
       ancepsref15_Text.l11 p0 p1 (p2 ++ t432.2.2) (Go.IntKind.wrap Go.IntKind.i64 (p3 + (1 : Int))) p4))
     (bindD ((ixAt p0 p3)) fun t434 =>
      bindD ((Go.Proofs.R.grow ((ByteArray.size p2) + (ByteArray.size t434.2.2)))) fun t435 =>
      ancepsref15_Text.l11 p0 p1 (p2 ++ t434.2.2) (Go.IntKind.wrap Go.IntKind.i64 (p3 + (1 : Int))) p4))))
  (some (p2, ((0 : Int), ()))) := (loopAt_step Go.Proofs.C15.ctx 15 11 _).trans (by kernel_rfl)
theorem syllable_valid.l4_eq (p0 : (List (Int × (Int × ByteArray)))) (p1 : (List Int)) (p2 : (List (Int × (Int × ByteArray)))) (p3 : Int) (p4 : Int) : syllable_valid.l4 p0 p1 p2 p3 p4 =
  ifB (decide (p4 < p3))
   (bindD ((ixAt p2 p4)) fun t436 =>
   bindD (sound_Valid.f t436.1 t436.2.1 t436.2.2) fun t437 =>
   ifB (t437.1 != (0 : Int))
    (some (t437.1, ()))
   (syllable_valid.l4 p0 p1 p2 p3 (Go.IntKind.wrap Go.IntKind.i64 (p4 + (1 : Int)))))
  (ifB (decide ((((List.length p1) : Nat) : Int) > (20 : Int)))
    (some ((3 : Int), ()))
   (syllable_valid.l13 p0 p1 p1 (((List.length p1) : Nat) : Int) (0 : Int))) := (loopAt_step Go.Proofs.C15.ctx 47 4 _).trans (by kernel_rfl)
theorem sound_Nuclei.l3_eq (p0 : (List (Int × (Int × ByteArray)))) (p1 : Int) (p2 : Int) (p3 : (List Int)) : sound_Nuclei.l3 p0 p1 p2 p3 =
  ifB (decide (p2 < p1))
   (bindD ((ixAt p0 p2)) fun t438 =>
   bindD (sound_Nucleus.f t438.1 t438.2.1 t438.2.2) fun t439 =>
   ifB t439.1
    (bindD ((Go.Proofs.R.grow ((List.length p3) + (List.length (p2 :: ([] : (List Int))))))) fun t440 =>
    sound_Nuclei.l3 p0 p1 (Go.IntKind.wrap Go.IntKind.i64 (p2 + (1 : Int))) (p3 ++ (p2 :: ([] : (List Int)))))
   (sound_Nuclei.l3 p0 p1 (Go.IntKind.wrap Go.IntKind.i64 (p2 + (1 : Int))) p3))
  (some (p3, ())) := (loopAt_step Go.Proofs.C15.ctx 48 3 _).trans (by kernel_rfl)
theorem cluster_Coda.f_eq (p0 : (List (Int × (Int × ByteArray)))) (p1 : (List Int)) : cluster_Coda.f p0 p1 =
  bindD (cluster_Valid.f p0 p1) fun t441 =>
  ifB (t441.1 != (0 : Int))
   (some ((0 : Int), (t441.1, ())))
  (bindD (cluster_class.f p0 p1) fun t442 =>
   ifB (t442.1 != (4 : Int))
    (some ((0 : Int), ((0 : Int), ())))
   (bindD (cluster_core.f p0 p1) fun t443 =>
    bindD ((ixAt t443.1 (Go.IntKind.wrap Go.IntKind.i64 ((((List.length t443.1) : Nat) : Int) - (1 : Int))))) fun t444 =>
    bindD ((ixAt t443.1 (Go.IntKind.wrap Go.IntKind.i64 ((((List.length t443.1) : Nat) : Int) - (1 : Int))))) fun t445 =>
    bindD ((ixAt p0 t445)) fun t446 =>
    ifB (t446.1 == (7 : Int))
     (some ((Go.IntKind.wrap Go.IntKind.i64 (t445 + (1 : Int))), ((0 : Int), ())))
    (some (t445, ((0 : Int), ()))))) := (Einf_call Go.Proofs.C15.ctx 49 _).trans (by kernel_rfl)
theorem syllable_Divide.l10_1_eq (p0 : (List (Int × (Int × ByteArray)))) (p1 : (List Int)) (p2 : Int) (p3 : Int) (p4 : Int) (p5 : (List Int)) (p6 : (List (Int × (Int × (Int × (Int × Bool)))))) : syllable_Divide.l10_1 p0 p1 p2 p3 p4 p5 p6 =
  ifB (decide (p4 < p3))
   (bindD ((ixAt p5 p4)) fun t447 =>
   bindD ((ixAt p5 p4)) fun t448 =>
   bindD (syllable_Word.f p1 t448) fun t449 =>
   ifB (decide (p4 < (Go.IntKind.wrap Go.IntKind.i64 ((((List.length p5) : Nat) : Int) - (1 : Int)))))
    (bindD (syllable_between.f p0 p1 p5 p4) fun t450 =>
    bindD (cluster_Coda.f t450.1 t450.2.1) fun t451 =>
    ifB (t451.2.1 != (0 : Int))
     (some (([] : (List (Int × (Int × (Int × (Int × Bool)))))), (t451.2.1, ())))
    (bindD ((ixAt p5 (Go.IntKind.wrap Go.IntKind.i64 (p4 + (1 : Int))))) fun t452 =>
     bindD ((ixAt p5 (Go.IntKind.wrap Go.IntKind.i64 (p4 + (1 : Int))))) fun t453 =>
     bindD (syllable_Word.f p1 t453) fun t454 =>
     bindD ((Go.Proofs.R.grow ((List.length p6) + (List.length ((p2, ((Go.IntKind.wrap Go.IntKind.i64 ((Go.IntKind.wrap Go.IntKind.i64 (t448 + (1 : Int))) + t451.1)), (t448, (t449.1, (t454.1 != t449.1))))) :: ([] : (List (Int × (Int × (Int × (Int × Bool))))))))))) fun t455 =>
     syllable_Divide.l10_1 p0 p1 (Go.IntKind.wrap Go.IntKind.i64 ((Go.IntKind.wrap Go.IntKind.i64 (t448 + (1 : Int))) + t451.1)) p3 (Go.IntKind.wrap Go.IntKind.i64 (p4 + (1 : Int))) p5 (p6 ++ ((p2, ((Go.IntKind.wrap Go.IntKind.i64 ((Go.IntKind.wrap Go.IntKind.i64 (t448 + (1 : Int))) + t451.1)), (t448, (t449.1, (t454.1 != t449.1))))) :: ([] : (List (Int × (Int × (Int × (Int × Bool))))))))))
   (bindD ((Go.Proofs.R.grow ((List.length p6) + (List.length ((p2, ((((List.length p0) : Nat) : Int), (t448, (t449.1, true)))) :: ([] : (List (Int × (Int × (Int × (Int × Bool))))))))))) fun t456 =>
    syllable_Divide.l10_1 p0 p1 (((List.length p0) : Nat) : Int) p3 (Go.IntKind.wrap Go.IntKind.i64 (p4 + (1 : Int))) p5 (p6 ++ ((p2, ((((List.length p0) : Nat) : Int), (t448, (t449.1, true)))) :: ([] : (List (Int × (Int × (Int × (Int × Bool))))))))))
  (some (p6, ((0 : Int), ()))) := (loopAt_step Go.Proofs.C15.ctx 21 10 _).trans (by kernel_rfl)
theorem ancepsref15_Valid.l4_eq (p0 : (List (Int × (Int × ByteArray)))) (p1 : (List Int)) (p2 : Int) : ancepsref15_Valid.l4 p0 p1 p2 =
  ifB (decide (p2 < (((List.length p0) : Nat) : Int)))
   (bindD ((ixAt p0 p2)) fun t457 =>
   bindD (ancepsref11_Valid.f t457.1 t457.2.1 t457.2.2) fun t458 =>
   ifB (t458.1 != (0 : Int))
    (some (t458.1, ()))
   (ancepsref15_Valid.l4 p0 p1 (Go.IntKind.wrap Go.IntKind.i64 (p2 + (1 : Int)))))
  (ifB (decide ((((List.length p1) : Nat) : Int) > (20 : Int)))
    (some ((3 : Int), ()))
   (ancepsref15_Valid.l12 p0 p1 (0 : Int))) := (loopAt_step Go.Proofs.C15.ctx 51 4 _).trans (by kernel_rfl)
theorem ancepsref14_Coda.f_eq (p0 : (List (Int × (Int × ByteArray)))) (p1 : (List Int)) : ancepsref14_Coda.f p0 p1 =
  bindD (ancepsref14_Valid.f p0 p1) fun t459 =>
  ifB (t459.1 != (0 : Int))
   (some ((0 : Int), (t459.1, ())))
  (bindD (ancepsref14_class.f p0 p1) fun t460 =>
   ifB (t460.1 != (4 : Int))
    (some ((0 : Int), ((0 : Int), ())))
   (bindD (ancepsref14_core.f p0 p1) fun t461 =>
    bindD ((ixAt t461.1 (Go.IntKind.wrap Go.IntKind.i64 ((((List.length t461.1) : Nat) : Int) - (1 : Int))))) fun t462 =>
    bindD ((ixAt t461.1 (Go.IntKind.wrap Go.IntKind.i64 ((((List.length t461.1) : Nat) : Int) - (1 : Int))))) fun t463 =>
    bindD ((ixAt p0 t463)) fun t464 =>
    ifB (t464.1 == (7 : Int))
     (some ((Go.IntKind.wrap Go.IntKind.i64 (t463 + (1 : Int))), ((0 : Int), ())))
    (some (t463, ((0 : Int), ()))))) := (Einf_call Go.Proofs.C15.ctx 52 _).trans (by kernel_rfl)
theorem api_Syllable_54.l4_eq (p0 : (List (Int × (Int × (Int × (Int × Bool)))))) (p1 : (List (Int × (Int × (Int × (Int × Bool)))))) (p2 : Int) (p3 : Int) : api_Syllable_54.l4 p0 p1 p2 p3 =
  ifB (decide (p3 < p2))
   (bindD ((ixAt p0 p3)) fun t465 =>
   bindD ((ixAt p1 p3)) fun t466 =>
   ifB (!((t465.1 == t466.1) && ((t465.2.1 == t466.2.1) && ((t465.2.2.1 == t466.2.2.1) && ((t465.2.2.2.1 == t466.2.2.2.1) && (t465.2.2.2.2 == t466.2.2.2.2))))))
    (some (false, ()))
   (api_Syllable_54.l4 p0 p1 p2 (Go.IntKind.wrap Go.IntKind.i64 (p3 + (1 : Int)))))
  (some (true, ())) := (loopAt_step Go.Proofs.C15.ctx 54 4 _).trans (by kernel_rfl)
theorem ancepsref11_All.l3_eq (p0 : (List Int)) (p1 : Int) (p2 : (List (Int × (Int × ByteArray)))) : ancepsref11_All.l3 p0 p1 p2 =
  ifB (decide (p1 < (((List.length p0) : Nat) : Int)))
   (bindD ((ixAt p0 p1)) fun t467 =>
   bindD (ancepsref11_Made.f t467) fun t468 =>
   bindD ((Go.Proofs.R.grow ((List.length p2) + (List.length ((t468.1, (t468.2.1, t468.2.2.1)) :: ([] : (List (Int × (Int × ByteArray))))))))) fun t469 =>
   ancepsref11_All.l3 p0 (Go.IntKind.wrap Go.IntKind.i64 (p1 + (1 : Int))) (p2 ++ ((t468.1, (t468.2.1, t468.2.2.1)) :: ([] : (List (Int × (Int × ByteArray)))))))
  (some (p2, ())) := (loopAt_step Go.Proofs.C15.ctx 46 3 _).trans (by kernel_rfl)
theorem ancepsref15_Made.l7_eq (p0 : Int) (p1 : Int) (p2 : (List Int)) (p3 : (List Int)) (p4 : (List (Int × (Int × ByteArray)))) (p5 : (List Int)) : ancepsref15_Made.l7 p0 p1 p2 p3 p4 p5 =
  ifB (decide (p1 < (((List.length p3) : Nat) : Int)))
   (ifB (decide ((((List.length p5) : Nat) : Int) < (20 : Int)))
    (bindD ((ixAt p3 p1)) fun t470 =>
    ifB ((Go.IntKind.wrap Go.IntKind.i64 ((((List.length p4) : Nat) : Int) + (1 : Int))) == (0 : Int))
     (none)
    (ifB ((Int.tmod (Go.IntKind.wrap Go.IntKind.i64 t470) (Go.IntKind.wrap Go.IntKind.i64 ((((List.length p4) : Nat) : Int) + (1 : Int)))) == p0)
      (bindD ((Go.Proofs.R.grow ((List.length p5) + (List.length (p0 :: ([] : (List Int))))))) fun t471 =>
      ancepsref15_Made.l7 p0 (Go.IntKind.wrap Go.IntKind.i64 (p1 + (1 : Int))) p2 p3 p4 (p5 ++ (p0 :: ([] : (List Int)))))
     (ancepsref15_Made.l7 p0 (Go.IntKind.wrap Go.IntKind.i64 (p1 + (1 : Int))) p2 p3 p4 p5)))
   (ancepsref15_Made.l4 (Go.IntKind.wrap Go.IntKind.i64 (p0 + (1 : Int))) p2 p3 p4 p5))
  (ancepsref15_Made.l4 (Go.IntKind.wrap Go.IntKind.i64 (p0 + (1 : Int))) p2 p3 p4 p5) := (loopAt_step Go.Proofs.C15.ctx 20 7 _).trans (by kernel_rfl)
theorem syllable_between.l6_eq (p0 : Int) (p1 : Int) (p2 : (List Int)) (p3 : Int) (p4 : Int) (p5 : (List (Int × (Int × ByteArray)))) (p6 : (List Int)) (p7 : (List (Int × (Int × ByteArray)))) (p8 : (List Int)) : syllable_between.l6 p0 p1 p2 p3 p4 p5 p6 p7 p8 =
  ifB (decide (p4 < p3))
   (bindD ((ixAt p2 p4)) fun t472 =>
   ifB (decide (t472 > p0))
    (ifB (decide (t472 ≤ p1))
     (bindD ((Go.Proofs.R.grow ((List.length p8) + (List.length ((Go.IntKind.wrap Go.IntKind.i64 ((Go.IntKind.wrap Go.IntKind.i64 (t472 - p0)) - (1 : Int))) :: ([] : (List Int))))))) fun t473 =>
     syllable_between.l6 p0 p1 p2 p3 (Go.IntKind.wrap Go.IntKind.i64 (p4 + (1 : Int))) p5 p6 p7 (p8 ++ ((Go.IntKind.wrap Go.IntKind.i64 ((Go.IntKind.wrap Go.IntKind.i64 (t472 - p0)) - (1 : Int))) :: ([] : (List Int)))))
    (syllable_between.l6 p0 p1 p2 p3 (Go.IntKind.wrap Go.IntKind.i64 (p4 + (1 : Int))) p5 p6 p7 p8))
   (syllable_between.l6 p0 p1 p2 p3 (Go.IntKind.wrap Go.IntKind.i64 (p4 + (1 : Int))) p5 p6 p7 p8))
  (some (p7, (p8, ()))) := (loopAt_step Go.Proofs.C15.ctx 50 6 _).trans (by kernel_rfl)
theorem cluster_Valid.l4_eq (p0 : (List (Int × (Int × ByteArray)))) (p1 : Int) (p2 : Int) (p3 : (List (Int × (Int × ByteArray)))) (p4 : (List Int)) : cluster_Valid.l4 p0 p1 p2 p3 p4 =
  ifB (decide (p2 < p1))
   (bindD ((ixAt p0 p2)) fun t474 =>
   bindD (sound_Valid.f t474.1 t474.2.1 t474.2.2) fun t475 =>
   ifB (t475.1 != (0 : Int))
    (some (t475.1, ()))
   (bindD (sound_Nucleus.f t474.1 t474.2.1 t474.2.2) fun t476 =>
    ifB t476.1
     (some ((1 : Int), ()))
    (cluster_Valid.l4 p0 p1 (Go.IntKind.wrap Go.IntKind.i64 (p2 + (1 : Int))) p3 p4)))
  (cluster_Valid.l14 (0 : Int) p4 (((List.length p4) : Nat) : Int) (0 : Int) p3 p4) := (loopAt_step Go.Proofs.C15.ctx 55 4 _).trans (by kernel_rfl)
theorem ancepsref15_cluster.l3_eq (p0 : (List (Int × (Int × ByteArray)))) (p1 : (List Int)) (p2 : Int) (p3 : Int) (p4 : Int) (p5 : (List (Int × (Int × ByteArray)))) (p6 : (List Int)) (p7 : (List (Int × (Int × ByteArray)))) (p8 : (List Int)) : ancepsref15_cluster.l3 p0 p1 p2 p3 p4 p5 p6 p7 p8 =
  ifB (decide (p4 < p3))
   (bindD ((ixAt p0 p4)) fun t477 =>
   bindD ((Go.Proofs.R.grow ((List.length p7) + (List.length ((t477.1, (t477.2.1, t477.2.2)) :: ([] : (List (Int × (Int × ByteArray))))))))) fun t478 =>
   ancepsref15_cluster.l3 p0 p1 p2 p3 (Go.IntKind.wrap Go.IntKind.i64 (p4 + (1 : Int))) p5 p6 (p7 ++ ((t477.1, (t477.2.1, t477.2.2)) :: ([] : (List (Int × (Int × ByteArray)))))) p8)
  (ancepsref15_cluster.l7 p1 p2 p3 (0 : Int) p5 p6 p7 p8) := (loopAt_step Go.Proofs.C15.ctx 53 3 _).trans (by kernel_rfl)
theorem ancepsref14_Valid.l4_eq (p0 : Int) (p1 : (List (Int × (Int × ByteArray)))) (p2 : (List Int)) : ancepsref14_Valid.l4 p0 p1 p2 =
  ifB (decide (p0 < (((List.length p1) : Nat) : Int)))
   (bindD ((ixAt p1 p0)) fun t479 =>
   bindD (ancepsref11_Valid.f t479.1 t479.2.1 t479.2.2) fun t480 =>
   ifB (t480.1 != (0 : Int))
    (some (t480.1, ()))
   (bindD ((ixAt p1 p0)) fun t481 =>
    bindD (ancepsref11_Nucleus.f t481.1 t481.2.1 t481.2.2) fun t482 =>
    ifB t482.1
     (some ((1 : Int), ()))
    (ancepsref14_Valid.l4 (Go.IntKind.wrap Go.IntKind.i64 (p0 + (1 : Int))) p1 p2)))
  (ancepsref14_Valid.l12 (0 : Int) p1 p2) := (loopAt_step Go.Proofs.C15.ctx 56 4 _).trans (by kernel_rfl)
theorem slices_Equal_int_int.f_eq (p0 : (List Int)) (p1 : (List Int)) : slices_Equal_int_int.f p0 p1 =
  ifB ((((List.length p0) : Nat) : Int) != (((List.length p1) : Nat) : Int))
   (some (false, ()))
  (slices_Equal_int_int.l4 p0 p1 (((List.length p0) : Nat) : Int) (0 : Int)) := (Einf_call Go.Proofs.C15.ctx 31 _).trans (by kernel_rfl)
theorem ancepsref14_Compare.l2_eq (p0 : Int) (p1 : (List (Int × (Int × ByteArray)))) (p2 : (List Int)) (p3 : (List (Int × (Int × ByteArray)))) (p4 : (List Int)) : ancepsref14_Compare.l2 p0 p1 p2 p3 p4 =
  ifB (decide (p0 < (((List.length p1) : Nat) : Int)))
   (ifB (decide (p0 < (((List.length p3) : Nat) : Int)))
    (bindD ((ixAt p1 p0)) fun t483 =>
    bindD ((ixAt p3 p0)) fun t484 =>
    bindD (ancepsref11_Compare.f t483.1 t483.2.1 t483.2.2 t484.1 t484.2.1 t484.2.2) fun t485 =>
    ifB (t485.1 != (0 : Int))
     (some (t485.1, ()))
    (ancepsref14_Compare.l2 (Go.IntKind.wrap Go.IntKind.i64 (p0 + (1 : Int))) p1 p2 p3 p4))
   (bindD (ancepsref14_order.f (((List.length p1) : Nat) : Int) (((List.length p3) : Nat) : Int)) fun t486 =>
    ifB (t486.1 != (0 : Int))
     (some (t486.1, ()))
    (ancepsref14_Compare.l11 (0 : Int) p1 p2 p3 p4)))
  (bindD (ancepsref14_order.f (((List.length p1) : Nat) : Int) (((List.length p3) : Nat) : Int)) fun t487 =>
   ifB (t487.1 != (0 : Int))
    (some (t487.1, ()))
   (ancepsref14_Compare.l11 (0 : Int) p1 p2 p3 p4)) := (loopAt_step Go.Proofs.C15.ctx 57 2 _).trans (by kernel_rfl)
theorem ancepsref11_split.l3_eq (p0 : ByteArray) (p1 : Int) (p2 : (List ByteArray)) : ancepsref11_split.l3 p0 p1 p2 =
  ifB (decide (p1 < (((ByteArray.size p0) : Nat) : Int)))
   (bindD ((Go.Proofs.R.strAt p0 p1)) fun t488 =>
   ifB (t488 == (32 : Int))
    (bindD ((Go.Proofs.R.grow ((List.length p2) + (List.length ((ByteArray.mk (List.toArray ([] : (List UInt8)))) :: ([] : (List ByteArray))))))) fun t489 =>
    ancepsref11_split.l3 p0 (Go.IntKind.wrap Go.IntKind.i64 (p1 + (1 : Int))) (p2 ++ ((ByteArray.mk (List.toArray ([] : (List UInt8)))) :: ([] : (List ByteArray)))))
   (bindD ((ixAt p2 (Go.IntKind.wrap Go.IntKind.i64 ((((List.length p2) : Nat) : Int) - (1 : Int))))) fun t490 =>
    bindD ((ixAt p2 (Go.IntKind.wrap Go.IntKind.i64 ((((List.length p2) : Nat) : Int) - (1 : Int))))) fun t491 =>
    bindD ((Go.Proofs.R.subS p0 p1 (Go.IntKind.wrap Go.IntKind.i64 (p1 + (1 : Int))))) fun t492 =>
    bindD ((Go.Proofs.R.grow ((ByteArray.size t491) + (ByteArray.size t492)))) fun t493 =>
    bindD ((ixAt p2 (Go.IntKind.wrap Go.IntKind.i64 ((((List.length p2) : Nat) : Int) - (1 : Int))))) fun t494 =>
    bindD ((ixAt p2 (Go.IntKind.wrap Go.IntKind.i64 ((((List.length p2) : Nat) : Int) - (1 : Int))))) fun t495 =>
    ancepsref11_split.l3 p0 (Go.IntKind.wrap Go.IntKind.i64 (p1 + (1 : Int))) (setRow p2 (Go.IntKind.wrap Go.IntKind.i64 ((((List.length p2) : Nat) : Int) - (1 : Int))) (t491 ++ t492))))
  (some (p2, ())) := (loopAt_step Go.Proofs.C15.ctx 58 3 _).trans (by kernel_rfl)
theorem ancepsref11_one.f_eq (p0 : ByteArray) : ancepsref11_one.f p0 =
  ancepsref11_one.l2 p0 (0 : Int) (0 : Int) (0 : Int) (ByteArray.mk (List.toArray ([] : (List UInt8)))) := (Einf_call Go.Proofs.C15.ctx 59 _).trans (by kernel_rfl)
theorem api_Syllable_60.f_eq (p0 : (List (Int × (Int × (Int × (Int × Bool)))))) (p1 : Int) : api_Syllable_60.f p0 p1 =
  api_Syllable_60.l2 p0 p1 (((List.length p0) : Nat) : Int) (0 : Int) := (Einf_call Go.Proofs.C15.ctx 60 _).trans (by kernel_rfl)
theorem slices_Index_int_int.f_eq (p0 : (List Int)) (p1 : Int) : slices_Index_int_int.f p0 p1 =
  slices_Index_int_int.l2 p0 p1 (((List.length p0) : Nat) : Int) (0 : Int) := (Einf_call Go.Proofs.C15.ctx 61 _).trans (by kernel_rfl)
theorem ancepsref15_in.f_eq (p0 : (List Int)) (p1 : Int) : ancepsref15_in.f p0 p1 =
  ancepsref15_in.l2 p0 p1 (0 : Int) := (Einf_call Go.Proofs.C15.ctx 44 _).trans (by kernel_rfl)
theorem sound_Valid.f_eq (p0 : Int) (p1 : Int) (p2 : ByteArray) : sound_Valid.f p0 p1 p2 =
  ifB (decide (p0 < (1 : Int)))
   (some ((1 : Int), ()))
  (ifB (decide (p0 > (9 : Int)))
    (some ((1 : Int), ()))
   (bindD (sound_quantity.f p0 p1 p2) fun t496 =>
    ifB (!t496.1)
     (some ((6 : Int), ()))
    (ifB ((ByteArray.toList p2) == (ByteArray.toList (ByteArray.mk (List.toArray ([] : (List UInt8))))))
      (some ((7 : Int), ()))
     (ifB (decide ((((ByteArray.size p2) : Nat) : Int) > (8 : Int)))
       (some ((3 : Int), ()))
      (bindD (strings_ContainsFunc.f p2) fun t497 =>
       ifB t497.1
        (some ((2 : Int), ()))
       (some ((0 : Int), ()))))))) := (Einf_call Go.Proofs.C15.ctx 64 _).trans (by kernel_rfl)
theorem syllable_valid.l13_eq (p0 : (List (Int × (Int × ByteArray)))) (p1 : (List Int)) (p2 : (List Int)) (p3 : Int) (p4 : Int) : syllable_valid.l13 p0 p1 p2 p3 p4 =
  ifB (decide (p4 < p3))
   (bindD ((ixAt p2 p4)) fun t498 =>
   ifB (decide (t498 < (0 : Int)))
    (some ((6 : Int), ()))
   (ifB (decide (t498 > (((List.length p0) : Nat) : Int)))
     (some ((6 : Int), ()))
    (ifB (decide (p4 > (0 : Int)))
      (bindD ((ixAt p1 (Go.IntKind.wrap Go.IntKind.i64 (p4 - (1 : Int))))) fun t499 =>
      ifB (decide (t499 > t498))
       (some ((18 : Int), ()))
      (syllable_valid.l13 p0 p1 p2 p3 (Go.IntKind.wrap Go.IntKind.i64 (p4 + (1 : Int)))))
     (syllable_valid.l13 p0 p1 p2 p3 (Go.IntKind.wrap Go.IntKind.i64 (p4 + (1 : Int)))))))
  (some ((0 : Int), ())) := (loopAt_step Go.Proofs.C15.ctx 47 13 _).trans (by kernel_rfl)
theorem cluster_class.f_eq (p0 : (List (Int × (Int × ByteArray)))) (p1 : (List Int)) : cluster_class.f p0 p1 =
  bindD (sound_Beats.f p0) fun t500 =>
  ifB (decide (t500.1 ≤ (1 : Int)))
   (some ((1 : Int), ()))
  (bindD (cluster_core.f p0 p1) fun t501 =>
   ifB ((((List.length t501.1) : Nat) : Int) != (2 : Int))
    (some ((4 : Int), ()))
   (bindD ((ixAt t501.1 (0 : Int))) fun t502 =>
    bindD ((ixAt t501.1 (0 : Int))) fun t503 =>
    bindD ((ixAt p0 t503)) fun t504 =>
    ifB (t504.1 != (3 : Int))
     (some ((4 : Int), ()))
    (bindD ((ixAt t501.1 (1 : Int))) fun t505 =>
     bindD ((ixAt t501.1 (1 : Int))) fun t506 =>
     bindD ((ixAt p0 t506)) fun t507 =>
     ifB (t507.1 != (4 : Int))
      (some ((4 : Int), ()))
     (ifB ((((List.length p1) : Nat) : Int) == (0 : Int))
       (some ((2 : Int), ()))
      (bindD ((ixAt p1 (0 : Int))) fun t508 =>
       bindD ((ixAt t501.1 (1 : Int))) fun t509 =>
       bindD ((ixAt t501.1 (1 : Int))) fun t510 =>
       ifB (decide (t508 > t510))
        (some ((2 : Int), ()))
       (bindD ((ixAt p1 (Go.IntKind.wrap Go.IntKind.i64 ((((List.length p1) : Nat) : Int) - (1 : Int))))) fun t511 =>
        bindD ((ixAt t501.1 (0 : Int))) fun t512 =>
        bindD ((ixAt t501.1 (0 : Int))) fun t513 =>
        ifB (decide (t511 ≤ t513))
         (some ((3 : Int), ()))
        (some ((4 : Int), ())))))))) := (Einf_call Go.Proofs.C15.ctx 65 _).trans (by kernel_rfl)
theorem cluster_core.f_eq (p0 : (List (Int × (Int × ByteArray)))) (p1 : (List Int)) : cluster_core.f p0 p1 =
  cluster_core.l3 p0 (((List.length p0) : Nat) : Int) (0 : Int) ([] : (List Int)) := (Einf_call Go.Proofs.C15.ctx 66 _).trans (by kernel_rfl)
theorem ancepsref11_Valid.f_eq (p0 : Int) (p1 : Int) (p2 : ByteArray) : ancepsref11_Valid.f p0 p1 p2 =
  ifB (decide (p0 < (1 : Int)))
   (some ((1 : Int), ()))
  (ifB (decide (p0 > (9 : Int)))
    (some ((1 : Int), ()))
   (ifB (p0 == (1 : Int))
     (ifB (decide (p1 ≥ (1 : Int)))
      (ifB (p0 == (2 : Int))
       (ifB (!(p1 == (2 : Int)))
        (some ((6 : Int), ()))
       (ifB ((ByteArray.toList p2) == (ByteArray.toList (ByteArray.mk (List.toArray ([] : (List UInt8))))))
         (some ((7 : Int), ()))
        (ifB (decide ((((ByteArray.size p2) : Nat) : Int) > (8 : Int)))
          (some ((3 : Int), ()))
         (ancepsref11_Valid.l15 (0 : Int) p0 p1 p2))))
      (ifB (!(decide (p1 ≤ (3 : Int))))
        (some ((6 : Int), ()))
       (ifB ((ByteArray.toList p2) == (ByteArray.toList (ByteArray.mk (List.toArray ([] : (List UInt8))))))
         (some ((7 : Int), ()))
        (ifB (decide ((((ByteArray.size p2) : Nat) : Int) > (8 : Int)))
          (some ((3 : Int), ()))
         (ancepsref11_Valid.l15 (0 : Int) p0 p1 p2)))))
     (ifB (p0 == (2 : Int))
       (ifB (!(p1 == (2 : Int)))
        (some ((6 : Int), ()))
       (ifB ((ByteArray.toList p2) == (ByteArray.toList (ByteArray.mk (List.toArray ([] : (List UInt8))))))
         (some ((7 : Int), ()))
        (ifB (decide ((((ByteArray.size p2) : Nat) : Int) > (8 : Int)))
          (some ((3 : Int), ()))
         (ancepsref11_Valid.l15 (0 : Int) p0 p1 p2))))
      (some ((6 : Int), ()))))
    (ifB (p0 == (2 : Int))
      (ifB (!(p1 == (2 : Int)))
       (some ((6 : Int), ()))
      (ifB ((ByteArray.toList p2) == (ByteArray.toList (ByteArray.mk (List.toArray ([] : (List UInt8))))))
        (some ((7 : Int), ()))
       (ifB (decide ((((ByteArray.size p2) : Nat) : Int) > (8 : Int)))
         (some ((3 : Int), ()))
        (ancepsref11_Valid.l15 (0 : Int) p0 p1 p2))))
     (ifB (!(p1 == (0 : Int)))
       (some ((6 : Int), ()))
      (ifB ((ByteArray.toList p2) == (ByteArray.toList (ByteArray.mk (List.toArray ([] : (List UInt8))))))
        (some ((7 : Int), ()))
       (ifB (decide ((((ByteArray.size p2) : Nat) : Int) > (8 : Int)))
         (some ((3 : Int), ()))
        (ancepsref11_Valid.l15 (0 : Int) p0 p1 p2))))))) := (Einf_call Go.Proofs.C15.ctx 67 _).trans (by kernel_rfl)
theorem ancepsref15_Valid.l12_eq (p0 : (List (Int × (Int × ByteArray)))) (p1 : (List Int)) (p2 : Int) : ancepsref15_Valid.l12 p0 p1 p2 =
  ifB (decide (p2 < (((List.length p1) : Nat) : Int)))
   (bindD ((ixAt p1 p2)) fun t514 =>
   ifB (decide (t514 < (0 : Int)))
    (some ((6 : Int), ()))
   (bindD ((ixAt p1 p2)) fun t515 =>
    ifB (decide (t515 > (((List.length p0) : Nat) : Int)))
     (some ((6 : Int), ()))
    (ifB (decide (p2 > (0 : Int)))
      (bindD ((ixAt p1 p2)) fun t516 =>
      bindD ((ixAt p1 (Go.IntKind.wrap Go.IntKind.i64 (p2 - (1 : Int))))) fun t517 =>
      ifB (decide (t516 < t517))
       (some ((18 : Int), ()))
      (ancepsref15_Valid.l12 p0 p1 (Go.IntKind.wrap Go.IntKind.i64 (p2 + (1 : Int)))))
     (ancepsref15_Valid.l12 p0 p1 (Go.IntKind.wrap Go.IntKind.i64 (p2 + (1 : Int)))))))
  (some ((0 : Int), ())) := (loopAt_step Go.Proofs.C15.ctx 51 12 _).trans (by kernel_rfl)
theorem ancepsref14_class.f_eq (p0 : (List (Int × (Int × ByteArray)))) (p1 : (List Int)) : ancepsref14_class.f p0 p1 =
  bindD (ancepsref11_Beats.f p0) fun t518 =>
  ifB (decide (t518.1 ≤ (1 : Int)))
   (some ((1 : Int), ()))
  (bindD (ancepsref14_core.f p0 p1) fun t519 =>
   ifB ((((List.length t519.1) : Nat) : Int) != (2 : Int))
    (some ((4 : Int), ()))
   (bindD ((ixAt t519.1 (0 : Int))) fun t520 =>
    bindD ((ixAt t519.1 (0 : Int))) fun t521 =>
    bindD ((ixAt p0 t521)) fun t522 =>
    ifB (t522.1 != (3 : Int))
     (some ((4 : Int), ()))
    (bindD ((ixAt t519.1 (1 : Int))) fun t523 =>
     bindD ((ixAt t519.1 (1 : Int))) fun t524 =>
     bindD ((ixAt p0 t524)) fun t525 =>
     ifB (t525.1 != (4 : Int))
      (some ((4 : Int), ()))
     (ancepsref14_class.l8 true (decide ((((List.length p1) : Nat) : Int) > (0 : Int))) (0 : Int) p0 p1 t519.1)))) := (Einf_call Go.Proofs.C15.ctx 68 _).trans (by kernel_rfl)
theorem ancepsref14_core.f_eq (p0 : (List (Int × (Int × ByteArray)))) (p1 : (List Int)) : ancepsref14_core.f p0 p1 =
  ancepsref14_core.l3 (0 : Int) p0 p1 ([] : (List Int)) := (Einf_call Go.Proofs.C15.ctx 69 _).trans (by kernel_rfl)
theorem ancepsref11_Made.f_eq (p0 : Int) : ancepsref11_Made.f p0 =
  bindD ((ixAt (((1 : Int), ((3 : Int), (ByteArray.mk (List.toArray ((97 : UInt8) :: ([] : (List UInt8))))))) :: (((1 : Int), ((1 : Int), (ByteArray.mk (List.toArray ((101 : UInt8) :: ([] : (List UInt8))))))) :: (((1 : Int), ((2 : Int), (ByteArray.mk (List.toArray ((111 : UInt8) :: ([] : (List UInt8))))))) :: (((1 : Int), ((3 : Int), (ByteArray.mk (List.toArray ((105 : UInt8) :: ([] : (List UInt8))))))) :: (((2 : Int), ((2 : Int), (ByteArray.mk (List.toArray ((97 : UInt8) :: ((101 : UInt8) :: ([] : (List UInt8)))))))) :: (((3 : Int), ((0 : Int), (ByteArray.mk (List.toArray ((116 : UInt8) :: ([] : (List UInt8))))))) :: (((3 : Int), ((0 : Int), (ByteArray.mk (List.toArray ((98 : UInt8) :: ([] : (List UInt8))))))) :: (((4 : Int), ((0 : Int), (ByteArray.mk (List.toArray ((114 : UInt8) :: ([] : (List UInt8))))))) :: (((4 : Int), ((0 : Int), (ByteArray.mk (List.toArray ((108 : UInt8) :: ([] : (List UInt8))))))) :: (((5 : Int), ((0 : Int), (ByteArray.mk (List.toArray ((109 : UInt8) :: ([] : (List UInt8))))))) :: (((5 : Int), ((0 : Int), (ByteArray.mk (List.toArray ((110 : UInt8) :: ([] : (List UInt8))))))) :: (((6 : Int), ((0 : Int), (ByteArray.mk (List.toArray ((115 : UInt8) :: ([] : (List UInt8))))))) :: (((7 : Int), ((0 : Int), (ByteArray.mk (List.toArray ((120 : UInt8) :: ([] : (List UInt8))))))) :: (((8 : Int), ((0 : Int), (ByteArray.mk (List.toArray ((118 : UInt8) :: ([] : (List UInt8))))))) :: (((9 : Int), ((0 : Int), (ByteArray.mk (List.toArray ((104 : UInt8) :: ([] : (List UInt8))))))) :: (((1 : Int), ((3 : Int), (ByteArray.mk (List.toArray ((117 : UInt8) :: ([] : (List UInt8))))))) :: ([] : (List (Int × (Int × ByteArray)))))))))))))))))))) (Int.tmod (Go.IntKind.wrap Go.IntKind.i64 p0) (((List.length (((1 : Int), ((3 : Int), (ByteArray.mk (List.toArray ((97 : UInt8) :: ([] : (List UInt8))))))) :: (((1 : Int), ((1 : Int), (ByteArray.mk (List.toArray ((101 : UInt8) :: ([] : (List UInt8))))))) :: (((1 : Int), ((2 : Int), (ByteArray.mk (List.toArray ((111 : UInt8) :: ([] : (List UInt8))))))) :: (((1 : Int), ((3 : Int), (ByteArray.mk (List.toArray ((105 : UInt8) :: ([] : (List UInt8))))))) :: (((2 : Int), ((2 : Int), (ByteArray.mk (List.toArray ((97 : UInt8) :: ((101 : UInt8) :: ([] : (List UInt8)))))))) :: (((3 : Int), ((0 : Int), (ByteArray.mk (List.toArray ((116 : UInt8) :: ([] : (List UInt8))))))) :: (((3 : Int), ((0 : Int), (ByteArray.mk (List.toArray ((98 : UInt8) :: ([] : (List UInt8))))))) :: (((4 : Int), ((0 : Int), (ByteArray.mk (List.toArray ((114 : UInt8) :: ([] : (List UInt8))))))) :: (((4 : Int), ((0 : Int), (ByteArray.mk (List.toArray ((108 : UInt8) :: ([] : (List UInt8))))))) :: (((5 : Int), ((0 : Int), (ByteArray.mk (List.toArray ((109 : UInt8) :: ([] : (List UInt8))))))) :: (((5 : Int), ((0 : Int), (ByteArray.mk (List.toArray ((110 : UInt8) :: ([] : (List UInt8))))))) :: (((6 : Int), ((0 : Int), (ByteArray.mk (List.toArray ((115 : UInt8) :: ([] : (List UInt8))))))) :: (((7 : Int), ((0 : Int), (ByteArray.mk (List.toArray ((120 : UInt8) :: ([] : (List UInt8))))))) :: (((8 : Int), ((0 : Int), (ByteArray.mk (List.toArray ((118 : UInt8) :: ([] : (List UInt8))))))) :: (((9 : Int), ((0 : Int), (ByteArray.mk (List.toArray ((104 : UInt8) :: ([] : (List UInt8))))))) :: (((1 : Int), ((3 : Int), (ByteArray.mk (List.toArray ((117 : UInt8) :: ([] : (List UInt8))))))) :: ([] : (List (Int × (Int × ByteArray))))))))))))))))))))) : Nat) : Int)))) fun t526 =>
  bindD ((ixAt (((1 : Int), ((3 : Int), (ByteArray.mk (List.toArray ((97 : UInt8) :: ([] : (List UInt8))))))) :: (((1 : Int), ((1 : Int), (ByteArray.mk (List.toArray ((101 : UInt8) :: ([] : (List UInt8))))))) :: (((1 : Int), ((2 : Int), (ByteArray.mk (List.toArray ((111 : UInt8) :: ([] : (List UInt8))))))) :: (((1 : Int), ((3 : Int), (ByteArray.mk (List.toArray ((105 : UInt8) :: ([] : (List UInt8))))))) :: (((2 : Int), ((2 : Int), (ByteArray.mk (List.toArray ((97 : UInt8) :: ((101 : UInt8) :: ([] : (List UInt8)))))))) :: (((3 : Int), ((0 : Int), (ByteArray.mk (List.toArray ((116 : UInt8) :: ([] : (List UInt8))))))) :: (((3 : Int), ((0 : Int), (ByteArray.mk (List.toArray ((98 : UInt8) :: ([] : (List UInt8))))))) :: (((4 : Int), ((0 : Int), (ByteArray.mk (List.toArray ((114 : UInt8) :: ([] : (List UInt8))))))) :: (((4 : Int), ((0 : Int), (ByteArray.mk (List.toArray ((108 : UInt8) :: ([] : (List UInt8))))))) :: (((5 : Int), ((0 : Int), (ByteArray.mk (List.toArray ((109 : UInt8) :: ([] : (List UInt8))))))) :: (((5 : Int), ((0 : Int), (ByteArray.mk (List.toArray ((110 : UInt8) :: ([] : (List UInt8))))))) :: (((6 : Int), ((0 : Int), (ByteArray.mk (List.toArray ((115 : UInt8) :: ([] : (List UInt8))))))) :: (((7 : Int), ((0 : Int), (ByteArray.mk (List.toArray ((120 : UInt8) :: ([] : (List UInt8))))))) :: (((8 : Int), ((0 : Int), (ByteArray.mk (List.toArray ((118 : UInt8) :: ([] : (List UInt8))))))) :: (((9 : Int), ((0 : Int), (ByteArray.mk (List.toArray ((104 : UInt8) :: ([] : (List UInt8))))))) :: (((1 : Int), ((3 : Int), (ByteArray.mk (List.toArray ((117 : UInt8) :: ([] : (List UInt8))))))) :: ([] : (List (Int × (Int × ByteArray)))))))))))))))))))) (Int.tmod (Go.IntKind.wrap Go.IntKind.i64 p0) (((List.length (((1 : Int), ((3 : Int), (ByteArray.mk (List.toArray ((97 : UInt8) :: ([] : (List UInt8))))))) :: (((1 : Int), ((1 : Int), (ByteArray.mk (List.toArray ((101 : UInt8) :: ([] : (List UInt8))))))) :: (((1 : Int), ((2 : Int), (ByteArray.mk (List.toArray ((111 : UInt8) :: ([] : (List UInt8))))))) :: (((1 : Int), ((3 : Int), (ByteArray.mk (List.toArray ((105 : UInt8) :: ([] : (List UInt8))))))) :: (((2 : Int), ((2 : Int), (ByteArray.mk (List.toArray ((97 : UInt8) :: ((101 : UInt8) :: ([] : (List UInt8)))))))) :: (((3 : Int), ((0 : Int), (ByteArray.mk (List.toArray ((116 : UInt8) :: ([] : (List UInt8))))))) :: (((3 : Int), ((0 : Int), (ByteArray.mk (List.toArray ((98 : UInt8) :: ([] : (List UInt8))))))) :: (((4 : Int), ((0 : Int), (ByteArray.mk (List.toArray ((114 : UInt8) :: ([] : (List UInt8))))))) :: (((4 : Int), ((0 : Int), (ByteArray.mk (List.toArray ((108 : UInt8) :: ([] : (List UInt8))))))) :: (((5 : Int), ((0 : Int), (ByteArray.mk (List.toArray ((109 : UInt8) :: ([] : (List UInt8))))))) :: (((5 : Int), ((0 : Int), (ByteArray.mk (List.toArray ((110 : UInt8) :: ([] : (List UInt8))))))) :: (((6 : Int), ((0 : Int), (ByteArray.mk (List.toArray ((115 : UInt8) :: ([] : (List UInt8))))))) :: (((7 : Int), ((0 : Int), (ByteArray.mk (List.toArray ((120 : UInt8) :: ([] : (List UInt8))))))) :: (((8 : Int), ((0 : Int), (ByteArray.mk (List.toArray ((118 : UInt8) :: ([] : (List UInt8))))))) :: (((9 : Int), ((0 : Int), (ByteArray.mk (List.toArray ((104 : UInt8) :: ([] : (List UInt8))))))) :: (((1 : Int), ((3 : Int), (ByteArray.mk (List.toArray ((117 : UInt8) :: ([] : (List UInt8))))))) :: ([] : (List (Int × (Int × ByteArray))))))))))))))))))))) : Nat) : Int)))) fun t527 =>
  some (t527.1, (t527.2.1, (t527.2.2, ()))) := (Einf_call Go.Proofs.C15.ctx 63 _).trans (by kernel_rfl)
theorem cluster_Valid.l14_eq (p0 : Int) (p1 : (List Int)) (p2 : Int) (p3 : Int) (p4 : (List (Int × (Int × ByteArray)))) (p5 : (List Int)) : cluster_Valid.l14 p0 p1 p2 p3 p4 p5 =
  ifB (decide (p3 < p2))
   (bindD ((ixAt p1 p3)) fun t528 =>
   ifB (decide (t528 < (0 : Int)))
    (some ((6 : Int), ()))
   (ifB (decide (t528 > (((List.length p4) : Nat) : Int)))
     (some ((6 : Int), ()))
    (ifB (decide (t528 < p0))
      (some ((18 : Int), ()))
     (cluster_Valid.l14 t528 p1 p2 (Go.IntKind.wrap Go.IntKind.i64 (p3 + (1 : Int))) p4 p5))))
  (some ((0 : Int), ())) := (loopAt_step Go.Proofs.C15.ctx 55 14 _).trans (by kernel_rfl)
theorem ancepsref15_cluster.l7_eq (p0 : (List Int)) (p1 : Int) (p2 : Int) (p3 : Int) (p4 : (List (Int × (Int × ByteArray)))) (p5 : (List Int)) (p6 : (List (Int × (Int × ByteArray)))) (p7 : (List Int)) : ancepsref15_cluster.l7 p0 p1 p2 p3 p4 p5 p6 p7 =
  ifB (decide (p3 < (((List.length p0) : Nat) : Int)))
   (bindD ((ixAt p0 p3)) fun t529 =>
   ifB (decide (t529 > p1))
    (bindD ((ixAt p0 p3)) fun t530 =>
    ifB (decide (t530 ≤ p2))
     (bindD ((ixAt p0 p3)) fun t531 =>
     bindD ((Go.Proofs.R.grow ((List.length p7) + (List.length ((Go.IntKind.wrap Go.IntKind.i64 ((Go.IntKind.wrap Go.IntKind.i64 (t531 - p1)) - (1 : Int))) :: ([] : (List Int))))))) fun t532 =>
     ancepsref15_cluster.l7 p0 p1 p2 (Go.IntKind.wrap Go.IntKind.i64 (p3 + (1 : Int))) p4 p5 p6 (p7 ++ ((Go.IntKind.wrap Go.IntKind.i64 ((Go.IntKind.wrap Go.IntKind.i64 (t531 - p1)) - (1 : Int))) :: ([] : (List Int)))))
    (ancepsref15_cluster.l7 p0 p1 p2 (Go.IntKind.wrap Go.IntKind.i64 (p3 + (1 : Int))) p4 p5 p6 p7))
   (ancepsref15_cluster.l7 p0 p1 p2 (Go.IntKind.wrap Go.IntKind.i64 (p3 + (1 : Int))) p4 p5 p6 p7))
  (some (p6, (p7, ()))) := (loopAt_step Go.Proofs.C15.ctx 53 7 _).trans (by kernel_rfl)
theorem ancepsref14_Valid.l12_eq (p0 : Int) (p1 : (List (Int × (Int × ByteArray)))) (p2 : (List Int)) : ancepsref14_Valid.l12 p0 p1 p2 =
  ifB (decide (p0 < (((List.length p2) : Nat) : Int)))
   (bindD ((ixAt p2 p0)) fun t533 =>
   ifB (decide (t533 < (0 : Int)))
    (some ((6 : Int), ()))
   (bindD ((ixAt p2 p0)) fun t534 =>
    ifB (decide (t534 > (((List.length p1) : Nat) : Int)))
     (some ((6 : Int), ()))
    (ifB (decide (p0 > (0 : Int)))
      (bindD ((ixAt p2 p0)) fun t535 =>
      bindD ((ixAt p2 (Go.IntKind.wrap Go.IntKind.i64 (p0 - (1 : Int))))) fun t536 =>
      ifB (decide (t535 < t536))
       (some ((18 : Int), ()))
      (ancepsref14_Valid.l12 (Go.IntKind.wrap Go.IntKind.i64 (p0 + (1 : Int))) p1 p2))
     (ancepsref14_Valid.l12 (Go.IntKind.wrap Go.IntKind.i64 (p0 + (1 : Int))) p1 p2))))
  (some ((0 : Int), ())) := (loopAt_step Go.Proofs.C15.ctx 56 12 _).trans (by kernel_rfl)
theorem slices_Equal_int_int.l4_eq (p0 : (List Int)) (p1 : (List Int)) (p2 : Int) (p3 : Int) : slices_Equal_int_int.l4 p0 p1 p2 p3 =
  ifB (decide (p3 < p2))
   (bindD ((ixAt p0 p3)) fun t537 =>
   bindD ((ixAt p1 p3)) fun t538 =>
   ifB (t537 != t538)
    (some (false, ()))
   (slices_Equal_int_int.l4 p0 p1 p2 (Go.IntKind.wrap Go.IntKind.i64 (p3 + (1 : Int)))))
  (some (true, ())) := (loopAt_step Go.Proofs.C15.ctx 31 4 _).trans (by kernel_rfl)
theorem ancepsref11_Compare.f_eq (p0 : Int) (p1 : Int) (p2 : ByteArray) (p3 : Int) (p4 : Int) (p5 : ByteArray) : ancepsref11_Compare.f p0 p1 p2 p3 p4 p5 =
  bindD (ancepsref11_order.f p0 p3) fun t539 =>
  ifB (t539.1 != (0 : Int))
   (some (t539.1, ()))
  (bindD (ancepsref11_order.f p1 p4) fun t540 =>
   ifB (t540.1 != (0 : Int))
    (some (t540.1, ()))
   (ifB (Go.Op.bytesLess (ByteArray.toList p2) (ByteArray.toList p5))
     (some ((-(1 : Int)), ()))
    (ifB (!((Go.Op.bytesLess (ByteArray.toList p2) (ByteArray.toList p5)) || ((ByteArray.toList p2) == (ByteArray.toList p5))))
      (some ((1 : Int), ()))
     (some ((0 : Int), ()))))) := (Einf_call Go.Proofs.C15.ctx 70 _).trans (by kernel_rfl)
theorem ancepsref14_order.f_eq (p0 : Int) (p1 : Int) : ancepsref14_order.f p0 p1 =
  ifB (decide (p0 < p1))
   (some ((-(1 : Int)), ()))
  (ifB (decide (p0 > p1))
    (some ((1 : Int), ()))
   (some ((0 : Int), ()))) := (Einf_call Go.Proofs.C15.ctx 71 _).trans (by kernel_rfl)
theorem ancepsref14_Compare.l11_eq (p0 : Int) (p1 : (List (Int × (Int × ByteArray)))) (p2 : (List Int)) (p3 : (List (Int × (Int × ByteArray)))) (p4 : (List Int)) : ancepsref14_Compare.l11 p0 p1 p2 p3 p4 =
  ifB (decide (p0 < (((List.length p2) : Nat) : Int)))
   (ifB (decide (p0 < (((List.length p4) : Nat) : Int)))
    (bindD ((ixAt p2 p0)) fun t541 =>
    bindD ((ixAt p4 p0)) fun t542 =>
    bindD (ancepsref14_order.f t541 t542) fun t543 =>
    ifB (t543.1 != (0 : Int))
     (some (t543.1, ()))
    (ancepsref14_Compare.l11 (Go.IntKind.wrap Go.IntKind.i64 (p0 + (1 : Int))) p1 p2 p3 p4))
   (bindD (ancepsref14_order.f (((List.length p2) : Nat) : Int) (((List.length p4) : Nat) : Int)) fun t544 =>
    some (t544.1, ())))
  (bindD (ancepsref14_order.f (((List.length p2) : Nat) : Int) (((List.length p4) : Nat) : Int)) fun t545 =>
   some (t545.1, ())) := (loopAt_step Go.Proofs.C15.ctx 57 11 _).trans (by kernel_rfl)
theorem ancepsref11_one.l2_eq (p0 : ByteArray) (p1 : Int) (p2 : Int) (p3 : Int) (p4 : ByteArray) : ancepsref11_one.l2 p0 p1 p2 p3 p4 =
  ifB (decide (p1 < (((ByteArray.size p0) : Nat) : Int)))
   (bindD ((Go.Proofs.R.strAt p0 p1)) fun t546 =>
   ifB (t546 != (47 : Int))
    (ancepsref11_one.l2 p0 (Go.IntKind.wrap Go.IntKind.i64 (p1 + (1 : Int))) p2 p3 p4)
   (ifB (decide (p1 < (((ByteArray.size p0) : Nat) : Int)))
     (bindD ((Go.Proofs.R.subS p0 (Go.IntKind.wrap Go.IntKind.i64 (p1 + (1 : Int))) (((ByteArray.size p0) : Nat) : Int))) fun t547 =>
     ifB ((ByteArray.toList t547) == (ByteArray.toList (ByteArray.mk (List.toArray ([] : (List UInt8))))))
      (some ((0 : Int), ((0 : Int), ((ByteArray.mk (List.toArray ([] : (List UInt8)))), (false, ())))))
     (bindD ((Go.Proofs.R.subS p0 (0 : Int) p1)) fun t548 =>
      ancepsref11_one.l11 t547 (1 : Int) p2 p3 p4 (0 : Int) (0 : Int) t548))
    (some ((0 : Int), ((0 : Int), ((ByteArray.mk (List.toArray ([] : (List UInt8)))), (false, ())))))))
  (ifB (decide (p1 < (((ByteArray.size p0) : Nat) : Int)))
    (bindD ((Go.Proofs.R.subS p0 (Go.IntKind.wrap Go.IntKind.i64 (p1 + (1 : Int))) (((ByteArray.size p0) : Nat) : Int))) fun t549 =>
    ifB ((ByteArray.toList t549) == (ByteArray.toList (ByteArray.mk (List.toArray ([] : (List UInt8))))))
     (some ((0 : Int), ((0 : Int), ((ByteArray.mk (List.toArray ([] : (List UInt8)))), (false, ())))))
    (bindD ((Go.Proofs.R.subS p0 (0 : Int) p1)) fun t550 =>
     ancepsref11_one.l11 t549 (1 : Int) p2 p3 p4 (0 : Int) (0 : Int) t550))
   (some ((0 : Int), ((0 : Int), ((ByteArray.mk (List.toArray ([] : (List UInt8)))), (false, ())))))) := (loopAt_step Go.Proofs.C15.ctx 59 2 _).trans (by kernel_rfl)
theorem api_Syllable_60.l2_eq (p0 : (List (Int × (Int × (Int × (Int × Bool)))))) (p1 : Int) (p2 : Int) (p3 : Int) : api_Syllable_60.l2 p0 p1 p2 p3 =
  ifB (decide (p3 < p2))
   (bindD ((ixAt p0 p3)) fun t551 =>
   bindD (syllable_Text_1.f t551.1 t551.2.1 t551.2.2.1 t551.2.2.2.1 t551.2.2.2.2 p1) fun t552 =>
   ifB t552.1
    (some (p3, ()))
   (api_Syllable_60.l2 p0 p1 p2 (Go.IntKind.wrap Go.IntKind.i64 (p3 + (1 : Int)))))
  (some ((-(1 : Int)), ())) := (loopAt_step Go.Proofs.C15.ctx 60 2 _).trans (by kernel_rfl)
theorem slices_Index_int_int.l2_eq (p0 : (List Int)) (p1 : Int) (p2 : Int) (p3 : Int) : slices_Index_int_int.l2 p0 p1 p2 p3 =
  ifB (decide (p3 < p2))
   (bindD ((ixAt p0 p3)) fun t553 =>
   ifB (p1 == t553)
    (some (p3, ()))
   (slices_Index_int_int.l2 p0 p1 p2 (Go.IntKind.wrap Go.IntKind.i64 (p3 + (1 : Int)))))
  (some ((-(1 : Int)), ())) := (loopAt_step Go.Proofs.C15.ctx 61 2 _).trans (by kernel_rfl)
theorem ancepsref15_in.l2_eq (p0 : (List Int)) (p1 : Int) (p2 : Int) : ancepsref15_in.l2 p0 p1 p2 =
  ifB (decide (p2 < (((List.length p0) : Nat) : Int)))
   (bindD ((ixAt p0 p2)) fun t554 =>
   ifB (t554 == p1)
    (some (true, ()))
   (ancepsref15_in.l2 p0 p1 (Go.IntKind.wrap Go.IntKind.i64 (p2 + (1 : Int)))))
  (some (false, ())) := (loopAt_step Go.Proofs.C15.ctx 44 2 _).trans (by kernel_rfl)
theorem sound_quantity.f_eq (p0 : Int) (p1 : Int) (p2 : ByteArray) : sound_quantity.f p0 p1 p2 =
  ifB (p0 == (1 : Int))
   (ifB (decide (p1 ≥ (1 : Int)))
    (some ((decide (p1 ≤ (3 : Int))), ()))
   (some (false, ())))
  (ifB (p0 == (2 : Int))
    (some ((p1 == (2 : Int)), ()))
   (some ((p1 == (0 : Int)), ()))) := (Einf_call Go.Proofs.C15.ctx 74 _).trans (by kernel_rfl)
theorem strings_ContainsFunc.f_eq (p0 : ByteArray) : strings_ContainsFunc.f p0 =
  bindD (strings_IndexFunc.f p0) fun t555 =>
  some ((decide (t555.1 ≥ (0 : Int))), ()) := (Einf_call Go.Proofs.C15.ctx 75 _).trans (by kernel_rfl)
theorem sound_Beats.f_eq (p0 : (List (Int × (Int × ByteArray)))) : sound_Beats.f p0 =
  sound_Beats.l3 (0 : Int) p0 (((List.length p0) : Nat) : Int) (0 : Int) := (Einf_call Go.Proofs.C15.ctx 78 _).trans (by kernel_rfl)
theorem cluster_core.l3_eq (p0 : (List (Int × (Int × ByteArray)))) (p1 : Int) (p2 : Int) (p3 : (List Int)) : cluster_core.l3 p0 p1 p2 p3 =
  ifB (decide (p2 < p1))
   (bindD ((ixAt p0 p2)) fun t556 =>
   ifB (t556.1 != (9 : Int))
    (bindD ((Go.Proofs.R.grow ((List.length p3) + (List.length (p2 :: ([] : (List Int))))))) fun t557 =>
    cluster_core.l3 p0 p1 (Go.IntKind.wrap Go.IntKind.i64 (p2 + (1 : Int))) (p3 ++ (p2 :: ([] : (List Int)))))
   (cluster_core.l3 p0 p1 (Go.IntKind.wrap Go.IntKind.i64 (p2 + (1 : Int))) p3))
  (some (p3, ())) := (loopAt_step Go.Proofs.C15.ctx 66 3 _).trans (by kernel_rfl)
theorem ancepsref11_Valid.l15_eq (p0 : Int) (p1 : Int) (p2 : Int) (p3 : ByteArray) : ancepsref11_Valid.l15 p0 p1 p2 p3 =
  ifB (decide (p0 < (((ByteArray.size p3) : Nat) : Int)))
   (bindD ((Go.Proofs.R.strAt p3 p0)) fun t558 =>
   bindD (ancepsref11_letter.f t558) fun t559 =>
   ifB (!t559.1)
    (some ((2 : Int), ()))
   (ancepsref11_Valid.l15 (Go.IntKind.wrap Go.IntKind.i64 (p0 + (1 : Int))) p1 p2 p3))
  (some ((0 : Int), ())) := (loopAt_step Go.Proofs.C15.ctx 67 15 _).trans (by kernel_rfl)
theorem ancepsref11_Beats.f_eq (p0 : (List (Int × (Int × ByteArray)))) : ancepsref11_Beats.f p0 =
  ancepsref11_Beats.l3 p0 (0 : Int) (0 : Int) := (Einf_call Go.Proofs.C15.ctx 80 _).trans (by kernel_rfl)
theorem ancepsref14_class.l8_eq (p0 : Bool) (p1 : Bool) (p2 : Int) (p3 : (List (Int × (Int × ByteArray)))) (p4 : (List Int)) (p5 : (List Int)) : ancepsref14_class.l8 p0 p1 p2 p3 p4 p5 =
  ifB (decide (p2 < (((List.length p4) : Nat) : Int)))
   (ifB p0
    (bindD ((ixAt p4 p2)) fun t560 =>
    bindD ((ixAt p5 (1 : Int))) fun t561 =>
    bindD ((ixAt p5 (1 : Int))) fun t562 =>
    ifB p1
     (bindD ((ixAt p4 p2)) fun t563 =>
     bindD ((ixAt p5 (0 : Int))) fun t564 =>
     bindD ((ixAt p5 (0 : Int))) fun t565 =>
     ancepsref14_class.l8 (decide (t560 > t562)) (decide (t563 ≤ t565)) (Go.IntKind.wrap Go.IntKind.i64 (p2 + (1 : Int))) p3 p4 p5)
    (ancepsref14_class.l8 (decide (t560 > t562)) false (Go.IntKind.wrap Go.IntKind.i64 (p2 + (1 : Int))) p3 p4 p5))
   (ifB p1
     (bindD ((ixAt p4 p2)) fun t566 =>
     bindD ((ixAt p5 (0 : Int))) fun t567 =>
     bindD ((ixAt p5 (0 : Int))) fun t568 =>
     ancepsref14_class.l8 false (decide (t566 ≤ t568)) (Go.IntKind.wrap Go.IntKind.i64 (p2 + (1 : Int))) p3 p4 p5)
    (ancepsref14_class.l8 false false (Go.IntKind.wrap Go.IntKind.i64 (p2 + (1 : Int))) p3 p4 p5)))
  (ifB p0
    (some ((2 : Int), ()))
   (ifB p1
     (some ((3 : Int), ()))
    (some ((4 : Int), ())))) := (loopAt_step Go.Proofs.C15.ctx 68 8 _).trans (by kernel_rfl)
theorem ancepsref14_core.l3_eq (p0 : Int) (p1 : (List (Int × (Int × ByteArray)))) (p2 : (List Int)) (p3 : (List Int)) : ancepsref14_core.l3 p0 p1 p2 p3 =
  ifB (decide (p0 < (((List.length p1) : Nat) : Int)))
   (bindD ((ixAt p1 p0)) fun t569 =>
   ifB (t569.1 != (9 : Int))
    (bindD ((Go.Proofs.R.grow ((List.length p3) + (List.length (p0 :: ([] : (List Int))))))) fun t570 =>
    ancepsref14_core.l3 (Go.IntKind.wrap Go.IntKind.i64 (p0 + (1 : Int))) p1 p2 (p3 ++ (p0 :: ([] : (List Int)))))
   (ancepsref14_core.l3 (Go.IntKind.wrap Go.IntKind.i64 (p0 + (1 : Int))) p1 p2 p3))
  (some (p3, ())) := (loopAt_step Go.Proofs.C15.ctx 69 3 _).trans (by kernel_rfl)
theorem ancepsref11_order.f_eq (p0 : Int) (p1 : Int) : ancepsref11_order.f p0 p1 =
  ifB (decide (p0 < p1))
   (some ((-(1 : Int)), ()))
  (ifB (decide (p0 > p1))
    (some ((1 : Int), ()))
   (some ((0 : Int), ()))) := (Einf_call Go.Proofs.C15.ctx 81 _).trans (by kernel_rfl)
theorem ancepsref11_one.l11_eq (p0 : ByteArray) (p1 : Int) (p2 : Int) (p3 : Int) (p4 : ByteArray) (p5 : Int) (p6 : Int) (p7 : ByteArray) : ancepsref11_one.l11 p0 p1 p2 p3 p4 p5 p6 p7 =
  bindD (ancepsref11_letters.f) fun t571 =>
  ifB (decide (p1 < (((ByteArray.size t571.1) : Nat) : Int)))
   (bindD (ancepsref11_letters.f) fun t572 =>
   bindD ((Go.Proofs.R.strAt t572.1 p1)) fun t573 =>
   bindD ((Go.Proofs.R.strAt p0 (0 : Int))) fun t574 =>
   ifB (t573 == t574)
    (ancepsref11_one.l11 p0 (Go.IntKind.wrap Go.IntKind.i64 (p1 + (1 : Int))) p2 p3 p4 p1 p6 p7)
   (ancepsref11_one.l11 p0 (Go.IntKind.wrap Go.IntKind.i64 (p1 + (1 : Int))) p2 p3 p4 p5 p6 p7))
  (bindD ((Go.Proofs.R.subS p0 (1 : Int) (((ByteArray.size p0) : Nat) : Int))) fun t575 =>
   bindD (ancepsref11_Nucleus.f p5 p6 p7) fun t576 =>
   ifB t576.1
    (ifB ((((ByteArray.size t575) : Nat) : Int) == (1 : Int))
     (bindD ((Go.Proofs.R.strAt t575 (0 : Int))) fun t577 =>
     ifB (decide (t577 ≥ (49 : Int)))
      (bindD ((Go.Proofs.R.strAt t575 (0 : Int))) fun t578 =>
      ifB (decide (t578 ≤ (51 : Int)))
       (bindD ((Go.Proofs.R.strAt t575 (0 : Int))) fun t579 =>
       bindD (ancepsref11_Valid.f p5 (Go.IntKind.wrap Go.IntKind.i64 ((Go.IntKind.wrap Go.IntKind.i64 t579) - (48 : Int))) p7) fun t580 =>
       some (p5, ((Go.IntKind.wrap Go.IntKind.i64 ((Go.IntKind.wrap Go.IntKind.i64 t579) - (48 : Int))), (p7, ((t580.1 == (0 : Int)), ())))))
      (ifB ((ByteArray.toList t575) == (ByteArray.toList (ByteArray.mk (List.toArray ([] : (List UInt8))))))
        (bindD (ancepsref11_Valid.f p5 p6 p7) fun t581 =>
        some (p5, (p6, (p7, ((t581.1 == (0 : Int)), ())))))
       (some (p5, (p6, (p7, (false, ())))))))
     (ifB ((ByteArray.toList t575) == (ByteArray.toList (ByteArray.mk (List.toArray ([] : (List UInt8))))))
       (bindD (ancepsref11_Valid.f p5 p6 p7) fun t582 =>
       some (p5, (p6, (p7, ((t582.1 == (0 : Int)), ())))))
      (some (p5, (p6, (p7, (false, ())))))))
    (ifB ((ByteArray.toList t575) == (ByteArray.toList (ByteArray.mk (List.toArray ([] : (List UInt8))))))
      (bindD (ancepsref11_Valid.f p5 p6 p7) fun t583 =>
      some (p5, (p6, (p7, ((t583.1 == (0 : Int)), ())))))
     (some (p5, (p6, (p7, (false, ())))))))
   (ifB ((ByteArray.toList t575) == (ByteArray.toList (ByteArray.mk (List.toArray ([] : (List UInt8))))))
     (bindD (ancepsref11_Valid.f p5 p6 p7) fun t584 =>
     some (p5, (p6, (p7, ((t584.1 == (0 : Int)), ())))))
    (some (p5, (p6, (p7, (false, ()))))))) := (loopAt_step Go.Proofs.C15.ctx 59 11 _).trans (by kernel_rfl)
theorem syllable_Text_1.f_eq (p0 : Int) (p1 : Int) (p2 : Int) (p3 : Int) (p4 : Bool) (p5 : Int) : syllable_Text_1.f p0 p1 p2 p3 p4 p5 =
  some ((p1 == p5), ()) := (Einf_call Go.Proofs.C15.ctx 39 _).trans (by kernel_rfl)
theorem strings_IndexFunc.f_eq (p0 : ByteArray) : strings_IndexFunc.f p0 =
  bindD (strings_indexFunc.f p0 true) fun t585 =>
  some (t585.1, ()) := (Einf_call Go.Proofs.C15.ctx 82 _).trans (by kernel_rfl)
theorem sound_Beats.l3_eq (p0 : Int) (p1 : (List (Int × (Int × ByteArray)))) (p2 : Int) (p3 : Int) : sound_Beats.l3 p0 p1 p2 p3 =
  ifB (decide (p3 < p2))
   (bindD ((ixAt p1 p3)) fun t586 =>
   bindD (sound_beats.f t586.1 t586.2.1 t586.2.2) fun t587 =>
   sound_Beats.l3 (Go.IntKind.wrap Go.IntKind.i64 (p0 + t587.1)) p1 p2 (Go.IntKind.wrap Go.IntKind.i64 (p3 + (1 : Int))))
  (some (p0, ())) := (loopAt_step Go.Proofs.C15.ctx 78 3 _).trans (by kernel_rfl)
theorem ancepsref11_letter.f_eq (p0 : Int) : ancepsref11_letter.f p0 =
  ifB (decide (p0 ≥ (97 : Int)))
   (ifB (decide (p0 ≤ (122 : Int)))
    (some (true, ()))
   (ifB (decide (p0 ≥ (48 : Int)))
     (ifB (decide (p0 ≤ (57 : Int)))
      (some (true, ()))
     (ifB (p0 == (95 : Int))
       (some (true, ()))
      (ifB (p0 == (94 : Int))
        (some (true, ()))
       (some ((p0 == (39 : Int)), ())))))
    (ifB (p0 == (95 : Int))
      (some (true, ()))
     (ifB (p0 == (94 : Int))
       (some (true, ()))
      (some ((p0 == (39 : Int)), ()))))))
  (ifB (decide (p0 ≥ (48 : Int)))
    (ifB (decide (p0 ≤ (57 : Int)))
     (some (true, ()))
    (ifB (p0 == (95 : Int))
      (some (true, ()))
     (ifB (p0 == (94 : Int))
       (some (true, ()))
      (some ((p0 == (39 : Int)), ())))))
   (ifB (p0 == (95 : Int))
     (some (true, ()))
    (ifB (p0 == (94 : Int))
      (some (true, ()))
     (some ((p0 == (39 : Int)), ()))))) := (Einf_call Go.Proofs.C15.ctx 79 _).trans (by kernel_rfl)
theorem ancepsref11_Beats.l3_eq (p0 : (List (Int × (Int × ByteArray)))) (p1 : Int) (p2 : Int) : ancepsref11_Beats.l3 p0 p1 p2 =
  ifB (decide (p2 < (((List.length p0) : Nat) : Int)))
   (bindD ((ixAt p0 p2)) fun t588 =>
   ifB (decide (t588.1 ≥ (3 : Int)))
    (bindD ((ixAt p0 p2)) fun t589 =>
    ifB (decide (t589.1 ≤ (8 : Int)))
     (bindD ((ixAt p0 p2)) fun t590 =>
     ifB (t590.1 == (7 : Int))
      (ancepsref11_Beats.l3 p0 (Go.IntKind.wrap Go.IntKind.i64 ((Go.IntKind.wrap Go.IntKind.i64 (p1 + (1 : Int))) + (1 : Int))) (Go.IntKind.wrap Go.IntKind.i64 (p2 + (1 : Int))))
     (ancepsref11_Beats.l3 p0 (Go.IntKind.wrap Go.IntKind.i64 (p1 + (1 : Int))) (Go.IntKind.wrap Go.IntKind.i64 (p2 + (1 : Int)))))
    (bindD ((ixAt p0 p2)) fun t591 =>
     ifB (t591.1 == (7 : Int))
      (ancepsref11_Beats.l3 p0 (Go.IntKind.wrap Go.IntKind.i64 (p1 + (1 : Int))) (Go.IntKind.wrap Go.IntKind.i64 (p2 + (1 : Int))))
     (ancepsref11_Beats.l3 p0 p1 (Go.IntKind.wrap Go.IntKind.i64 (p2 + (1 : Int))))))
   (bindD ((ixAt p0 p2)) fun t592 =>
    ifB (t592.1 == (7 : Int))
     (ancepsref11_Beats.l3 p0 (Go.IntKind.wrap Go.IntKind.i64 (p1 + (1 : Int))) (Go.IntKind.wrap Go.IntKind.i64 (p2 + (1 : Int))))
    (ancepsref11_Beats.l3 p0 p1 (Go.IntKind.wrap Go.IntKind.i64 (p2 + (1 : Int))))))
  (some (p1, ())) := (loopAt_step Go.Proofs.C15.ctx 80 3 _).trans (by kernel_rfl)
theorem ancepsref11_letters.f_eq : ancepsref11_letters.f =
  some ((ByteArray.mk (List.toArray ((32 : UInt8) :: ((118 : UInt8) :: ((100 : UInt8) :: ((109 : UInt8) :: ((108 : UInt8) :: ((110 : UInt8) :: ((115 : UInt8) :: ((120 : UInt8) :: ((103 : UInt8) :: ((98 : UInt8) :: ([] : (List UInt8)))))))))))))), ()) := (Einf_call Go.Proofs.C15.ctx 72 _).trans (by kernel_rfl)
theorem strings_indexFunc.f_eq (p0 : ByteArray) (p1 : Bool) : strings_indexFunc.f p0 p1 =
  strings_indexFunc.l2 p1 p0 (0 : Nat) := (Einf_call Go.Proofs.C15.ctx 84 _).trans (by kernel_rfl)
theorem sound_beats.f_eq (p0 : Int) (p1 : Int) (p2 : ByteArray) : sound_beats.f p0 p1 p2 =
  ifB (p0 == (7 : Int))
   (some ((2 : Int), ()))
  (ifB (decide (p0 ≥ (3 : Int)))
    (ifB (decide (p0 ≤ (8 : Int)))
     (some ((1 : Int), ()))
    (some ((0 : Int), ())))
   (some ((0 : Int), ()))) := (Einf_call Go.Proofs.C15.ctx 83 _).trans (by kernel_rfl)
theorem strings_indexFunc.l2_eq (p0 : Bool) (p1 : ByteArray) (p2 : Nat) : strings_indexFunc.l2 p0 p1 p2 =
  ifB (decide (p2 < (ByteArray.size p1)))
   (bindD (sound_Valid_1.f (Go.Proofs.R.runeAt p1 p2)) fun t593 =>
   ifB (t593.1 == p0)
    (some (((p2 : Nat) : Int), ()))
   (strings_indexFunc.l2 p0 p1 (Go.Proofs.R.nextAt p1 p2)))
  (some ((-(1 : Int)), ())) := (loopAt_step Go.Proofs.C15.ctx 84 2 _).trans (by kernel_rfl)
theorem sound_Valid_1.f_eq (p0 : Int) : sound_Valid_1.f p0 =
  bindD (sound_written.f p0) fun t594 =>
  some ((!t594.1), ()) := (Einf_call Go.Proofs.C15.ctx 76 _).trans (by kernel_rfl)
theorem sound_written.f_eq (p0 : Int) : sound_written.f p0 =
  ifB (decide (p0 ≥ (97 : Int)))
   (ifB (decide (p0 ≤ (122 : Int)))
    (some (true, ()))
   (ifB (decide (p0 ≥ (48 : Int)))
     (ifB (decide (p0 ≤ (57 : Int)))
      (some (true, ()))
     (ifB (p0 == (95 : Int))
       (some (true, ()))
      (ifB (p0 == (94 : Int))
        (some (true, ()))
       (some ((p0 == (39 : Int)), ())))))
    (ifB (p0 == (95 : Int))
      (some (true, ()))
     (ifB (p0 == (94 : Int))
       (some (true, ()))
      (some ((p0 == (39 : Int)), ()))))))
  (ifB (decide (p0 ≥ (48 : Int)))
    (ifB (decide (p0 ≤ (57 : Int)))
     (some (true, ()))
    (ifB (p0 == (95 : Int))
      (some (true, ()))
     (ifB (p0 == (94 : Int))
       (some (true, ()))
      (some ((p0 == (39 : Int)), ())))))
   (ifB (p0 == (95 : Int))
     (some (true, ()))
    (ifB (p0 == (94 : Int))
      (some (true, ()))
     (some ((p0 == (39 : Int)), ()))))) := (Einf_call Go.Proofs.C15.ctx 77 _).trans (by kernel_rfl)
end Go.Proofs.C15
