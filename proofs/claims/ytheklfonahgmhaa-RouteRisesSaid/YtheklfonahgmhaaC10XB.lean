/- C10XB: what the row's functions are, as the evaluator tells them. No condition. -/
import Derived.Test.YtheklfonahgmhaaC10X
set_option linter.unusedVariables false
set_option linter.unusedSimpArgs false
set_option maxRecDepth 100000
set_option linter.unusedVariables false
namespace Go.Proofs.C10X
open Go Go.Proofs.R
abbrev o8 : AObj := .box 78 [(.mp 31), (.mp 39), (.mp 47)]
abbrev o7 : AObj := .box 52 [(.v (.int .i64) (0 : Int)), (.v (.int .i64) (2 : Int)), (.v (.int .i64) (3 : Int))]
abbrev o6 : AObj := .box 78 [(.mp 47), (.mp 55), (.mp 63)]
abbrev o5 : AObj := .box 52 [(.v (.int .i64) (0 : Int)), (.v (.int .i64) (1 : Int)), (.v (.int .i64) (2 : Int))]
abbrev o4 : AObj := .mp 3 79 (.int .i64) (.int .u64) ([] : (List (Int × Int)))
abbrev o3 : AObj := .mp 3 79 (.int .i64) (.int .u64) (((0 : Int), (1 : Int)) :: ([] : (List (Int × Int))))
abbrev o2 : AObj := .row 3 (.int .i64) ((1 : Int) :: ((0 : Int) :: ((2 : Int) :: ((3 : Int) :: ([] : (List Int)))))) false
abbrev o1 : AObj := .box 24 [(.v (.int .i64) (3 : Int)), (.v (.sl (.pair (.int .i64) (.pair (.int .i64) (.int .i64)))) (((0 : Int), ((1 : Int), (2 : Int))) :: (((1 : Int), ((2 : Int), (1 : Int))) :: (((0 : Int), ((2 : Int), (3 : Int))) :: (((0 : Int), ((1 : Int), (2 : Int))) :: ([] : (List (Int × (Int × Int)))))))))]
noncomputable def route_Ways.f : Option (Int × (Int × Unit)) := (Einf ctx).call 32 [(.agg [(.v (.int .i64) (3 : Int)), (.v (.sl (.pair (.int .i64) (.pair (.int .i64) (.int .i64)))) [((0 : Int), ((1 : Int), (2 : Int))), ((1 : Int), ((2 : Int), (1 : Int))), ((0 : Int), ((2 : Int), (3 : Int))), ((0 : Int), ((1 : Int), (2 : Int)))])]), (.one (.v (.int .i64) (2 : Int)))]
noncomputable def route_Ways.m14 : Option (Int × (Int × Unit)) := loopAt ctx (Einf ctx) 32 14 (.mk [(1, (.one (.v (.int .i64) (2 : Int)))), (2, (.one (.ref 7 0))), (7, (.one (.eref 15 (-3 : Int) 0))), (48, (.one (.row 23))), (49, (.one (.v (.int .i64) (4 : Int)))), (50, (.one (.v (.int .i64) (0 : Int))))] [(7, o1), (15, o8), (23, o2), (31, o4), (39, o4), (47, o3)])
noncomputable def dag_Valid.f : Option (Int × Unit) := (Einf ctx).call 33 [(.agg [(.v (.int .i64) (3 : Int)), (.v (.sl (.pair (.int .i64) (.pair (.int .i64) (.int .i64)))) (((0 : Int), ((1 : Int), (2 : Int))) :: (((1 : Int), ((2 : Int), (1 : Int))) :: (((0 : Int), ((2 : Int), (3 : Int))) :: (((0 : Int), ((1 : Int), (2 : Int))) :: ([] : (List (Int × (Int × Int)))))))))])]
noncomputable def route_Ways.l8 : Option (Int × (Int × Unit)) := loopAt ctx (Einf ctx) 32 8 (.mk [(1, (.one (.v (.int .i64) (2 : Int)))), (2, (.one (.ref 7 0))), (7, (.one (.eref 15 (-3 : Int) 0))), (32, (.one (.v (.int .i64) (3 : Int)))), (33, (.one (.v (.int .i64) (0 : Int))))] [(7, o1), (15, (.box 78 [.undef, .undef, .undef]))])
noncomputable def route_Ways.l18 : Option (Int × (Int × Unit)) := loopAt ctx (Einf ctx) 32 18 (.mk [(1, (.one (.v (.int .i64) (2 : Int)))), (2, (.one (.ref 7 0))), (7, (.one (.eref 15 (-3 : Int) 0))), (11, (.one (.ref 23 0))), (48, (.one (.row 31))), (49, (.one (.v (.int .i64) (4 : Int)))), (50, (.one (.v (.int .i64) (0 : Int)))), (64, (.one (.ref 39 0)))] [(7, o1), (15, o6), (23, (.box 52 [(.v (.int .i64) (1 : Int)), (.v (.int .i64) (2 : Int)), (.v (.int .i64) (1 : Int))])), (31, o2), (39, (.miter (.mp 63) 1 ([] : (List Nat)))), (47, o4), (55, o4), (63, o3)])
noncomputable def dag_Valid.l7 : Option (Int × Unit) := loopAt ctx (Einf ctx) 33 7 (.mk [(3, (.one (.clo 54 [(.ref 7 0)]))), (22, (.one (.v (.sl (.pair (.int .i64) (.pair (.int .i64) (.int .i64)))) (((0 : Int), ((1 : Int), (2 : Int))) :: (((1 : Int), ((2 : Int), (1 : Int))) :: (((0 : Int), ((2 : Int), (3 : Int))) :: (((0 : Int), ((1 : Int), (2 : Int))) :: ([] : (List (Int × (Int × Int))))))))))), (23, (.one (.v (.int .i64) (4 : Int)))), (24, (.one (.v (.int .i64) (0 : Int))))] [(7, o1)])
noncomputable def route_Ways.l8_1 : Option (Int × (Int × Unit)) := loopAt ctx (Einf ctx) 32 8 (.mk [(1, (.one (.v (.int .i64) (2 : Int)))), (2, (.one (.ref 7 0))), (7, (.one (.eref 15 (-3 : Int) 0))), (32, (.one (.v (.int .i64) (3 : Int)))), (33, (.one (.v (.int .i64) (1 : Int))))] [(7, o1), (15, (.box 78 [(.mp 23), .undef, .undef])), (23, o4)])
noncomputable def route_Ways.l14 : Option (Int × (Int × Unit)) := loopAt ctx (Einf ctx) 32 14 (.mk [(1, (.one (.v (.int .i64) (2 : Int)))), (2, (.one (.ref 7 0))), (7, (.one (.eref 15 (-3 : Int) 0))), (48, (.one (.row 23))), (49, (.one (.v (.int .i64) (4 : Int)))), (50, (.one (.v (.int .i64) (1 : Int))))] [(7, o1), (15, o8), (23, o2), (31, o4), (39, o4), (47, o3)])
noncomputable def route_Ways.l18_1 (p0 : (List Nat)) (p1 : (List (Int × Int))) : Option (Int × (Int × Unit)) := loopAt ctx (Einf ctx) 32 18 (.mk [(1, (.one (.v (.int .i64) (2 : Int)))), (2, (.one (.ref 7 0))), (7, (.one (.eref 15 (-3 : Int) 0))), (11, (.one (.ref 23 0))), (48, (.one (.row 31))), (49, (.one (.v (.int .i64) (4 : Int)))), (50, (.one (.v (.int .i64) (0 : Int)))), (64, (.one (.ref 39 0)))] [(7, o1), (15, o6), (23, (.box 52 [(.v (.int .i64) (1 : Int)), (.v (.int .i64) (2 : Int)), (.v (.int .i64) (1 : Int))])), (31, o2), (39, (.miter (.mp 63) 1 p0)), (47, o4), (55, (.mp 3 79 (.int .i64) (.int .u64) p1)), (63, o3)])
noncomputable def route_Ways.l18_2 (p0 : (List Nat)) : Option (Int × (Int × Unit)) := loopAt ctx (Einf ctx) 32 18 (.mk [(1, (.one (.v (.int .i64) (2 : Int)))), (2, (.one (.ref 7 0))), (7, (.one (.eref 15 (-3 : Int) 0))), (11, (.one (.ref 23 0))), (48, (.one (.row 31))), (49, (.one (.v (.int .i64) (4 : Int)))), (50, (.one (.v (.int .i64) (0 : Int)))), (64, (.one (.ref 39 0)))] [(7, o1), (15, o6), (23, (.box 52 [(.v (.int .i64) (1 : Int)), (.v (.int .i64) (2 : Int)), (.v (.int .i64) (1 : Int))])), (31, o2), (39, (.miter (.mp 63) 1 p0)), (47, o4), (55, o4), (63, o3)])
noncomputable def dag_Valid_1.f : Option (Bool × Unit) := (Einf ctx).call 54 [(.one (.v (.int .i64) (0 : Int))), (.one (.pref [(.v (.int .i64) (3 : Int)), (.v (.sl (.pair (.int .i64) (.pair (.int .i64) (.int .i64)))) (((0 : Int), ((1 : Int), (2 : Int))) :: (((1 : Int), ((2 : Int), (1 : Int))) :: (((0 : Int), ((2 : Int), (3 : Int))) :: (((0 : Int), ((1 : Int), (2 : Int))) :: ([] : (List (Int × (Int × Int)))))))))] 0))]
noncomputable def dag_Valid_1.f1 : Option (Bool × Unit) := (Einf ctx).call 54 [(.one (.v (.int .i64) (1 : Int))), (.one (.pref [(.v (.int .i64) (3 : Int)), (.v (.sl (.pair (.int .i64) (.pair (.int .i64) (.int .i64)))) (((0 : Int), ((1 : Int), (2 : Int))) :: (((1 : Int), ((2 : Int), (1 : Int))) :: (((0 : Int), ((2 : Int), (3 : Int))) :: (((0 : Int), ((1 : Int), (2 : Int))) :: ([] : (List (Int × (Int × Int)))))))))] 0))]
noncomputable def dag_Valid.l7_1 : Option (Int × Unit) := loopAt ctx (Einf ctx) 33 7 (.mk [(3, (.one (.clo 54 [(.ref 7 0)]))), (22, (.one (.v (.sl (.pair (.int .i64) (.pair (.int .i64) (.int .i64)))) (((0 : Int), ((1 : Int), (2 : Int))) :: (((1 : Int), ((2 : Int), (1 : Int))) :: (((0 : Int), ((2 : Int), (3 : Int))) :: (((0 : Int), ((1 : Int), (2 : Int))) :: ([] : (List (Int × (Int × Int))))))))))), (23, (.one (.v (.int .i64) (4 : Int)))), (24, (.one (.v (.int .i64) (1 : Int))))] [(7, o1)])
noncomputable def route_Ways.l8_2 : Option (Int × (Int × Unit)) := loopAt ctx (Einf ctx) 32 8 (.mk [(1, (.one (.v (.int .i64) (2 : Int)))), (2, (.one (.ref 7 0))), (7, (.one (.eref 15 (-3 : Int) 0))), (32, (.one (.v (.int .i64) (3 : Int)))), (33, (.one (.v (.int .i64) (2 : Int))))] [(7, o1), (15, (.box 78 [(.mp 23), (.mp 31), .undef])), (23, o4), (31, o4)])
noncomputable def route_Ways.l14_1 (p0 : (List (Int × Int))) : Option (Int × (Int × Unit)) := loopAt ctx (Einf ctx) 32 14 (.mk [(1, (.one (.v (.int .i64) (2 : Int)))), (2, (.one (.ref 7 0))), (7, (.one (.eref 15 (-3 : Int) 0))), (48, (.one (.row 23))), (49, (.one (.v (.int .i64) (4 : Int)))), (50, (.one (.v (.int .i64) (1 : Int))))] [(7, o1), (15, o8), (23, o2), (31, o4), (39, (.mp 3 79 (.int .i64) (.int .u64) p0)), (47, o3)])
noncomputable def dag_Valid_1.f2 : Option (Bool × Unit) := (Einf ctx).call 54 [(.one (.v (.int .i64) (2 : Int))), (.one (.pref [(.v (.int .i64) (3 : Int)), (.v (.sl (.pair (.int .i64) (.pair (.int .i64) (.int .i64)))) (((0 : Int), ((1 : Int), (2 : Int))) :: (((1 : Int), ((2 : Int), (1 : Int))) :: (((0 : Int), ((2 : Int), (3 : Int))) :: (((0 : Int), ((1 : Int), (2 : Int))) :: ([] : (List (Int × (Int × Int)))))))))] 0))]
noncomputable def dag_Valid.l7_2 : Option (Int × Unit) := loopAt ctx (Einf ctx) 33 7 (.mk [(3, (.one (.clo 54 [(.ref 7 0)]))), (22, (.one (.v (.sl (.pair (.int .i64) (.pair (.int .i64) (.int .i64)))) (((0 : Int), ((1 : Int), (2 : Int))) :: (((1 : Int), ((2 : Int), (1 : Int))) :: (((0 : Int), ((2 : Int), (3 : Int))) :: (((0 : Int), ((1 : Int), (2 : Int))) :: ([] : (List (Int × (Int × Int))))))))))), (23, (.one (.v (.int .i64) (4 : Int)))), (24, (.one (.v (.int .i64) (2 : Int))))] [(7, o1)])
noncomputable def route_Ways.l8_3 : Option (Int × (Int × Unit)) := loopAt ctx (Einf ctx) 32 8 (.mk [(1, (.one (.v (.int .i64) (2 : Int)))), (2, (.one (.ref 7 0))), (7, (.one (.eref 15 (-3 : Int) 0))), (32, (.one (.v (.int .i64) (3 : Int)))), (33, (.one (.v (.int .i64) (3 : Int))))] [(7, o1), (15, (.box 78 [(.mp 23), (.mp 31), (.mp 39)])), (23, o4), (31, o4), (39, o4)])
noncomputable def route_Ways.l18_6 (p0 : Nat) (p1 : (List (Int × Int))) : Option (Int × (Int × Unit)) := loopAt ctx (Einf ctx) 32 18 (.mk [(1, (.one (.v (.int .i64) (2 : Int)))), (2, (.one (.ref 7 0))), (7, (.one (.eref 15 (-3 : Int) 0))), (11, (.one (.ref 23 0))), (48, (.one (.row 31))), (49, (.one (.v (.int .i64) (4 : Int)))), (50, (.one (.v (.int .i64) (1 : Int)))), (64, (.one (.ref 39 0)))] [(7, o1), (15, o6), (23, o5), (31, o2), (39, (.miter (.mp 55) p0 ([] : (List Nat)))), (47, o4), (55, (.mp 3 79 (.int .i64) (.int .u64) p1)), (63, o3)])
noncomputable def dag_Valid.l7_3 : Option (Int × Unit) := loopAt ctx (Einf ctx) 33 7 (.mk [(3, (.one (.clo 54 [(.ref 7 0)]))), (22, (.one (.v (.sl (.pair (.int .i64) (.pair (.int .i64) (.int .i64)))) (((0 : Int), ((1 : Int), (2 : Int))) :: (((1 : Int), ((2 : Int), (1 : Int))) :: (((0 : Int), ((2 : Int), (3 : Int))) :: (((0 : Int), ((1 : Int), (2 : Int))) :: ([] : (List (Int × (Int × Int))))))))))), (23, (.one (.v (.int .i64) (4 : Int)))), (24, (.one (.v (.int .i64) (3 : Int))))] [(7, o1)])
noncomputable def route_backwards.f : Option ((List Int) × Unit) := (Einf ctx).call 53 [(.agg [(.v (.int .i64) (3 : Int)), (.v (.sl (.pair (.int .i64) (.pair (.int .i64) (.int .i64)))) (((0 : Int), ((1 : Int), (2 : Int))) :: (((1 : Int), ((2 : Int), (1 : Int))) :: (((0 : Int), ((2 : Int), (3 : Int))) :: (((0 : Int), ((1 : Int), (2 : Int))) :: ([] : (List (Int × (Int × Int)))))))))])]
noncomputable def route_Ways.l14_3 (p0 : Int) (p1 : (List Int)) : Option (Int × (Int × Unit)) := loopAt ctx (Einf ctx) 32 14 (.mk [(1, (.one (.v (.int .i64) (2 : Int)))), (2, (.one (.ref 7 0))), (7, (.one (.eref 15 (-3 : Int) 0))), (48, (.one (.row 23))), (49, (.one (.v (.int .i64) p0))), (50, (.one (.v (.int .i64) (0 : Int))))] [(7, o1), (15, o8), (23, (.row 3 (.int .i64) p1 false)), (31, o4), (39, o4), (47, o3)])
noncomputable def route_Ways.l14_5 (p0 : (List (Int × Int))) : Option (Int × (Int × Unit)) := loopAt ctx (Einf ctx) 32 14 (.mk [(1, (.one (.v (.int .i64) (2 : Int)))), (2, (.one (.ref 7 0))), (7, (.one (.eref 15 (-3 : Int) 0))), (48, (.one (.row 23))), (49, (.one (.v (.int .i64) (4 : Int)))), (50, (.one (.v (.int .i64) (2 : Int))))] [(7, o1), (15, o8), (23, o2), (31, o4), (39, (.mp 3 79 (.int .i64) (.int .u64) p0)), (47, o3)])
noncomputable def route_Ways.l18_8 (p0 : Nat) (p1 : (List Nat)) (p2 : (List (Int × Int))) (p3 : (List (Int × Int))) : Option (Int × (Int × Unit)) := loopAt ctx (Einf ctx) 32 18 (.mk [(1, (.one (.v (.int .i64) (2 : Int)))), (2, (.one (.ref 7 0))), (7, (.one (.eref 15 (-3 : Int) 0))), (11, (.one (.ref 23 0))), (48, (.one (.row 31))), (49, (.one (.v (.int .i64) (4 : Int)))), (50, (.one (.v (.int .i64) (1 : Int)))), (64, (.one (.ref 39 0)))] [(7, o1), (15, o6), (23, o5), (31, o2), (39, (.miter (.mp 55) p0 p1)), (47, (.mp 3 79 (.int .i64) (.int .u64) p2)), (55, (.mp 3 79 (.int .i64) (.int .u64) p3)), (63, o3)])
noncomputable def route_Ways.l18_9 (p0 : Nat) (p1 : (List Nat)) (p2 : (List (Int × Int))) : Option (Int × (Int × Unit)) := loopAt ctx (Einf ctx) 32 18 (.mk [(1, (.one (.v (.int .i64) (2 : Int)))), (2, (.one (.ref 7 0))), (7, (.one (.eref 15 (-3 : Int) 0))), (11, (.one (.ref 23 0))), (48, (.one (.row 31))), (49, (.one (.v (.int .i64) (4 : Int)))), (50, (.one (.v (.int .i64) (1 : Int)))), (64, (.one (.ref 39 0)))] [(7, o1), (15, o6), (23, o5), (31, o2), (39, (.miter (.mp 55) p0 p1)), (47, o4), (55, (.mp 3 79 (.int .i64) (.int .u64) p2)), (63, o3)])
noncomputable def dag_Valid.l7_4 : Option (Int × Unit) := loopAt ctx (Einf ctx) 33 7 (.mk [(3, (.one (.clo 54 [(.ref 7 0)]))), (22, (.one (.v (.sl (.pair (.int .i64) (.pair (.int .i64) (.int .i64)))) (((0 : Int), ((1 : Int), (2 : Int))) :: (((1 : Int), ((2 : Int), (1 : Int))) :: (((0 : Int), ((2 : Int), (3 : Int))) :: (((0 : Int), ((1 : Int), (2 : Int))) :: ([] : (List (Int × (Int × Int))))))))))), (23, (.one (.v (.int .i64) (4 : Int)))), (24, (.one (.v (.int .i64) (4 : Int))))] [(7, o1)])
noncomputable def route_backwards.l3 : Option ((List Int) × Unit) := loopAt ctx (Einf ctx) 53 3 (.mk [(1, (.one (.ref 7 0))), (3, (.one (.row 15))), (10, (.one (.v (.int .i64) (4 : Int)))), (11, (.one (.v (.int .i64) (0 : Int))))] [(7, o1), (15, (.row 3 (.int .i64) ((0 : Int) :: ((0 : Int) :: ((0 : Int) :: ((0 : Int) :: ([] : (List Int)))))) false))])
noncomputable def route_Ways.l18_13 (p0 : (List (Int × Int))) : Option (Int × (Int × Unit)) := loopAt ctx (Einf ctx) 32 18 (.mk [(1, (.one (.v (.int .i64) (2 : Int)))), (2, (.one (.ref 7 0))), (7, (.one (.eref 15 (-3 : Int) 0))), (11, (.one (.ref 23 0))), (48, (.one (.row 31))), (49, (.one (.v (.int .i64) (4 : Int)))), (50, (.one (.v (.int .i64) (2 : Int)))), (64, (.one (.ref 39 0)))] [(7, o1), (15, o6), (23, o7), (31, o2), (39, (.miter (.mp 63) 1 ([] : (List Nat)))), (47, o4), (55, (.mp 3 79 (.int .i64) (.int .u64) p0)), (63, o3)])
noncomputable def route_backwards.l3_1 : Option ((List Int) × Unit) := loopAt ctx (Einf ctx) 53 3 (.mk [(1, (.one (.ref 7 0))), (3, (.one (.row 15))), (10, (.one (.v (.int .i64) (4 : Int)))), (11, (.one (.v (.int .i64) (1 : Int))))] [(7, o1), (15, (.row 3 (.int .i64) ((0 : Int) :: ((0 : Int) :: ((0 : Int) :: ((0 : Int) :: ([] : (List Int)))))) false))])
noncomputable def route_Ways.l14_9 (p0 : (List (Int × Int))) : Option (Int × (Int × Unit)) := loopAt ctx (Einf ctx) 32 14 (.mk [(1, (.one (.v (.int .i64) (2 : Int)))), (2, (.one (.ref 7 0))), (7, (.one (.eref 15 (-3 : Int) 0))), (48, (.one (.row 23))), (49, (.one (.v (.int .i64) (4 : Int)))), (50, (.one (.v (.int .i64) (3 : Int))))] [(7, o1), (15, o8), (23, o2), (31, o4), (39, (.mp 3 79 (.int .i64) (.int .u64) p0)), (47, o3)])
noncomputable def route_Ways.l18_15 (p0 : (List Nat)) (p1 : (List (Int × Int))) (p2 : (List (Int × Int))) : Option (Int × (Int × Unit)) := loopAt ctx (Einf ctx) 32 18 (.mk [(1, (.one (.v (.int .i64) (2 : Int)))), (2, (.one (.ref 7 0))), (7, (.one (.eref 15 (-3 : Int) 0))), (11, (.one (.ref 23 0))), (48, (.one (.row 31))), (49, (.one (.v (.int .i64) (4 : Int)))), (50, (.one (.v (.int .i64) (2 : Int)))), (64, (.one (.ref 39 0)))] [(7, o1), (15, o6), (23, o7), (31, o2), (39, (.miter (.mp 63) 1 p0)), (47, (.mp 3 79 (.int .i64) (.int .u64) p1)), (55, (.mp 3 79 (.int .i64) (.int .u64) p2)), (63, o3)])
noncomputable def route_Ways.l18_16 (p0 : (List Nat)) (p1 : (List (Int × Int))) : Option (Int × (Int × Unit)) := loopAt ctx (Einf ctx) 32 18 (.mk [(1, (.one (.v (.int .i64) (2 : Int)))), (2, (.one (.ref 7 0))), (7, (.one (.eref 15 (-3 : Int) 0))), (11, (.one (.ref 23 0))), (48, (.one (.row 31))), (49, (.one (.v (.int .i64) (4 : Int)))), (50, (.one (.v (.int .i64) (2 : Int)))), (64, (.one (.ref 39 0)))] [(7, o1), (15, o6), (23, o7), (31, o2), (39, (.miter (.mp 63) 1 p0)), (47, o4), (55, (.mp 3 79 (.int .i64) (.int .u64) p1)), (63, o3)])
noncomputable def route_backwards.l3_2 : Option ((List Int) × Unit) := loopAt ctx (Einf ctx) 53 3 (.mk [(1, (.one (.ref 7 0))), (3, (.one (.row 15))), (10, (.one (.v (.int .i64) (4 : Int)))), (11, (.one (.v (.int .i64) (2 : Int))))] [(7, o1), (15, (.row 3 (.int .i64) ((0 : Int) :: ((1 : Int) :: ((0 : Int) :: ((0 : Int) :: ([] : (List Int)))))) false))])
noncomputable def route_Ways.l18_21 (p0 : Nat) (p1 : (List (Int × Int))) : Option (Int × (Int × Unit)) := loopAt ctx (Einf ctx) 32 18 (.mk [(1, (.one (.v (.int .i64) (2 : Int)))), (2, (.one (.ref 7 0))), (7, (.one (.eref 15 (-3 : Int) 0))), (11, (.one (.ref 23 0))), (48, (.one (.row 31))), (49, (.one (.v (.int .i64) (4 : Int)))), (50, (.one (.v (.int .i64) (3 : Int)))), (64, (.one (.ref 39 0)))] [(7, o1), (15, o6), (23, o5), (31, o2), (39, (.miter (.mp 55) p0 ([] : (List Nat)))), (47, o4), (55, (.mp 3 79 (.int .i64) (.int .u64) p1)), (63, o3)])
noncomputable def route_backwards.l3_3 : Option ((List Int) × Unit) := loopAt ctx (Einf ctx) 53 3 (.mk [(1, (.one (.ref 7 0))), (3, (.one (.row 15))), (10, (.one (.v (.int .i64) (4 : Int)))), (11, (.one (.v (.int .i64) (3 : Int))))] [(7, o1), (15, (.row 3 (.int .i64) ((0 : Int) :: ((1 : Int) :: ((2 : Int) :: ((0 : Int) :: ([] : (List Int)))))) false))])
noncomputable def route_Ways.l25 : Option (Int × (Int × Unit)) := loopAt ctx (Einf ctx) 32 25 (.mk [(14, (.one (.v (.int .u64) (0 : Int)))), (102, (.one (.ref 7 0)))] [(7, (.miter (.mp 15) 0 ([] : (List Nat)))), (15, o4)])
noncomputable def route_Ways.l14_13 (p0 : (List (Int × Int))) : Option (Int × (Int × Unit)) := loopAt ctx (Einf ctx) 32 14 (.mk [(1, (.one (.v (.int .i64) (2 : Int)))), (2, (.one (.ref 7 0))), (7, (.one (.eref 15 (-3 : Int) 0))), (48, (.one (.row 23))), (49, (.one (.v (.int .i64) (4 : Int)))), (50, (.one (.v (.int .i64) (4 : Int))))] [(7, o1), (15, o8), (23, o2), (31, o4), (39, (.mp 3 79 (.int .i64) (.int .u64) p0)), (47, o3)])
noncomputable def route_Ways.l18_22 (p0 : Nat) (p1 : (List Nat)) (p2 : (List (Int × Int))) (p3 : (List (Int × Int))) : Option (Int × (Int × Unit)) := loopAt ctx (Einf ctx) 32 18 (.mk [(1, (.one (.v (.int .i64) (2 : Int)))), (2, (.one (.ref 7 0))), (7, (.one (.eref 15 (-3 : Int) 0))), (11, (.one (.ref 23 0))), (48, (.one (.row 31))), (49, (.one (.v (.int .i64) (4 : Int)))), (50, (.one (.v (.int .i64) (3 : Int)))), (64, (.one (.ref 39 0)))] [(7, o1), (15, o6), (23, o5), (31, o2), (39, (.miter (.mp 55) p0 p1)), (47, (.mp 3 79 (.int .i64) (.int .u64) p2)), (55, (.mp 3 79 (.int .i64) (.int .u64) p3)), (63, o3)])
noncomputable def route_Ways.l18_23 (p0 : Nat) (p1 : (List Nat)) (p2 : (List (Int × Int))) : Option (Int × (Int × Unit)) := loopAt ctx (Einf ctx) 32 18 (.mk [(1, (.one (.v (.int .i64) (2 : Int)))), (2, (.one (.ref 7 0))), (7, (.one (.eref 15 (-3 : Int) 0))), (11, (.one (.ref 23 0))), (48, (.one (.row 31))), (49, (.one (.v (.int .i64) (4 : Int)))), (50, (.one (.v (.int .i64) (3 : Int)))), (64, (.one (.ref 39 0)))] [(7, o1), (15, o6), (23, o5), (31, o2), (39, (.miter (.mp 55) p0 p1)), (47, o4), (55, (.mp 3 79 (.int .i64) (.int .u64) p2)), (63, o3)])
noncomputable def route_backwards.l3_4 : Option ((List Int) × Unit) := loopAt ctx (Einf ctx) 53 3 (.mk [(1, (.one (.ref 7 0))), (3, (.one (.row 15))), (10, (.one (.v (.int .i64) (4 : Int)))), (11, (.one (.v (.int .i64) (4 : Int))))] [(7, o1), (15, (.row 3 (.int .i64) ((0 : Int) :: ((1 : Int) :: ((2 : Int) :: ((3 : Int) :: ([] : (List Int)))))) false))])
noncomputable def route_Ways.l25_1 (p0 : Int) (p1 : (List Nat)) : Option (Int × (Int × Unit)) := loopAt ctx (Einf ctx) 32 25 (.mk [(14, (.one (.v (.int .u64) p0))), (102, (.one (.ref 7 0)))] [(7, (.miter (.mp 15) 0 p1)), (15, o4)])
noncomputable def route_backwards_1.f (p0 : Int) (p1 : Int) : Option (Int × Unit) := (Einf ctx).call 65 [(.one (.v (.int .i64) p0)), (.one (.v (.int .i64) p1)), (.one (.pref [(.v (.int .i64) (3 : Int)), (.v (.sl (.pair (.int .i64) (.pair (.int .i64) (.int .i64)))) (((0 : Int), ((1 : Int), (2 : Int))) :: (((1 : Int), ((2 : Int), (1 : Int))) :: (((0 : Int), ((2 : Int), (3 : Int))) :: (((0 : Int), ((1 : Int), (2 : Int))) :: ([] : (List (Int × (Int × Int)))))))))] 0))]
noncomputable def cmp_Compare_int.f (p0 : Int) (p1 : Int) : Option (Int × Unit) := (Einf ctx).call 66 [(.one (.v (.int .i64) p0)), (.one (.v (.int .i64) p1))]
noncomputable def cmp_isNaN_int.f (p0 : Int) : Option (Bool × Unit) := (Einf ctx).call 76 [(.one (.v (.int .i64) p0))]
theorem route_Ways.f_eq : route_Ways.f =
 bindD (dag_Valid.f) fun t0 =>
 ifB (t0.1 != (0 : Int))
  (some ((0 : Int), (t0.1, ())))
 (route_Ways.l8) := (Einf_call ctx 32 _).trans (by kernel_rfl)
theorem route_Ways.m14_eq : route_Ways.m14 =
 route_Ways.l18 := (loopAt_step ctx 32 14 _).trans (by kernel_rfl)
theorem dag_Valid.f_eq : dag_Valid.f =
 dag_Valid.l7 := (Einf_call ctx 33 _).trans (by kernel_rfl)
theorem route_Ways.l8_eq : route_Ways.l8 =
 route_Ways.l8_1 := (loopAt_step ctx 32 8 _).trans (by kernel_rfl)
theorem route_Ways.l18_eq : route_Ways.l18 =
 eachB (((0 : Int), (1 : Int)) :: ([] : (List (Int × Int)))) (1 : Nat) ([] : (List Nat))
  (route_Ways.l14) fun t1 t2 =>
  bindD ((Go.Proofs.R.entryAt (((0 : Int), (1 : Int)) :: ([] : (List (Int × Int)))) (1 : Nat) (Go.Proofs.R.seenAdd ([] : (List Nat)) t1))) fun t3 =>
  ifB (decide ((IntKind.wrap .i64 (t3.1 + (1 : Int))) ≤ (2 : Int)))
  (route_Ways.l18_1 (Go.Proofs.R.seenAdd ([] : (List Nat)) t1) (Go.Proofs.R.mput (Go.Proofs.R.Ty.int Go.IntKind.i64) (IntKind.wrap .i64 (t3.1 + (1 : Int))) (if ((4611686018427387905 : Int) < (IntKind.wrap .u64 ((Go.Proofs.R.mget (Go.Proofs.R.Ty.int Go.IntKind.i64) (0 : Int) (IntKind.wrap .i64 (t3.1 + (1 : Int))) ([] : (List (Int × Int)))).1 + t3.2))) then (4611686018427387905 : Int) else (IntKind.wrap .u64 ((Go.Proofs.R.mget (Go.Proofs.R.Ty.int Go.IntKind.i64) (0 : Int) (IntKind.wrap .i64 (t3.1 + (1 : Int))) ([] : (List (Int × Int)))).1 + t3.2))) ([] : (List (Int × Int)))))
  (route_Ways.l18_2 (Go.Proofs.R.seenAdd ([] : (List Nat)) t1)) := (loopAt_step ctx 32 18 _).trans (by kernel_rfl)
theorem dag_Valid.l7_eq : dag_Valid.l7 =
 bindD (dag_Valid_1.f) fun t4 =>
 ifB (!t4.1)
  (some ((6 : Int), ()))
 (bindD (dag_Valid_1.f1) fun t5 =>
  ifB (!t5.1)
  (some ((6 : Int), ()))
  (dag_Valid.l7_1)) := (loopAt_step ctx 33 7 _).trans (by kernel_rfl)
theorem route_Ways.l8_1_eq : route_Ways.l8_1 =
 route_Ways.l8_2 := (loopAt_step ctx 32 8 _).trans (by kernel_rfl)
theorem route_Ways.l18_1_eq (p0 : (List Nat)) (p1 : (List (Int × Int))) : route_Ways.l18_1 p0 p1 =
 eachB (((0 : Int), (1 : Int)) :: ([] : (List (Int × Int)))) (1 : Nat) p0
  (route_Ways.l14_1 p1) fun t6 t7 =>
  bindD ((Go.Proofs.R.entryAt (((0 : Int), (1 : Int)) :: ([] : (List (Int × Int)))) (1 : Nat) (Go.Proofs.R.seenAdd p0 t6))) fun t8 =>
  ifB (decide ((IntKind.wrap .i64 (t8.1 + (1 : Int))) ≤ (2 : Int)))
  (route_Ways.l18_1 (Go.Proofs.R.seenAdd p0 t6) (Go.Proofs.R.mput (Go.Proofs.R.Ty.int Go.IntKind.i64) (IntKind.wrap .i64 (t8.1 + (1 : Int))) (if ((4611686018427387905 : Int) < (IntKind.wrap .u64 ((Go.Proofs.R.mget (Go.Proofs.R.Ty.int Go.IntKind.i64) (0 : Int) (IntKind.wrap .i64 (t8.1 + (1 : Int))) p1).1 + t8.2))) then (4611686018427387905 : Int) else (IntKind.wrap .u64 ((Go.Proofs.R.mget (Go.Proofs.R.Ty.int Go.IntKind.i64) (0 : Int) (IntKind.wrap .i64 (t8.1 + (1 : Int))) p1).1 + t8.2))) p1))
  (route_Ways.l18_1 (Go.Proofs.R.seenAdd p0 t6) p1) := (loopAt_step ctx 32 18 _).trans (by kernel_rfl)
theorem dag_Valid_1.f_eq : dag_Valid_1.f =
 some ((decide ((0 : Int) < (3 : Int))), ()) := (Einf_call ctx 54 _).trans (by kernel_rfl)
theorem dag_Valid_1.f1_eq : dag_Valid_1.f1 =
 some ((decide ((1 : Int) < (3 : Int))), ()) := (Einf_call ctx 54 _).trans (by kernel_rfl)
theorem dag_Valid.l7_1_eq : dag_Valid.l7_1 =
 bindD (dag_Valid_1.f1) fun t12 =>
 ifB (!t12.1)
  (some ((6 : Int), ()))
 (bindD (dag_Valid_1.f2) fun t13 =>
  ifB (!t13.1)
  (some ((6 : Int), ()))
  (dag_Valid.l7_2)) := (loopAt_step ctx 33 7 _).trans (by kernel_rfl)
theorem route_Ways.l8_2_eq : route_Ways.l8_2 =
 route_Ways.l8_3 := (loopAt_step ctx 32 8 _).trans (by kernel_rfl)
theorem route_Ways.l14_1_eq (p0 : (List (Int × Int))) : route_Ways.l14_1 p0 =
 route_Ways.l18_6 (List.length p0) p0 := (loopAt_step ctx 32 14 _).trans (by kernel_rfl)
theorem dag_Valid_1.f2_eq : dag_Valid_1.f2 =
 some ((decide ((2 : Int) < (3 : Int))), ()) := (Einf_call ctx 54 _).trans (by kernel_rfl)
theorem dag_Valid.l7_2_eq : dag_Valid.l7_2 =
 bindD (dag_Valid_1.f) fun t17 =>
 ifB (!t17.1)
  (some ((6 : Int), ()))
 (bindD (dag_Valid_1.f2) fun t18 =>
  ifB (!t18.1)
  (some ((6 : Int), ()))
  (dag_Valid.l7_3)) := (loopAt_step ctx 33 7 _).trans (by kernel_rfl)
theorem route_Ways.l8_3_eq : route_Ways.l8_3 =
 bindD (route_backwards.f) fun t19 =>
 route_Ways.l14_3 (((List.length t19.1) : Nat) : Int) t19.1 := (loopAt_step ctx 32 8 _).trans (by kernel_rfl)
theorem route_Ways.l18_6_eq (p0 : Nat) (p1 : (List (Int × Int))) : route_Ways.l18_6 p0 p1 =
 eachB p1 p0 ([] : (List Nat))
  (route_Ways.l14_5 p1) fun t26 t27 =>
  bindD ((Go.Proofs.R.entryAt p1 p0 (Go.Proofs.R.seenAdd ([] : (List Nat)) t26))) fun t28 =>
  ifB (decide ((IntKind.wrap .i64 (t28.1 + (2 : Int))) ≤ (2 : Int)))
  (route_Ways.l18_8 p0 (Go.Proofs.R.seenAdd ([] : (List Nat)) t26) (Go.Proofs.R.mput (Go.Proofs.R.Ty.int Go.IntKind.i64) (IntKind.wrap .i64 (t28.1 + (2 : Int))) (if ((4611686018427387905 : Int) < (IntKind.wrap .u64 ((Go.Proofs.R.mget (Go.Proofs.R.Ty.int Go.IntKind.i64) (0 : Int) (IntKind.wrap .i64 (t28.1 + (2 : Int))) ([] : (List (Int × Int)))).1 + t28.2))) then (4611686018427387905 : Int) else (IntKind.wrap .u64 ((Go.Proofs.R.mget (Go.Proofs.R.Ty.int Go.IntKind.i64) (0 : Int) (IntKind.wrap .i64 (t28.1 + (2 : Int))) ([] : (List (Int × Int)))).1 + t28.2))) ([] : (List (Int × Int)))) p1)
  (route_Ways.l18_9 p0 (Go.Proofs.R.seenAdd ([] : (List Nat)) t26) p1) := (loopAt_step ctx 32 18 _).trans (by kernel_rfl)
theorem dag_Valid.l7_3_eq : dag_Valid.l7_3 =
 bindD (dag_Valid_1.f) fun t29 =>
 ifB (!t29.1)
  (some ((6 : Int), ()))
 (bindD (dag_Valid_1.f1) fun t30 =>
  ifB (!t30.1)
  (some ((6 : Int), ()))
  (dag_Valid.l7_4)) := (loopAt_step ctx 33 7 _).trans (by kernel_rfl)
theorem route_backwards.f_eq : route_backwards.f =
 route_backwards.l3 := (Einf_call ctx 53 _).trans (by kernel_rfl)
theorem route_Ways.l14_5_eq (p0 : (List (Int × Int))) : route_Ways.l14_5 p0 =
 route_Ways.l18_13 p0 := (loopAt_step ctx 32 14 _).trans (by kernel_rfl)
theorem route_Ways.l18_9_eq (p0 : Nat) (p1 : (List Nat)) (p2 : (List (Int × Int))) : route_Ways.l18_9 p0 p1 p2 =
 eachB p2 p0 p1
  (route_Ways.l14_5 p2) fun t37 t38 =>
  bindD ((Go.Proofs.R.entryAt p2 p0 (Go.Proofs.R.seenAdd p1 t37))) fun t39 =>
  ifB (decide ((IntKind.wrap .i64 (t39.1 + (2 : Int))) ≤ (2 : Int)))
  (route_Ways.l18_8 p0 (Go.Proofs.R.seenAdd p1 t37) (Go.Proofs.R.mput (Go.Proofs.R.Ty.int Go.IntKind.i64) (IntKind.wrap .i64 (t39.1 + (2 : Int))) (if ((4611686018427387905 : Int) < (IntKind.wrap .u64 ((Go.Proofs.R.mget (Go.Proofs.R.Ty.int Go.IntKind.i64) (0 : Int) (IntKind.wrap .i64 (t39.1 + (2 : Int))) ([] : (List (Int × Int)))).1 + t39.2))) then (4611686018427387905 : Int) else (IntKind.wrap .u64 ((Go.Proofs.R.mget (Go.Proofs.R.Ty.int Go.IntKind.i64) (0 : Int) (IntKind.wrap .i64 (t39.1 + (2 : Int))) ([] : (List (Int × Int)))).1 + t39.2))) ([] : (List (Int × Int)))) p2)
  (route_Ways.l18_9 p0 (Go.Proofs.R.seenAdd p1 t37) p2) := (loopAt_step ctx 32 18 _).trans (by kernel_rfl)
theorem dag_Valid.l7_4_eq : dag_Valid.l7_4 =
 some ((0 : Int), ()) := (loopAt_step ctx 33 7 _).trans (by kernel_rfl)
theorem route_backwards.l3_eq : route_backwards.l3 =
 route_backwards.l3_1 := (loopAt_step ctx 53 3 _).trans (by kernel_rfl)
theorem route_Ways.l18_13_eq (p0 : (List (Int × Int))) : route_Ways.l18_13 p0 =
 eachB (((0 : Int), (1 : Int)) :: ([] : (List (Int × Int)))) (1 : Nat) ([] : (List Nat))
  (route_Ways.l14_9 p0) fun t49 t50 =>
  bindD ((Go.Proofs.R.entryAt (((0 : Int), (1 : Int)) :: ([] : (List (Int × Int)))) (1 : Nat) (Go.Proofs.R.seenAdd ([] : (List Nat)) t49))) fun t51 =>
  ifB (decide ((IntKind.wrap .i64 (t51.1 + (3 : Int))) ≤ (2 : Int)))
  (route_Ways.l18_15 (Go.Proofs.R.seenAdd ([] : (List Nat)) t49) (Go.Proofs.R.mput (Go.Proofs.R.Ty.int Go.IntKind.i64) (IntKind.wrap .i64 (t51.1 + (3 : Int))) (if ((4611686018427387905 : Int) < (IntKind.wrap .u64 ((Go.Proofs.R.mget (Go.Proofs.R.Ty.int Go.IntKind.i64) (0 : Int) (IntKind.wrap .i64 (t51.1 + (3 : Int))) ([] : (List (Int × Int)))).1 + t51.2))) then (4611686018427387905 : Int) else (IntKind.wrap .u64 ((Go.Proofs.R.mget (Go.Proofs.R.Ty.int Go.IntKind.i64) (0 : Int) (IntKind.wrap .i64 (t51.1 + (3 : Int))) ([] : (List (Int × Int)))).1 + t51.2))) ([] : (List (Int × Int)))) p0)
  (route_Ways.l18_16 (Go.Proofs.R.seenAdd ([] : (List Nat)) t49) p0) := (loopAt_step ctx 32 18 _).trans (by kernel_rfl)
theorem route_backwards.l3_1_eq : route_backwards.l3_1 =
 route_backwards.l3_2 := (loopAt_step ctx 53 3 _).trans (by kernel_rfl)
theorem route_Ways.l14_9_eq (p0 : (List (Int × Int))) : route_Ways.l14_9 p0 =
 route_Ways.l18_21 (List.length p0) p0 := (loopAt_step ctx 32 14 _).trans (by kernel_rfl)
theorem route_Ways.l18_16_eq (p0 : (List Nat)) (p1 : (List (Int × Int))) : route_Ways.l18_16 p0 p1 =
 eachB (((0 : Int), (1 : Int)) :: ([] : (List (Int × Int)))) (1 : Nat) p0
  (route_Ways.l14_9 p1) fun t58 t59 =>
  bindD ((Go.Proofs.R.entryAt (((0 : Int), (1 : Int)) :: ([] : (List (Int × Int)))) (1 : Nat) (Go.Proofs.R.seenAdd p0 t58))) fun t60 =>
  ifB (decide ((IntKind.wrap .i64 (t60.1 + (3 : Int))) ≤ (2 : Int)))
  (route_Ways.l18_15 (Go.Proofs.R.seenAdd p0 t58) (Go.Proofs.R.mput (Go.Proofs.R.Ty.int Go.IntKind.i64) (IntKind.wrap .i64 (t60.1 + (3 : Int))) (if ((4611686018427387905 : Int) < (IntKind.wrap .u64 ((Go.Proofs.R.mget (Go.Proofs.R.Ty.int Go.IntKind.i64) (0 : Int) (IntKind.wrap .i64 (t60.1 + (3 : Int))) ([] : (List (Int × Int)))).1 + t60.2))) then (4611686018427387905 : Int) else (IntKind.wrap .u64 ((Go.Proofs.R.mget (Go.Proofs.R.Ty.int Go.IntKind.i64) (0 : Int) (IntKind.wrap .i64 (t60.1 + (3 : Int))) ([] : (List (Int × Int)))).1 + t60.2))) ([] : (List (Int × Int)))) p1)
  (route_Ways.l18_16 (Go.Proofs.R.seenAdd p0 t58) p1) := (loopAt_step ctx 32 18 _).trans (by kernel_rfl)
theorem route_backwards.l3_2_eq : route_backwards.l3_2 =
 route_backwards.l3_3 := (loopAt_step ctx 53 3 _).trans (by kernel_rfl)
theorem route_Ways.l18_21_eq (p0 : Nat) (p1 : (List (Int × Int))) : route_Ways.l18_21 p0 p1 =
 eachB p1 p0 ([] : (List Nat))
  (route_Ways.l14_13 p1) fun t73 t74 =>
  bindD ((Go.Proofs.R.entryAt p1 p0 (Go.Proofs.R.seenAdd ([] : (List Nat)) t73))) fun t75 =>
  ifB (decide ((IntKind.wrap .i64 (t75.1 + (2 : Int))) ≤ (2 : Int)))
  (route_Ways.l18_22 p0 (Go.Proofs.R.seenAdd ([] : (List Nat)) t73) (Go.Proofs.R.mput (Go.Proofs.R.Ty.int Go.IntKind.i64) (IntKind.wrap .i64 (t75.1 + (2 : Int))) (if ((4611686018427387905 : Int) < (IntKind.wrap .u64 ((Go.Proofs.R.mget (Go.Proofs.R.Ty.int Go.IntKind.i64) (0 : Int) (IntKind.wrap .i64 (t75.1 + (2 : Int))) ([] : (List (Int × Int)))).1 + t75.2))) then (4611686018427387905 : Int) else (IntKind.wrap .u64 ((Go.Proofs.R.mget (Go.Proofs.R.Ty.int Go.IntKind.i64) (0 : Int) (IntKind.wrap .i64 (t75.1 + (2 : Int))) ([] : (List (Int × Int)))).1 + t75.2))) ([] : (List (Int × Int)))) p1)
  (route_Ways.l18_23 p0 (Go.Proofs.R.seenAdd ([] : (List Nat)) t73) p1) := (loopAt_step ctx 32 18 _).trans (by kernel_rfl)
theorem route_backwards.l3_3_eq : route_backwards.l3_3 =
 route_backwards.l3_4 := (loopAt_step ctx 53 3 _).trans (by kernel_rfl)
theorem route_Ways.l25_eq : route_Ways.l25 =
 eachB ([] : (List (Int × Int))) (0 : Nat) ([] : (List Nat))
  (some ((IntKind.wrap .i64 (0 : Int)), ((0 : Int), ()))) fun t76 t77 =>
  bindD ((Go.Proofs.R.entryAt ([] : (List (Int × Int))) (0 : Nat) (Go.Proofs.R.seenAdd ([] : (List Nat)) t76))) fun t78 =>
  route_Ways.l25_1 (if ((4611686018427387905 : Int) < (IntKind.wrap .u64 ((0 : Int) + t78.2))) then (4611686018427387905 : Int) else (IntKind.wrap .u64 ((0 : Int) + t78.2))) (Go.Proofs.R.seenAdd ([] : (List Nat)) t76) := (loopAt_step ctx 32 25 _).trans (by kernel_rfl)
theorem route_Ways.l14_13_eq (p0 : (List (Int × Int))) : route_Ways.l14_13 p0 =
 route_Ways.l25 := (loopAt_step ctx 32 14 _).trans (by kernel_rfl)
theorem route_Ways.l18_23_eq (p0 : Nat) (p1 : (List Nat)) (p2 : (List (Int × Int))) : route_Ways.l18_23 p0 p1 p2 =
 eachB p2 p0 p1
  (route_Ways.l14_13 p2) fun t82 t83 =>
  bindD ((Go.Proofs.R.entryAt p2 p0 (Go.Proofs.R.seenAdd p1 t82))) fun t84 =>
  ifB (decide ((IntKind.wrap .i64 (t84.1 + (2 : Int))) ≤ (2 : Int)))
  (route_Ways.l18_22 p0 (Go.Proofs.R.seenAdd p1 t82) (Go.Proofs.R.mput (Go.Proofs.R.Ty.int Go.IntKind.i64) (IntKind.wrap .i64 (t84.1 + (2 : Int))) (if ((4611686018427387905 : Int) < (IntKind.wrap .u64 ((Go.Proofs.R.mget (Go.Proofs.R.Ty.int Go.IntKind.i64) (0 : Int) (IntKind.wrap .i64 (t84.1 + (2 : Int))) ([] : (List (Int × Int)))).1 + t84.2))) then (4611686018427387905 : Int) else (IntKind.wrap .u64 ((Go.Proofs.R.mget (Go.Proofs.R.Ty.int Go.IntKind.i64) (0 : Int) (IntKind.wrap .i64 (t84.1 + (2 : Int))) ([] : (List (Int × Int)))).1 + t84.2))) ([] : (List (Int × Int)))) p2)
  (route_Ways.l18_23 p0 (Go.Proofs.R.seenAdd p1 t82) p2) := (loopAt_step ctx 32 18 _).trans (by kernel_rfl)
theorem route_backwards.l3_4_eq : route_backwards.l3_4 =
 bindD (sortB true (fun t88 t89 => bindD (route_backwards_1.f t88 t89) fun t90 =>
  some t90.1) ((0 : Int) :: ((1 : Int) :: ((2 : Int) :: ((3 : Int) :: ([] : (List Int))))))) fun t91 =>
 some (t91, ()) := (loopAt_step ctx 53 3 _).trans (by kernel_rfl)
theorem route_backwards_1.f_eq (p0 : Int) (p1 : Int) : route_backwards_1.f p0 p1 =
 bindD ((ixAt (((0 : Int), ((1 : Int), (2 : Int))) :: (((1 : Int), ((2 : Int), (1 : Int))) :: (((0 : Int), ((2 : Int), (3 : Int))) :: (((0 : Int), ((1 : Int), (2 : Int))) :: ([] : (List (Int × (Int × Int)))))))) p1)) fun t98 =>
 bindD ((ixAt (((0 : Int), ((1 : Int), (2 : Int))) :: (((1 : Int), ((2 : Int), (1 : Int))) :: (((0 : Int), ((2 : Int), (3 : Int))) :: (((0 : Int), ((1 : Int), (2 : Int))) :: ([] : (List (Int × (Int × Int)))))))) p0)) fun t99 =>
 bindD (cmp_Compare_int.f t98.1 t99.1) fun t100 =>
 some (t100.1, ()) := (Einf_call ctx 65 _).trans (by kernel_rfl)
theorem cmp_Compare_int.f_eq (p0 : Int) (p1 : Int) : cmp_Compare_int.f p0 p1 =
 bindD (cmp_isNaN_int.f p0) fun t104 =>
 bindD (cmp_isNaN_int.f p1) fun t105 =>
 ifB t104.1
  (ifB t105.1
  (some ((0 : Int), ()))
  (some ((-(1 : Int)), ())))
 (ifB t105.1
  (some ((1 : Int), ()))
  (ifB (decide (p0 < p1))
   (some ((-(1 : Int)), ()))
  (ifB (decide (p0 > p1))
   (some ((1 : Int), ()))
   (some ((0 : Int), ()))))) := (Einf_call ctx 66 _).trans (by kernel_rfl)
theorem cmp_isNaN_int.f_eq (p0 : Int) : cmp_isNaN_int.f p0 =
 some ((p0 != p0), ()) := (Einf_call ctx 76 _).trans (by kernel_rfl)
end Go.Proofs.C10X
