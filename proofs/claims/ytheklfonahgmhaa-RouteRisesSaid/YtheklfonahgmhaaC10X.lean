/- C10X: what the row's functions are, as the evaluator tells them. No condition. -/
import Derived.Test.YtheklfonahgmhaaProg
import Derived.Test.YtheklfonahgmhaaMachine0
set_option linter.unusedVariables false
set_option linter.unusedSimpArgs false
namespace Go.Proofs.C10X
open Go Go.Proofs.R
def te : List (TypeId × TE) := [
 (1, ⟨.func, none, 1, [], [.undef]⟩),
 (2, ⟨(.int .i64), some (.int .i64), 1, [], [(.v (.int .i64) (0 : Int))]⟩),
 (3, ⟨(.int .i64), some (.int .i64), 1, [], [(.v (.int .i64) (0 : Int))]⟩),
 (4, ⟨.bool, some .bool, 1, [], [(.v .bool false)]⟩),
 (22, ⟨(.slice 52), some (.sl (.pair (.int .i64) (.pair (.int .i64) (.int .i64)))), 1, [], [(.nil 52 (.pair (.int .i64) (.pair (.int .i64) (.int .i64))))]⟩),
 (24, ⟨(.struct [3, 22]), some (.pair (.int .i64) (.sl (.pair (.int .i64) (.pair (.int .i64) (.int .i64))))), 2, [0, 1], [(.v (.int .i64) (0 : Int)), (.nil 52 (.pair (.int .i64) (.pair (.int .i64) (.int .i64))))]⟩),
 (27, ⟨(.slice 3), some (.sl (.int .i64)), 1, [], [(.nil 3 (.int .i64))]⟩),
 (28, ⟨(.int .i64), some (.int .i64), 1, [], [(.v (.int .i64) (0 : Int))]⟩),
 (52, ⟨(.struct [3, 3, 3]), some (.pair (.int .i64) (.pair (.int .i64) (.int .i64))), 3, [0, 1, 2], [(.v (.int .i64) (0 : Int)), (.v (.int .i64) (0 : Int)), (.v (.int .i64) (0 : Int))]⟩),
 (60, ⟨.func, none, 1, [], [.undef]⟩),
 (77, ⟨(.slice 78), none, 1, [], [.undef]⟩),
 (78, ⟨(.map 3 79), none, 1, [], [.undef]⟩),
 (79, ⟨(.int .u64), some (.int .u64), 1, [], [(.v (.int .u64) (0 : Int))]⟩),
 (87, ⟨.func, none, 1, [], [.undef]⟩)]
def retTab : List (Nat × RetD) := [
 (32, [(false, [.ro (.int .i64)]), (false, [.ro (.int .i64)])]),
 (33, [(false, [.ro (.int .i64)])]),
 (53, [(false, [.fresh 3 (.int .i64)])]),
 (54, [(false, [.ro .bool])]),
 (64, []),
 (65, [(false, [.ro (.int .i64)])]),
 (66, [(false, [.ro (.int .i64)])]),
 (76, [(false, [.ro .bool])])]
noncomputable def fnTab : List (FuncId × Func) := [(32, Try.f32), (33, Try.f33), (53, Try.f53), (54, Try.f54), (65, Try.f65), (66, Try.f66), (76, Try.f76)]
def keepTab : List (Nat × (List Nat × List (Nat × Option Nat))) := [
 (32025, ([14, 102], [])),
 (32018, ([1, 2, 7, 11, 48, 49, 50, 64], [(2, some 1), (7, none), (48, none)])),
 (32014, ([1, 2, 7, 48, 49, 50], [(2, some 1), (7, none), (48, none)])),
 (32008, ([1, 2, 7, 32, 33], [(2, some 1), (7, none)])),
 (33007, ([3, 22, 23, 24], [(22, none)])),
 (53003, ([1, 3, 10, 11], [(1, some 1), (3, none)]))]
def joinTab : List (Nat × (List Nat × List (Nat × Option Nat))) := []
noncomputable def givenTab : List (FuncId × Given) := []
def intrTab : List (FuncId × Intr) := [(64, .sort 27 false true)]
def shapeTab : List (FuncId × List BoxS) := []
noncomputable def ctx : Ctx where
 te := te
 ret f := (lkp retTab f).getD []
 fn := fnTab
 keep f r := lkp keepTab (f * 1000 + r)
 joins f r := lkp joinTab (f * 1000 + r)
 given f := lkpG givenTab f
 intr f := lkpI intrTab f
end Go.Proofs.C10X
