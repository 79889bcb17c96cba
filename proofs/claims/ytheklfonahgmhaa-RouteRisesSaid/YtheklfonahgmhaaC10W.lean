/- C10W: what the row's functions are, as the evaluator tells them. No condition. -/
import Derived.Test.YtheklfonahgmhaaProg
import Derived.Test.YtheklfonahgmhaaMachine0
set_option linter.unusedVariables false
set_option linter.unusedSimpArgs false
namespace Go.Proofs.C10W
open Go Go.Proofs.R
def te : List (TypeId × TE) := [
 (1, ⟨.func, none, 1, [], [.undef]⟩),
 (2, ⟨(.int .i64), some (.int .i64), 1, [], [(.v (.int .i64) (0 : Int))]⟩),
 (3, ⟨(.int .i64), some (.int .i64), 1, [], [(.v (.int .i64) (0 : Int))]⟩),
 (4, ⟨.bool, some .bool, 1, [], [(.v .bool false)]⟩),
 (22, ⟨(.slice 52), some (.sl (.pair (.int .i64) (.pair (.int .i64) (.int .i64)))), 1, [], [(.nil 52 (.pair (.int .i64) (.pair (.int .i64) (.int .i64))))]⟩),
 (24, ⟨(.struct [3, 22]), some (.pair (.int .i64) (.sl (.pair (.int .i64) (.pair (.int .i64) (.int .i64))))), 2, [0, 1], [(.v (.int .i64) (0 : Int)), (.nil 52 (.pair (.int .i64) (.pair (.int .i64) (.int .i64))))]⟩),
 (27, ⟨(.slice 3), some (.sl (.int .i64)), 1, [], [(.nil 3 (.int .i64))]⟩),
 (37, ⟨(.slice 27), some (.sl (.sl (.int .i64))), 1, [], [(.nil 27 (.sl (.int .i64)))]⟩),
 (52, ⟨(.struct [3, 3, 3]), some (.pair (.int .i64) (.pair (.int .i64) (.int .i64))), 3, [0, 1, 2], [(.v (.int .i64) (0 : Int)), (.v (.int .i64) (0 : Int)), (.v (.int .i64) (0 : Int))]⟩),
 (75, ⟨(.slice 2), some (.sl (.int .i64)), 1, [], [(.nil 2 (.int .i64))]⟩),
 (96, ⟨.func, none, 1, [], [.undef]⟩),
 (97, ⟨.func, none, 1, [], [.undef]⟩),
 (112, ⟨.func, none, 1, [], [.undef]⟩)]
def retTab : List (Nat × RetD) := [
 (67, [(false, [.fresh 2 (.int .i64)])]),
 (68, [(false, [.fresh 27 (.sl (.int .i64))])]),
 (77, [(false, [.ro .unit])]),
 (78, [(false, [.ro (.int .i64)])]),
 (91, [])]
noncomputable def fnTab : List (FuncId × Func) := [(67, Try.f67), (68, Try.f68), (77, Try.f77), (78, Try.f78), (91, Try.f91)]
def keepTab : List (Nat × (List Nat × List (Nat × Option Nat))) := [
 (67007, ([1, 3, 4, 5, 19, 20, 21, 22, 23, 2097152], [(1, some 1), (3, some 0), (5, none), (21, none)])),
 (68003, ([3, 10, 11, 12], [(3, none), (10, none)])),
 (91001, ([0, 1, 3], []))]
def joinTab : List (Nat × (List Nat × List (Nat × Option Nat))) := []
noncomputable def givenTab : List (FuncId × Given) := []
def intrTab : List (FuncId × Intr) := []
def shapeTab : List (FuncId × List BoxS) := []
noncomputable def ctx : Ctx where
 te := te
 ret f := (lkp retTab f).getD []
 fn := fnTab
 keep f r := lkp keepTab (f * 1000 + r)
 joins f r := lkp joinTab (f * 1000 + r)
 given f := lkpG givenTab f
 intr f := lkpI intrTab f
 rowsT := [37]
end Go.Proofs.C10W
