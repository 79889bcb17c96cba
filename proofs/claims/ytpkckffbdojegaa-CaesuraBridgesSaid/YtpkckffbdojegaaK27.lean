/- K27: what the row's functions are, as the evaluator tells them. No condition. -/
import Derived.Test.YtpkckffbdojegaaProg
import Derived.Test.YtpkckffbdojegaaMachine0
set_option linter.unusedVariables false
set_option linter.unusedSimpArgs false
namespace Go.Proofs.K27
open Go Go.Proofs.R

def te : List (TypeId × TE) := [
  (1, ⟨.func, none, 1, [], [.undef]⟩),
  (2, ⟨(.int .i64), some (.int .i64), 1, [], [(.v (.int .i64) (0 : Int))]⟩),
  (3, ⟨(.int .i64), some (.int .i64), 1, [], [(.v (.int .i64) (0 : Int))]⟩),
  (4, ⟨.bool, some .bool, 1, [], [(.v .bool false)]⟩),
  (5, ⟨(.int .u8), some (.int .u8), 1, [], [(.v (.int .u8) (0 : Int))]⟩),
  (6, ⟨(.int .u8), some (.int .u8), 1, [], [(.v (.int .u8) (0 : Int))]⟩),
  (9, ⟨.str, some .str, 1, [], [(.v .str (ByteArray.mk #[]))]⟩),
  (23, ⟨(.slice 5), some (.sl (.int .u8)), 1, [], [(.nil 5 (.int .u8))]⟩),
  (38, ⟨(.slice 3), some (.sl (.int .i64)), 1, [], [(.nil 3 (.int .i64))]⟩),
  (40, ⟨(.slice 56), some (.sl (.pair .str (.pair (.int .i64) (.int .i64)))), 1, [], [(.nil 56 (.pair .str (.pair (.int .i64) (.int .i64))))]⟩),
  (41, ⟨(.slice 107), some (.sl (.pair .str (.pair (.int .i64) .bool))), 1, [], [(.nil 107 (.pair .str (.pair (.int .i64) .bool)))]⟩),
  (43, ⟨(.struct [40, 38, 41]), some (.pair (.sl (.pair .str (.pair (.int .i64) (.int .i64)))) (.pair (.sl (.int .i64)) (.sl (.pair .str (.pair (.int .i64) .bool))))), 3, [0, 1, 2], [(.nil 56 (.pair .str (.pair (.int .i64) (.int .i64)))), (.nil 3 (.int .i64)), (.nil 107 (.pair .str (.pair (.int .i64) .bool)))]⟩),
  (44, ⟨(.int .i64), some (.int .i64), 1, [], [(.v (.int .i64) (0 : Int))]⟩),
  (47, ⟨(.slice 54), some (.sl (.pair (.int .i64) (.pair (.int .i64) (.pair (.int .i64) (.pair (.int .i64) (.sl .str)))))), 1, [], [(.nil 54 (.pair (.int .i64) (.pair (.int .i64) (.pair (.int .i64) (.pair (.int .i64) (.sl .str))))))]⟩),
  (52, ⟨(.slice 9), some (.sl .str), 1, [], [(.nil 9 .str)]⟩),
  (54, ⟨(.struct [3, 3, 3, 3, 52]), some (.pair (.int .i64) (.pair (.int .i64) (.pair (.int .i64) (.pair (.int .i64) (.sl .str))))), 5, [0, 1, 2, 3, 4], [(.v (.int .i64) (0 : Int)), (.v (.int .i64) (0 : Int)), (.v (.int .i64) (0 : Int)), (.v (.int .i64) (0 : Int)), (.nil 9 .str)]⟩),
  (56, ⟨(.struct [9, 3, 3]), some (.pair .str (.pair (.int .i64) (.int .i64))), 3, [0, 1, 2], [(.v .str (ByteArray.mk #[])), (.v (.int .i64) (0 : Int)), (.v (.int .i64) (0 : Int))]⟩),
  (68, ⟨(.slice 38), some (.sl (.sl (.int .i64))), 1, [], [(.nil 38 (.sl (.int .i64)))]⟩),
  (69, ⟨(.slice 4), some (.sl .bool), 1, [], [(.nil 4 .bool)]⟩),
  (71, ⟨(.struct [3, 3, 68, 69]), some (.pair (.int .i64) (.pair (.int .i64) (.pair (.sl (.sl (.int .i64))) (.sl .bool)))), 4, [0, 1, 2, 3], [(.v (.int .i64) (0 : Int)), (.v (.int .i64) (0 : Int)), (.nil 38 (.sl (.int .i64))), (.nil 4 .bool)]⟩),
  (76, ⟨.func, none, 1, [], [.undef]⟩),
  (105, ⟨.func, none, 1, [], [.undef]⟩),
  (107, ⟨(.struct [9, 3, 4]), some (.pair .str (.pair (.int .i64) .bool)), 3, [0, 1, 2], [(.v .str (ByteArray.mk #[])), (.v (.int .i64) (0 : Int)), (.v .bool false)]⟩),
  (109, ⟨(.map 3 9), none, 1, [], [.undef]⟩),
  (110, ⟨(.ptr 112), none, 1, [], [.nilp]⟩),
  (112, ⟨(.struct [110, 23]), none, 2, [0, 1], [.nilp, (.nil 5 (.int .u8))]⟩),
  (138, ⟨(.slice 69), some (.sl (.sl .bool)), 1, [], [(.nil 69 (.sl .bool))]⟩),
  (139, ⟨(.map 3 4), none, 1, [], [.undef]⟩)]
def retTab : List (Nat × RetD) := [
  (7, [(false, [.ro .bool])]),
  (11, [(false, [.ro .bool])]),
  (15, [(false, [.fresh 54 (.pair (.int .i64) (.pair (.int .i64) (.pair (.int .i64) (.pair (.int .i64) (.sl .str)))))]), (false, [.ro (.int .i64)])]),
  (16, [(false, [.fresh 3 (.int .i64)]), (false, [.ro (.int .i64)])]),
  (17, [(false, [.ro .bool])]),
  (23, [(false, [.ro .str]), (false, [.ro (.int .i64)])]),
  (26, [(false, [.ro .bool])]),
  (27, [(false, [.fresh 3 (.int .i64)]), (false, [.ro (.int .i64)])]),
  (28, [(false, [.fresh 3 (.int .i64)]), (false, [.ro (.int .i64)])]),
  (29, [(false, [.fresh 3 (.int .i64)]), (false, [.ro (.int .i64)])]),
  (30, [(false, [.fresh 3 (.int .i64)]), (false, [.ro (.int .i64)])]),
  (31, [(false, [.ro .bool])]),
  (32, [(false, [.ro .bool])]),
  (33, [(false, [.ro .bool])]),
  (50, [(false, [.ro (.int .i64)])]),
  (51, [(false, [.ro .bool])]),
  (52, [(false, [.ro .bool])]),
  (53, [(false, [.ro (.int .i64)])]),
  (54, [(false, [.ro .bool])]),
  (59, [(false, [.ro (.int .i64)]), (false, [.ro .unit])]),
  (60, [(false, [.ro .str])]),
  (61, [(false, [.fresh 3 (.int .i64)]), (false, [.ro (.int .i64)])]),
  (62, [(false, [.fresh 3 (.int .i64)])]),
  (63, [(false, [.ro .bool])]),
  (64, [(false, [.fresh 3 (.int .i64)]), (false, [.ro (.int .i64)])]),
  (65, [(false, [.fresh 3 (.int .i64)])]),
  (66, [(false, [.ro .bool])]),
  (67, [(false, [.ro .bool])]),
  (68, [(false, [.ro (.int .i64)])]),
  (69, [(false, [.ro (.int .i64)])]),
  (70, [(false, [.ro (.int .i64)])]),
  (91, [(false, [.ro .bool])]),
  (93, [(false, [.ro .bool])]),
  (94, [(false, [.ro .bool])]),
  (116, [(false, [.ro (.int .i64)])]),
  (146, [(false, [.ro .bool])])]
noncomputable def fnTab : List (FuncId × Func) := [(7, Try.f7), (11, Try.f11), (15, Try.f15), (16, Try.f16), (17, Try.f17), (23, Try.f23), (26, Try.f26), (27, Try.f27), (28, Try.f28), (29, Try.f29), (30, Try.f30), (31, Try.f31), (32, Try.f32), (33, Try.f33), (50, Try.f50), (51, Try.f51), (52, Try.f52), (53, Try.f53), (54, Try.f54), (61, Try.f61), (62, Try.f62), (63, Try.f63), (64, Try.f64), (65, Try.f65), (66, Try.f66), (67, Try.f67), (68, Try.f68), (69, Try.f69), (70, Try.f70), (91, Try.f91), (93, Try.f93), (94, Try.f94), (116, Try.f116), (146, Try.f146)]
def keepTab : List (Nat × (List Nat × List (Nat × Option Nat))) := [
  (15016, ([0, 3, 7, 8, 10, 59, 60, 61], [(3, some 0), (3, some 1), (3, some 2), (7, none), (10, some 4), (59, none)])),
  (15008, ([0, 3, 7, 8], [(3, some 0), (3, some 1), (3, some 2), (7, none)])),
  (16007, ([0, 5, 6, 7], [(5, none)])),
  (17004, ([0, 1, 12, 13], [])),
  (23020, ([7, 10, 67, 68, 69], [(10, some 1), (67, none)])),
  (23006, ([0, 1, 7, 19, 20, 21], [(19, none)])),
  (26005, ([1, 3, 4], [(1, some 2), (1, some 3)])),
  (30005, ([1, 2, 6, 7], [(2, some 2), (2, some 3), (6, some 2), (6, some 3)])),
  (51003, ([1, 5, 8, 9, 10], [(8, none)])),
  (53002, ([0, 1, 7, 8], [])),
  (61031, ([1, 2, 6, 10, 12, 13, 14, 91, 92, 93, 104, 105, 106], [(2, some 2), (2, some 3), (6, some 0), (10, none), (13, none), (91, none), (104, none)])),
  (61027, ([1, 2, 6, 10, 12, 13, 14, 91, 92, 93], [(2, some 2), (2, some 3), (6, some 0), (10, none), (13, none), (91, none)])),
  (61023, ([1, 2, 6, 10, 11, 12], [(2, some 2), (2, some 3), (6, some 0), (10, none), (11, none)])),
  (61011, ([1, 2, 6, 7, 8, 31, 32, 40, 41], [(2, some 2), (2, some 3), (6, some 0), (8, none)])),
  (61007, ([1, 2, 6, 31, 32], [(2, some 2), (2, some 3), (6, some 0)])),
  (62003, ([0, 1, 5, 6], [(5, none)])),
  (64033, ([1, 2, 6, 11, 12, 13, 14, 15, 16, 17], [(2, some 2), (2, some 3), (6, none), (11, none), (12, none), (14, none)])),
  (64030, ([1, 2, 6, 11, 12, 13, 14, 15, 16], [(2, some 2), (2, some 3), (6, none), (11, none), (12, none), (14, none)])),
  (64026, ([1, 2, 6, 11, 12, 13], [(2, some 2), (2, some 3), (6, none), (11, none), (12, none)])),
  (64015, ([1, 2, 6, 7, 8, 9], [(2, some 2), (2, some 3), (6, none)])),
  (64011, ([1, 2, 6, 7, 8], [(2, some 2), (2, some 3), (6, none)])),
  (64007, ([1, 2, 6, 7], [(2, some 2), (2, some 3), (6, none)])),
  (65007, ([0, 1, 5, 6, 7, 8], [(5, none)])),
  (65003, ([0, 1, 5, 6], [(5, none)])),
  (67018, ([3, 58], [(3, some 2), (3, some 3)])),
  (67010, ([2, 3, 8, 9, 18, 19, 24, 33, 34, 35], [(3, some 2), (3, some 3), (33, none)])),
  (67007, ([2, 3, 8, 9, 18, 19, 24], [(3, some 2), (3, some 3)])),
  (67003, ([2, 3, 7, 18, 19], [(3, some 2), (3, some 3)])),
  (68012, ([1, 3, 4, 5], [(1, some 2), (1, some 3)])),
  (68007, ([1, 3, 4], [(1, some 2), (1, some 3)])),
  (69002, ([0, 1, 7, 8], [])),
  (70002, ([0, 1, 7, 8], [])),
  (116007, ([1, 3, 47, 48, 49], [(1, some 2), (1, some 3), (47, none)]))]
def joinTab : List (Nat × (List Nat × List (Nat × Option Nat))) := []
noncomputable def givenTab : List (FuncId × Given) := []
def intrTab : List (FuncId × Intr) := [(59, .bwrite 112 23 9), (60, .bstr 112 5)]
noncomputable def ctx : Ctx where
  te := te
  ret f := (lkp retTab f).getD []
  fn := fnTab
  keep f r := lkp keepTab (f * 1000 + r)
  joins f r := lkp joinTab (f * 1000 + r)
  given f := lkpG givenTab f
  intr f := lkpI intrTab f
  rowsT := [138, 1000138]
end Go.Proofs.K27
