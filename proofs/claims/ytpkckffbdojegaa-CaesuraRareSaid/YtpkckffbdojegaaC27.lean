/- C27: what the row's functions are, as the evaluator tells them. No condition. -/
import Derived.Test.YtpkckffbdojegaaProg
import Derived.Test.YtpkckffbdojegaaMachine0
set_option linter.unusedVariables false
set_option linter.unusedSimpArgs false
namespace Go.Proofs.C27
open Go Go.Proofs.R

def te : List (TypeId × TE) := [
  (1, ⟨.func, none, 1, [], [.undef]⟩),
  (2, ⟨(.int .i64), some (.int .i64), 1, [], [(.v (.int .i64) (0 : Int))]⟩),
  (3, ⟨(.int .i64), some (.int .i64), 1, [], [(.v (.int .i64) (0 : Int))]⟩),
  (4, ⟨.bool, some .bool, 1, [], [(.v .bool false)]⟩),
  (5, ⟨(.int .u8), some (.int .u8), 1, [], [(.v (.int .u8) (0 : Int))]⟩),
  (6, ⟨(.int .u8), some (.int .u8), 1, [], [(.v (.int .u8) (0 : Int))]⟩),
  (9, ⟨.str, some .str, 1, [], [(.v .str (ByteArray.mk #[]))]⟩),
  (23, ⟨(.slice 5), some (.sl (.int .u8)), 1, [], [(.nil 5 (.int .u8))]⟩),
  (38, ⟨(.slice 3), some (.sl (.int .i64)), 1, [], [(.nil 3 (.int .i64))]⟩),
  (40, ⟨(.slice 56), some (.sl (.pair .str (.pair (.int .i64) (.int .i64)))), 1, [], [(.nil 56 (.pair .str (.pair (.int .i64) (.int .i64))))]⟩),
  (41, ⟨(.slice 107), some (.sl (.pair .str (.pair (.int .i64) .bool))), 1, [], [(.nil 107 (.pair .str (.pair (.int .i64) .bool)))]⟩),
  (43, ⟨(.struct [40, 38, 41]), some (.pair (.sl (.pair .str (.pair (.int .i64) (.int .i64)))) (.pair (.sl (.int .i64)) (.sl (.pair .str (.pair (.int .i64) .bool))))), 3, [0, 1, 2], [(.nil 56 (.pair .str (.pair (.int .i64) (.int .i64)))), (.nil 3 (.int .i64)), (.nil 107 (.pair .str (.pair (.int .i64) .bool)))]⟩),
  (44, ⟨(.int .i64), some (.int .i64), 1, [], [(.v (.int .i64) (0 : Int))]⟩),
  (47, ⟨(.slice 54), some (.sl (.pair (.int .i64) (.pair (.int .i64) (.pair (.int .i64) (.pair (.int .i64) (.sl .str)))))), 1, [], [(.nil 54 (.pair (.int .i64) (.pair (.int .i64) (.pair (.int .i64) (.pair (.int .i64) (.sl .str))))))]⟩),
  (52, ⟨(.slice 9), some (.sl .str), 1, [], [(.nil 9 .str)]⟩),
  (54, ⟨(.struct [3, 3, 3, 3, 52]), some (.pair (.int .i64) (.pair (.int .i64) (.pair (.int .i64) (.pair (.int .i64) (.sl .str))))), 5, [0, 1, 2, 3, 4], [(.v (.int .i64) (0 : Int)), (.v (.int .i64) (0 : Int)), (.v (.int .i64) (0 : Int)), (.v (.int .i64) (0 : Int)), (.nil 9 .str)]⟩),
  (56, ⟨(.struct [9, 3, 3]), some (.pair .str (.pair (.int .i64) (.int .i64))), 3, [0, 1, 2], [(.v .str (ByteArray.mk #[])), (.v (.int .i64) (0 : Int)), (.v (.int .i64) (0 : Int))]⟩),
  (76, ⟨.func, none, 1, [], [.undef]⟩),
  (105, ⟨.func, none, 1, [], [.undef]⟩),
  (107, ⟨(.struct [9, 3, 4]), some (.pair .str (.pair (.int .i64) .bool)), 3, [0, 1, 2], [(.v .str (ByteArray.mk #[])), (.v (.int .i64) (0 : Int)), (.v .bool false)]⟩),
  (109, ⟨(.map 3 9), none, 1, [], [.undef]⟩),
  (110, ⟨(.ptr 112), none, 1, [], [.nilp]⟩),
  (112, ⟨(.struct [110, 23]), none, 2, [0, 1], [.nilp, (.nil 5 (.int .u8))]⟩)]
def retTab : List (Nat × RetD) := [
  (4, [(false, [.ro .bool])]),
  (5, [(false, [.ro .bool])]),
  (6, [(false, [.ro .bool])]),
  (11, [(false, [.ro .bool])]),
  (15, [(false, [.fresh 54 (.pair (.int .i64) (.pair (.int .i64) (.pair (.int .i64) (.pair (.int .i64) (.sl .str)))))]), (false, [.ro (.int .i64)])]),
  (16, [(false, [.fresh 3 (.int .i64)]), (false, [.ro (.int .i64)])]),
  (17, [(false, [.ro .bool])]),
  (18, [(false, [.ro .bool])]),
  (19, [(false, [.fresh 3 (.int .i64)])]),
  (20, [(false, [.fresh 54 (.pair (.int .i64) (.pair (.int .i64) (.pair (.int .i64) (.pair (.int .i64) (.sl .str)))))]), (false, [.ro (.int .i64)])]),
  (21, [(false, [.ro .bool])]),
  (22, [(false, [.fresh 3 (.int .i64)]), (false, [.ro (.int .i64)])]),
  (23, [(false, [.ro .str]), (false, [.ro (.int .i64)])]),
  (24, [(false, [.fresh 54 (.pair (.int .i64) (.pair (.int .i64) (.pair (.int .i64) (.pair (.int .i64) (.sl .str)))))])]),
  (25, [(false, [.ro .str]), (false, [.ro (.int .i64)])]),
  (31, [(false, [.ro .bool])]),
  (40, [(false, [.ro .bool])]),
  (50, [(false, [.ro (.int .i64)])]),
  (51, [(false, [.ro .bool])]),
  (52, [(false, [.ro .bool])]),
  (53, [(false, [.ro (.int .i64)])]),
  (54, [(false, [.ro .bool])]),
  (55, [(false, [.ro (.int .i64)])]),
  (56, [(false, [.ro .bool])]),
  (57, [(false, [.ro .bool])]),
  (58, [(true, [.ro (.int .i64), .ro (.int .i64), .ro (.int .i64), .ro (.int .i64), .ro (.sl .str)])]),
  (59, [(false, [.ro (.int .i64)]), (false, [.ro .unit])]),
  (60, [(false, [.ro .str])]),
  (69, [(false, [.ro (.int .i64)])]),
  (84, [(false, [.ro .bool])]),
  (91, [(false, [.ro .bool])])]
noncomputable def fnTab : List (FuncId × Func) := [(4, Try.f4), (5, Try.f5), (6, Try.f6), (11, Try.f11), (15, Try.f15), (16, Try.f16), (17, Try.f17), (18, Try.f18), (19, Try.f19), (20, Try.f20), (21, Try.f21), (22, Try.f22), (23, Try.f23), (24, Try.f24), (25, Try.f25), (31, Try.f31), (40, Try.f40), (50, Try.f50), (51, Try.f51), (52, Try.f52), (53, Try.f53), (54, Try.f54), (55, Try.f55), (56, Try.f56), (57, Try.f57), (58, Try.f58), (69, Try.f69), (84, Try.f84), (91, Try.f91)]
def keepTab : List (Nat × (List Nat × List (Nat × Option Nat))) := [
  (5007, ([0, 3, 4, 5, 6, 7, 29, 30, 31], [(3, none), (5, none), (29, none)])),
  (15016, ([0, 3, 7, 8, 10, 59, 60, 61], [(3, some 0), (3, some 1), (3, some 2), (7, none), (10, some 4), (59, none)])),
  (15008, ([0, 3, 7, 8], [(3, some 0), (3, some 1), (3, some 2), (7, none)])),
  (16007, ([0, 5, 6, 7], [(5, none)])),
  (17004, ([0, 1, 12, 13], [])),
  (18009, ([1, 3, 5], [(1, some 0), (1, some 1), (1, some 2)])),
  (18005, ([1, 3, 4], [(1, some 0), (1, some 1), (1, some 2)])),
  (20008, ([0, 3, 7, 8], [(3, some 0), (3, some 1), (3, some 2), (7, none)])),
  (21004, ([0, 1, 5], [])),
  (22007, ([0, 5, 6, 7], [(5, none)])),
  (23020, ([7, 10, 67, 68, 69], [(10, some 1), (67, none)])),
  (23006, ([0, 1, 7, 19, 20, 21], [(19, none)])),
  (25018, ([0, 1, 8, 9, 10], [])),
  (25015, ([0, 1, 8, 9], [])),
  (25005, ([0, 1, 7], [])),
  (51003, ([1, 5, 8, 9, 10], [(8, none)])),
  (53002, ([0, 1, 7, 8], [])),
  (55004, ([0, 3], [])),
  (56003, ([0, 1, 5, 6], [])),
  (58012, ([1, 2, 4, 5, 8], [(2, some 0), (2, some 1), (2, some 2), (4, some 4), (5, some 4)])),
  (58003, ([1, 2, 4, 5, 6], [(2, some 0), (2, some 1), (2, some 2), (4, some 4), (5, some 4)])),
  (69002, ([0, 1, 7, 8], [])),
  (84004, ([0, 1, 5], []))]
def joinTab : List (Nat × (List Nat × List (Nat × Option Nat))) := []
noncomputable def givenTab : List (FuncId × Given) := [(19, cloneG), (24, cloneG)]
def intrTab : List (FuncId × Intr) := [(59, .bwrite 112 23 9), (60, .bstr 112 5)]
noncomputable def ctx : Ctx where
  te := te
  ret f := (lkp retTab f).getD []
  fn := fnTab
  keep f r := lkp keepTab (f * 1000 + r)
  joins f r := lkp joinTab (f * 1000 + r)
  given f := lkpG givenTab f
  intr f := lkpI intrTab f
end Go.Proofs.C27
