/- C28: what the row's functions are, as the evaluator tells them. No condition. -/
import Derived.Test.YtpminieacndmhaaProg
import Derived.Test.YtpminieacndmhaaMachine0
set_option linter.unusedVariables false
set_option linter.unusedSimpArgs false
namespace Go.Proofs.C28
open Go Go.Proofs.R

def te : List (TypeId × TE) := [
  (1, ⟨.func, none, 1, [], [.undef]⟩),
  (2, ⟨(.int .i64), some (.int .i64), 1, [], [(.v (.int .i64) (0 : Int))]⟩),
  (3, ⟨(.int .i64), some (.int .i64), 1, [], [(.v (.int .i64) (0 : Int))]⟩),
  (4, ⟨.bool, some .bool, 1, [], [(.v .bool false)]⟩),
  (5, ⟨(.int .u8), some (.int .u8), 1, [], [(.v (.int .u8) (0 : Int))]⟩),
  (6, ⟨(.int .u8), some (.int .u8), 1, [], [(.v (.int .u8) (0 : Int))]⟩),
  (22, ⟨(.slice 28), some (.sl (.sl (.int .i64))), 1, [], [(.nil 28 (.sl (.int .i64)))]⟩),
  (23, ⟨(.slice 4), some (.sl .bool), 1, [], [(.nil 4 .bool)]⟩),
  (25, ⟨(.struct [3, 3, 22, 23]), some (.pair (.int .i64) (.pair (.int .i64) (.pair (.sl (.sl (.int .i64))) (.sl .bool)))), 4, [0, 1, 2, 3], [(.v (.int .i64) (0 : Int)), (.v (.int .i64) (0 : Int)), (.nil 28 (.sl (.int .i64))), (.nil 4 .bool)]⟩),
  (28, ⟨(.slice 3), some (.sl (.int .i64)), 1, [], [(.nil 3 (.int .i64))]⟩),
  (29, ⟨(.slice 2), some (.sl (.int .i64)), 1, [], [(.nil 2 (.int .i64))]⟩),
  (31, ⟨(.struct [4, 4, 4, 28, 29, 29, 29]), some (.pair .bool (.pair .bool (.pair .bool (.pair (.sl (.int .i64)) (.pair (.sl (.int .i64)) (.pair (.sl (.int .i64)) (.sl (.int .i64)))))))), 7, [0, 1, 2, 3, 4, 5, 6], [(.v .bool false), (.v .bool false), (.v .bool false), (.nil 3 (.int .i64)), (.nil 2 (.int .i64)), (.nil 2 (.int .i64)), (.nil 2 (.int .i64))]⟩),
  (32, ⟨(.int .i64), some (.int .i64), 1, [], [(.v (.int .i64) (0 : Int))]⟩),
  (37, ⟨(.slice 5), some (.sl (.int .u8)), 1, [], [(.nil 5 (.int .u8))]⟩),
  (38, ⟨(.int .u16), some (.int .u16), 1, [], [(.v (.int .u16) (0 : Int))]⟩),
  (40, ⟨(.struct [5, 37, 38]), some (.pair (.int .u8) (.pair (.sl (.int .u8)) (.int .u16))), 3, [0, 1, 2], [(.v (.int .u8) (0 : Int)), (.nil 5 (.int .u8)), (.v (.int .u16) (0 : Int))]⟩),
  (49, ⟨(.slice 53), some (.sl (.pair (.int .i64) (.int .i64))), 1, [], [(.nil 53 (.pair (.int .i64) (.int .i64)))]⟩),
  (53, ⟨(.struct [3, 3]), some (.pair (.int .i64) (.int .i64)), 2, [0, 1], [(.v (.int .i64) (0 : Int)), (.v (.int .i64) (0 : Int))]⟩),
  (67, ⟨(.map 53 2), none, 1, [], [.undef]⟩),
  (68, ⟨.func, none, 1, [], [.undef]⟩),
  (72, ⟨(.struct [49, 22]), some (.pair (.sl (.pair (.int .i64) (.int .i64))) (.sl (.sl (.int .i64)))), 2, [0, 1], [(.nil 53 (.pair (.int .i64) (.int .i64))), (.nil 28 (.sl (.int .i64)))]⟩),
  (77, ⟨(.slice 79), some (.sl (.pair (.pair (.int .i64) (.int .i64)) (.pair (.int .i64) (.int .i64)))), 1, [], [(.nil 79 (.pair (.pair (.int .i64) (.int .i64)) (.pair (.int .i64) (.int .i64))))]⟩),
  (79, ⟨(.struct [53, 3, 3]), some (.pair (.pair (.int .i64) (.int .i64)) (.pair (.int .i64) (.int .i64))), 4, [0, 2, 3], [(.v (.int .i64) (0 : Int)), (.v (.int .i64) (0 : Int)), (.v (.int .i64) (0 : Int)), (.v (.int .i64) (0 : Int))]⟩),
  (81, ⟨.func, none, 1, [], [.undef]⟩),
  (96, ⟨(.map 53 4), none, 1, [], [.undef]⟩),
  (98, ⟨.func, none, 1, [], [.undef]⟩)]
def retTab : List (Nat × RetD) := [
  (3, [(false, [.ro .bool])]),
  (4, [(false, [.ro .bool])]),
  (5, [(false, [.ro .bool])]),
  (6, [(false, [.ro .bool])]),
  (11, [(false, [.ro .bool])]),
  (12, [(false, [.ro .bool])]),
  (13, [(true, [.ro .bool, .ro .bool, .ro .bool, .ro (.sl (.int .i64)), .ro (.sl (.int .i64)), .ro (.sl (.int .i64)), .ro (.sl (.int .i64))]), (false, [.ro (.int .i64)])]),
  (14, [(true, [.ro .bool, .ro .bool, .ro .bool, .ro (.sl (.int .i64)), .ro (.sl (.int .i64)), .ro (.sl (.int .i64)), .ro (.sl (.int .i64))]), (false, [.ro (.int .i64)])]),
  (15, [(false, [.ro .bool])]),
  (16, [(true, [.ro (.int .i64), .ro (.int .i64), .ro (.sl (.sl (.int .i64))), .ro (.sl .bool)])]),
  (17, [(false, [.ro .bool]), (false, [.ro (.int .i64)])]),
  (18, [(false, [.ro .bool]), (false, [.ro (.int .i64)])]),
  (19, [(false, [.ro .bool]), (false, [.ro (.int .i64)])]),
  (20, [(false, [.ro .bool]), (false, [.ro (.int .i64)])]),
  (21, [(false, [.ro .bool]), (false, [.ro (.int .i64)])]),
  (22, [(false, [.ro .bool]), (false, [.ro (.int .i64)])]),
  (23, [(false, [.fresh 3 (.int .i64)]), (false, [.ro (.int .i64)]), (false, [.ro (.int .i64)])]),
  (24, [(false, [.ro (.sl (.int .i64))]), (false, [.ro (.int .i64)]), (false, [.ro (.int .i64)])]),
  (25, [(false, [.ro .bool])]),
  (26, [(false, [.ro .bool])]),
  (37, [(true, [.ro (.int .i64), .ro (.int .i64), .ro (.sl (.sl (.int .i64))), .ro (.sl .bool)])]),
  (38, [(false, [.ro (.int .i64)])]),
  (39, [(false, [.fresh 3 (.int .i64)]), (false, [.ro (.int .i64)])]),
  (40, [(false, [.ro .bool])]),
  (41, [(false, [.ro .bool])]),
  (42, [(false, [.ro .bool])]),
  (43, [(false, [.ro (.int .i64)])]),
  (44, [(false, [.ro (.int .i64)])]),
  (45, [(false, [.ro (.sl (.int .i64))]), (false, [.ro (.int .i64)])]),
  (46, [(false, [.ro .bool])]),
  (47, [(true, [.ro (.sl (.pair (.int .i64) (.int .i64))), .ro (.sl (.sl (.int .i64)))])]),
  (48, [(false, [.ro .bool])]),
  (49, [(false, [.ro (.int .i64)])]),
  (50, [(false, [.ro (.int .i64)])]),
  (51, [(false, [.ro .bool])]),
  (52, [(false, [.ro .bool])]),
  (53, [(false, [.ro .bool])]),
  (54, [(false, [.fresh 79 (.pair (.pair (.int .i64) (.int .i64)) (.pair (.int .i64) (.int .i64)))])]),
  (55, [(false, [.ro .bool])]),
  (56, [(false, [.ro .bool])]),
  (57, [(false, [.ro (.int .i64)])]),
  (58, [(false, [.ro .bool])]),
  (59, [(false, [.ro (.int .i64)])]),
  (67, []),
  (68, [(false, [.ro .bool])]),
  (69, [(false, [.ro (.int .i64)])]),
  (70, [(false, [.ro (.int .i64)])]),
  (71, [(false, [.ro .bool])]),
  (72, [(false, [.ro .bool])]),
  (73, [(false, [.ro (.int .i64)])]),
  (82, [(false, [.ro (.int .i64)])])]
noncomputable def fnTab : List (FuncId × Func) := [(3, Try.f3), (4, Try.f4), (5, Try.f5), (6, Try.f6), (11, Try.f11), (12, Try.f12), (13, Try.f13), (14, Try.f14), (15, Try.f15), (16, Try.f16), (17, Try.f17), (18, Try.f18), (19, Try.f19), (20, Try.f20), (21, Try.f21), (22, Try.f22), (23, Try.f23), (24, Try.f24), (25, Try.f25), (26, Try.f26), (37, Try.f37), (38, Try.f38), (39, Try.f39), (40, Try.f40), (41, Try.f41), (42, Try.f42), (43, Try.f43), (44, Try.f44), (45, Try.f45), (46, Try.f46), (47, Try.f47), (48, Try.f48), (49, Try.f49), (50, Try.f50), (51, Try.f51), (52, Try.f52), (53, Try.f53), (54, Try.f54), (55, Try.f55), (56, Try.f56), (57, Try.f57), (58, Try.f58), (59, Try.f59), (68, Try.f68), (69, Try.f69), (70, Try.f70), (71, Try.f71), (72, Try.f72), (73, Try.f73), (82, Try.f82)]
def keepTab : List (Nat × (List Nat × List (Nat × Option Nat))) := [
  (12007, ([2, 3, 5, 7], [(2, some 2), (2, some 3), (3, some 2), (3, some 3)])),
  (12003, ([2, 3, 5, 6], [(2, some 2), (2, some 3), (3, some 2), (3, some 3)])),
  (13027, ([3, 4, 6, 11, 14, 15, 16, 17, 18, 19, 65, 66, 70, 103, 104], [(3, some 2), (3, some 3), (4, some 2), (4, some 3), (6, some 3), (6, some 4), (6, some 5), (6, some 6), (11, some 3), (11, some 4), (11, some 5), (11, some 6)])),
  (13017, ([3, 4, 6, 11, 14, 15, 16, 17, 65, 66, 70], [(3, some 2), (3, some 3), (4, some 2), (4, some 3), (6, some 3), (6, some 4), (6, some 5), (6, some 6), (11, some 3), (11, some 4), (11, some 5), (11, some 6)])),
  (13013, ([3, 4, 6, 11, 12, 65, 66], [(3, some 2), (3, some 3), (4, some 2), (4, some 3), (6, some 3), (6, some 4), (6, some 5), (6, some 6), (11, some 3), (11, some 4), (11, some 5), (11, some 6)])),
  (14028, ([2, 3, 4, 6, 11, 12, 13, 14, 15, 16, 17, 18, 19, 22], [(3, some 2), (3, some 3), (4, some 2), (4, some 3), (6, some 3), (6, some 4), (6, some 5), (6, some 6), (11, some 3), (11, some 4), (11, some 5), (11, some 6), (12, none), (13, none), (18, none)])),
  (14018, ([2, 3, 4, 6, 11, 12, 13, 14, 15, 16, 17, 18, 19], [(3, some 2), (3, some 3), (4, some 2), (4, some 3), (6, some 3), (6, some 4), (6, some 5), (6, some 6), (11, some 3), (11, some 4), (11, some 5), (11, some 6), (12, none), (13, none), (18, none)])),
  (14013, ([2, 3, 4, 6, 11, 12, 13, 14], [(3, some 2), (3, some 3), (4, some 2), (4, some 3), (6, some 3), (6, some 4), (6, some 5), (6, some 6), (11, some 3), (11, some 4), (11, some 5), (11, some 6), (12, none), (13, none)])),
  (16008, ([1, 2, 3, 4, 5, 6, 7], [(1, some 1), (2, some 2), (2, some 3), (3, some 2), (3, some 3), (6, none)])),
  (16004, ([1, 2, 3, 4, 5], [(1, some 1), (2, some 2), (2, some 3), (3, some 2), (3, some 3)])),
  (22006, ([2, 3, 7, 8], [(2, some 2), (2, some 3), (3, some 2), (3, some 3), (7, none)])),
  (25004, ([0, 1, 12, 13], [])),
  (39009, ([6, 9, 10, 11], [(6, none), (10, none)])),
  (39003, ([2, 3, 6, 15, 16, 17], [(2, some 2), (2, some 3), (3, some 2), (3, some 3), (6, none), (15, none)])),
  (45003, ([2, 3, 6, 7], [(2, some 2), (2, some 3), (3, some 2), (3, some 3), (6, some 0), (6, some 1)])),
  (46003, ([2, 3, 5, 6], [(2, some 2), (2, some 3), (3, some 2), (3, some 3), (5, none)])),
  (47009, ([2, 3, 4, 5, 6, 7], [(2, some 2), (2, some 3), (3, some 2), (3, some 3), (4, some 0), (4, some 1), (5, some 0), (5, some 1)])),
  (47006, ([2, 3, 4, 5, 6], [(2, some 2), (2, some 3), (3, some 2), (3, some 3), (4, some 0), (4, some 1), (5, some 0), (5, some 1)])),
  (49002, ([0, 3, 5], [])),
  (51004, ([0, 1, 5], [])),
  (52004, ([0, 1, 5], [])),
  (54010, ([2, 3, 4, 8, 9, 10, 35, 36], [(3, some 2), (3, some 3), (4, some 2), (4, some 3), (8, none)])),
  (54007, ([2, 3, 4, 8, 9, 10], [(3, some 2), (3, some 3), (4, some 2), (4, some 3), (8, none)])),
  (57007, ([1, 3, 47, 48, 49], [(1, some 2), (1, some 3), (47, none)])),
  (59005, ([2, 5, 13, 14, 15], [(2, some 2), (2, some 3), (13, none)])),
  (69012, ([1, 3, 4, 5], [(1, some 2), (1, some 3)])),
  (69007, ([1, 3, 4], [(1, some 2), (1, some 3)])),
  (70002, ([0, 1, 7, 8], [])),
  (82002, ([0, 1, 7, 8], []))]
def joinTab : List (Nat × (List Nat × List (Nat × Option Nat))) := []
noncomputable def givenTab : List (FuncId × Given) := []
def intrTab : List (FuncId × Intr) := [(67, .rev 28)]
noncomputable def ctx : Ctx where
  te := te
  ret f := (lkp retTab f).getD []
  fn := fnTab
  keep f r := lkp keepTab (f * 1000 + r)
  joins f r := lkp joinTab (f * 1000 + r)
  given f := lkpG givenTab f
  intr f := lkpI intrTab f
end Go.Proofs.C28
