/- C14: what the row's functions are, as the evaluator tells them. No condition. -/
import Derived.Test.YtmnnfkhajhmjgaaProg
import Derived.Test.YtmnnfkhajhmjgaaMachine0
set_option linter.unusedVariables false
set_option linter.unusedSimpArgs false
namespace Go.Proofs.C14
open Go Go.Proofs.R

def te : List (TypeId × TE) := [
  (1, ⟨.func, none, 1, [], [.undef]⟩),
  (2, ⟨(.int .i64), some (.int .i64), 1, [], [(.v (.int .i64) (0 : Int))]⟩),
  (3, ⟨(.int .i64), some (.int .i64), 1, [], [(.v (.int .i64) (0 : Int))]⟩),
  (4, ⟨.bool, some .bool, 1, [], [(.v .bool false)]⟩),
  (5, ⟨(.int .u8), some (.int .u8), 1, [], [(.v (.int .u8) (0 : Int))]⟩),
  (9, ⟨.str, some .str, 1, [], [(.v .str (ByteArray.mk #[]))]⟩),
  (21, ⟨(.int .i32), some (.int .i32), 1, [], [(.v (.int .i32) (0 : Int))]⟩),
  (22, ⟨(.slice 39), some (.sl (.pair (.int .i64) (.pair (.int .i64) .str))), 1, [], [(.nil 39 (.pair (.int .i64) (.pair (.int .i64) .str)))]⟩),
  (23, ⟨(.slice 3), some (.sl (.int .i64)), 1, [], [(.nil 3 (.int .i64))]⟩),
  (25, ⟨(.struct [22, 23]), some (.pair (.sl (.pair (.int .i64) (.pair (.int .i64) .str))) (.sl (.int .i64))), 2, [0, 1], [(.nil 39 (.pair (.int .i64) (.pair (.int .i64) .str))), (.nil 3 (.int .i64))]⟩),
  (28, ⟨(.int .i64), some (.int .i64), 1, [], [(.v (.int .i64) (0 : Int))]⟩),
  (33, ⟨(.slice 5), some (.sl (.int .u8)), 1, [], [(.nil 5 (.int .u8))]⟩),
  (34, ⟨(.int .u32), some (.int .u32), 1, [], [(.v (.int .u32) (0 : Int))]⟩),
  (36, ⟨(.struct [33, 34]), some (.pair (.sl (.int .u8)) (.int .u32)), 2, [0, 1], [(.nil 5 (.int .u8)), (.v (.int .u32) (0 : Int))]⟩),
  (39, ⟨(.struct [3, 3, 9]), some (.pair (.int .i64) (.pair (.int .i64) .str)), 3, [0, 1, 2], [(.v (.int .i64) (0 : Int)), (.v (.int .i64) (0 : Int)), (.v .str (ByteArray.mk #[]))]⟩),
  (63, ⟨.func, none, 1, [], [.undef]⟩),
  (70, ⟨.func, none, 1, [], [.undef]⟩),
  (72, ⟨(.slice 22), some (.sl (.sl (.pair (.int .i64) (.pair (.int .i64) .str)))), 1, [], [(.nil 22 (.sl (.pair (.int .i64) (.pair (.int .i64) .str))))]⟩)]
def retTab : List (Nat × RetD) := [
  (3, [(false, [.ro .bool])]),
  (4, [(false, [.ro .bool])]),
  (5, [(false, [.ro .bool])]),
  (6, [(false, [.ro .bool])]),
  (7, [(false, [.ro .bool])]),
  (8, [(false, [.ro .bool])]),
  (9, [(false, [.ro .bool])]),
  (10, [(false, [.ro .bool])]),
  (11, [(false, [.ro .bool])]),
  (12, [(false, [.ro .bool])]),
  (13, [(false, [.ro (.int .i64)]), (false, [.ro (.int .i64)])]),
  (14, [(true, [.ro (.sl (.pair (.int .i64) (.pair (.int .i64) .str))), .ro (.sl (.int .i64))])]),
  (15, [(false, [.ro (.int .i64)]), (false, [.ro (.int .i64)])]),
  (16, [(false, [.ro (.int .i64)]), (false, [.ro (.int .i64)])]),
  (17, [(false, [.ro (.int .i64)]), (false, [.ro (.int .i64)])]),
  (18, [(false, [.ro (.int .i64)])]),
  (19, [(false, [.ro (.int .i64)])]),
  (20, [(true, [.ro (.sl (.pair (.int .i64) (.pair (.int .i64) .str))), .ro (.sl (.int .i64))])]),
  (21, [(false, [.ro (.int .i64)])]),
  (22, [(false, [.fresh 39 (.pair (.int .i64) (.pair (.int .i64) .str))]), (false, [.ro (.int .i64)])]),
  (23, [(false, [.fresh 39 (.pair (.int .i64) (.pair (.int .i64) .str))]), (false, [.ro (.int .i64)])]),
  (24, [(false, [.ro .bool])]),
  (25, [(false, [.ro .str])]),
  (26, [(false, [.ro .str])]),
  (27, [(true, [.ro (.sl (.pair (.int .i64) (.pair (.int .i64) .str))), .ro (.sl (.int .i64))]), (false, [.ro (.int .i64)])]),
  (28, [(true, [.ro (.sl (.pair (.int .i64) (.pair (.int .i64) .str))), .ro (.sl (.int .i64))]), (false, [.ro (.int .i64)])]),
  (29, [(false, [.ro .bool])]),
  (30, [(true, [.ro (.sl (.pair (.int .i64) (.pair (.int .i64) .str))), .ro (.sl (.int .i64))]), (true, [.ro (.sl (.pair (.int .i64) (.pair (.int .i64) .str))), .ro (.sl (.int .i64))]), (false, [.ro (.int .i64)])]),
  (31, [(true, [.ro (.sl (.pair (.int .i64) (.pair (.int .i64) .str))), .ro (.sl (.int .i64))]), (true, [.ro (.sl (.pair (.int .i64) (.pair (.int .i64) .str))), .ro (.sl (.int .i64))]), (false, [.ro (.int .i64)])]),
  (32, [(false, [.ro (.int .i64)])]),
  (33, [(false, [.ro (.int .i64)])]),
  (34, [(false, [.ro .bool])]),
  (35, [(false, [.ro (.int .i64)])]),
  (36, [(false, [.fresh 39 (.pair (.int .i64) (.pair (.int .i64) .str))])]),
  (37, [(false, [.fresh 3 (.int .i64)])]),
  (38, [(false, [.ro (.int .i64)])]),
  (39, [(false, [.fresh 3 (.int .i64)])]),
  (40, [(false, [.fresh 3 (.int .i64)])]),
  (41, [(false, [.ro (.int .i64)])]),
  (42, [(false, [.ro .bool])]),
  (43, [(false, [.ro (.int .i64)])]),
  (44, [(false, [.ro .bool])]),
  (45, [(false, [.ro (.int .i64)])]),
  (46, [(false, [.ro (.int .i64)])]),
  (47, [(false, [.fresh 39 (.pair (.int .i64) (.pair (.int .i64) .str))])]),
  (48, [(false, [.ro (.int .i64)])]),
  (49, [(false, [.ro (.int .i64)])]),
  (50, [(false, [.ro (.int .i64)])]),
  (51, [(false, [.ro (.int .i64)])]),
  (52, [(false, [.ro (.int .i64)])]),
  (53, [(false, [.ro (.int .i64)])]),
  (54, [(false, [.ro .bool])]),
  (55, [(false, [.ro .bool])]),
  (56, [(false, [.ro .bool])]),
  (57, [(false, [.ro .bool])]),
  (58, [(false, [.ro .bool])]),
  (59, [(false, [.ro (.int .i64)])]),
  (60, [(false, [.fresh 39 (.pair (.int .i64) (.pair (.int .i64) .str))])]),
  (61, [(false, [.ro (.int .i64)])]),
  (62, [(false, [.ro (.int .i64)])]),
  (63, [(false, [.ro (.int .i64)])]),
  (64, [(false, [.ro .bool])]),
  (65, [(false, [.ro .bool])]),
  (66, [(false, [.ro (.int .i64)])])]
noncomputable def fnTab : List (FuncId × Func) := [(3, Try.f3), (4, Try.f4), (5, Try.f5), (6, Try.f6), (7, Try.f7), (8, Try.f8), (9, Try.f9), (10, Try.f10), (11, Try.f11), (12, Try.f12), (13, Try.f13), (14, Try.f14), (15, Try.f15), (16, Try.f16), (17, Try.f17), (18, Try.f18), (19, Try.f19), (20, Try.f20), (21, Try.f21), (22, Try.f22), (23, Try.f23), (24, Try.f24), (25, Try.f25), (26, Try.f26), (27, Try.f27), (28, Try.f28), (29, Try.f29), (30, Try.f30), (31, Try.f31), (32, Try.f32), (33, Try.f33), (34, Try.f34), (35, Try.f35), (36, Try.f36), (37, Try.f37), (38, Try.f38), (39, Try.f39), (40, Try.f40), (41, Try.f41), (42, Try.f42), (43, Try.f43), (44, Try.f44), (45, Try.f45), (46, Try.f46), (47, Try.f47), (48, Try.f48), (49, Try.f49), (50, Try.f50), (51, Try.f51), (52, Try.f52), (53, Try.f53), (54, Try.f54), (55, Try.f55), (56, Try.f56), (57, Try.f57), (58, Try.f58), (59, Try.f59), (61, Try.f61), (62, Try.f62), (63, Try.f63), (64, Try.f64), (65, Try.f65), (66, Try.f66)]
def keepTab : List (Nat × (List Nat × List (Nat × Option Nat))) := [
  (4006, ([3, 4, 26, 27, 28], [(3, some 0), (3, some 1), (4, some 0), (4, some 1), (26, none)])),
  (18014, ([1, 6, 35, 36, 37], [(1, some 0), (1, some 1), (35, none)])),
  (18004, ([1, 20, 21, 22], [(1, some 0), (1, some 1), (20, none)])),
  (19012, ([1, 5], [(1, some 0), (1, some 1)])),
  (19004, ([1, 3], [(1, some 0), (1, some 1)])),
  (20008, ([1, 2, 4, 6], [(1, some 0), (2, some 0), (2, some 1), (4, some 0), (4, some 1)])),
  (20004, ([1, 2, 3, 4, 5], [(1, some 0), (2, some 0), (2, some 1), (3, none), (4, some 0), (4, some 1)])),
  (21003, ([3, 6, 7, 8], [(6, none)])),
  (22006, ([1, 5, 14, 15, 16], [(1, some 0), (1, some 1), (5, none), (14, none)])),
  (23007, ([1, 5, 6, 7], [(1, some 0), (1, some 1), (5, none), (6, none)])),
  (24004, ([0, 1, 5], [])),
  (27011, ([2, 4, 8, 53, 54, 55], [(2, some 0), (2, some 1), (4, some 0), (4, some 1), (8, some 0), (8, some 1), (53, none)])),
  (28011, ([2, 3, 4, 8, 9], [(2, some 0), (2, some 1), (3, some 0), (3, some 1), (4, some 0), (4, some 1), (8, some 0), (8, some 1)])),
  (30008, ([1, 4, 5, 8, 9, 43, 44, 45], [(4, some 0), (4, some 1), (5, some 0), (5, some 1), (8, some 0), (8, some 1), (9, some 0), (9, some 1), (43, none)])),
  (31009, ([1, 2, 4, 5, 8, 9, 10], [(2, some 0), (2, some 1), (4, some 0), (4, some 1), (5, some 0), (5, some 1), (8, some 0), (8, some 1), (9, some 0), (9, some 1)])),
  (33011, ([2, 3, 8], [(2, some 0), (2, some 1), (3, some 0), (3, some 1)])),
  (33002, ([2, 3, 5], [(2, some 0), (2, some 1), (3, some 0), (3, some 1)])),
  (34004, ([0, 5], [])),
  (38008, ([1, 3, 4, 5, 6], [(1, some 0), (1, some 1), (3, none)])),
  (39003, ([3, 7, 8, 9], [(3, none), (7, none)])),
  (40003, ([1, 3, 4], [(1, some 0), (1, some 1), (3, none)])),
  (43015, ([1, 4], [])),
  (47011, ([6, 25, 26, 27], [(6, none), (25, none)])),
  (47003, ([0, 3, 9, 10, 11], [(9, none)])),
  (48003, ([3, 6, 7, 8], [(6, none)])),
  (49002, ([0, 1, 2, 11, 12, 13], [(11, none)])),
  (51002, ([0, 1, 9, 10, 11], [(9, none)])),
  (53003, ([0, 3, 4], [])),
  (66002, ([1, 2, 10], []))]
def joinTab : List (Nat × (List Nat × List (Nat × Option Nat))) := []
noncomputable def givenTab : List (FuncId × Given) := [(36, cloneG), (37, cloneG)]
def intrTab : List (FuncId × Intr) := [(60, .grow 22)]
noncomputable def ctx : Ctx where
  te := te
  ret f := (lkp retTab f).getD []
  fn := fnTab
  keep f r := lkp keepTab (f * 1000 + r)
  joins f r := lkp joinTab (f * 1000 + r)
  given f := lkpG givenTab f
  intr f := lkpI intrTab f
end Go.Proofs.C14
