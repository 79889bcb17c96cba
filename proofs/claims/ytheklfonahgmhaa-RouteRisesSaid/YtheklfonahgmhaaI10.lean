/- What slices.SortFunc does with a row of listed paths, and slices.SortStableFunc with a row of numbers. No condition. -/
import Derived.Test.YtheklfonahgmhaaProg
import Derived.Test.YtheklfonahgmhaaC10
import Derived.Test.YtheklfonahgmhaaMachine4
import Derived.Test.YtheklfonahgmhaaSorts
import Derived.Test.YtheklfonahgmhaaStable
set_option linter.unusedVariables false
set_option linter.unusedSimpArgs false
namespace Go.Proofs.C10
open Go Go.Proofs.R
open Go.Shelf Go.RowKit
set_option linter.unusedVariables false
/-! sorting -/
def sortRen : Ren := ⟨fun | 6 => 57 | 15 => 71 | 14 => 70 | 28 => 87 | 29 => 88 | 20 => 79 | 21 => 80 | 22 => 81 | 23 => 82 | 24 => 83 | 25 => 84 | 26 => 85 | 27 => 86 | 46 => 92 | 47 => 93 | 48 => 94 | 49 => 95 | 50 => 96 | 57 => 98 | n => n, fun | 22 => 66 | 24 => 70 | 25 => 82 | 3 => 3 | 39 => 91 | 0 => 0 | 53 => 108 | 55 => 79 | 4 => 4 | 46 => 101 | 45 => 100 | 50 => 105 | 5 => 5 | 9 => 9 | 66 => 113 | 70 => 117 | 76 => 119 | 77 => 120 | n => n, fun | n => n⟩
theorem laysSort : SlLaysF0.n6 Try.prog sortRen where
 mixed := by kernel_rfl
 f6 := ⟨Try.f57.name, by decide, Try.func57.trans (congrArg some (by kernel_rfl))⟩
 f14 := ⟨Try.f70.name, by decide, Try.func70.trans (congrArg some (by kernel_rfl))⟩
 f15 := Try.func71.trans (congrArg some (by kernel_rfl))
 f20 := ⟨Try.f79.name, by decide, Try.func79.trans (congrArg some (by kernel_rfl))⟩
 f21 := ⟨Try.f80.name, by decide, Try.func80.trans (congrArg some (by kernel_rfl))⟩
 f22 := ⟨Try.f81.name, by decide, Try.func81.trans (congrArg some (by kernel_rfl))⟩
 f23 := ⟨Try.f82.name, by decide, Try.func82.trans (congrArg some (by kernel_rfl))⟩
 f24 := ⟨Try.f83.name, by decide, Try.func83.trans (congrArg some (by kernel_rfl))⟩
 f25 := ⟨Try.f84.name, by decide, Try.func84.trans (congrArg some (by kernel_rfl))⟩
 f26 := ⟨Try.f85.name, by decide, Try.func85.trans (congrArg some (by kernel_rfl))⟩
 f27 := ⟨Try.f86.name, by decide, Try.func86.trans (congrArg some (by kernel_rfl))⟩
 f28 := Try.func87.trans (congrArg some (by kernel_rfl))
 f29 := Try.func88.trans (congrArg some (by kernel_rfl))
 f46 := ⟨Try.f92.name, by decide, Try.func92.trans (congrArg some (by kernel_rfl))⟩
 f47 := Try.func93.trans (congrArg some (by kernel_rfl))
 f48 := Try.func94.trans (congrArg some (by kernel_rfl))
 f49 := ⟨Try.f95.name, by decide, Try.func95.trans (congrArg some (by kernel_rfl))⟩
 f50 := ⟨Try.f96.name, by decide, Try.func96.trans (congrArg some (by kernel_rfl))⟩
 f57 := ⟨Try.f98.name, by decide, Try.func98.trans (congrArg some (by kernel_rfl))⟩
 t0 := Try.underlying0
 a0 := Try.isAgg0
 z0 := Try.sizeOf0
 v0 := Try.zeroValue0
 t3 := Try.underlying3
 a3 := Try.isAgg3
 z3 := Try.sizeOf3
 v3 := Try.zeroValue3
 t4 := Try.underlying4
 a4 := Try.isAgg4
 z4 := Try.sizeOf4
 v4 := Try.zeroValue4
 t5 := Try.underlying5
 a5 := Try.isAgg5
 z5 := Try.sizeOf5
 v5 := Try.zeroValue5
 t9 := Try.underlying9
 a9 := Try.isAgg9
 z9 := Try.sizeOf9
 v9 := Try.zeroValue9
 t22 := Try.underlying66
 a22 := Try.isAgg66
 z22 := Try.sizeOf66
 v22 := Try.zeroValue66
 t25 := Try.underlying82
 a25 := Try.isAgg82
 z25 := Try.sizeOf82
 v25 := Try.zeroValue82
 t39 := Try.underlying91
 a39 := Try.isAgg91
 z39 := Try.sizeOf91
 v39 := Try.zeroValue91
 t45 := Try.underlying100
 a45 := Try.isAgg100
 z45 := Try.sizeOf100
 v45 := Try.zeroValue100
 t46 := Try.underlying101
 a46 := Try.isAgg101
 z46 := Try.sizeOf101
 v46 := Try.zeroValue101
 t50 := Try.underlying105
 a50 := Try.isAgg105
 z50 := Try.sizeOf105
 v50 := Try.zeroValue105
 t53 := Try.underlying108
 a53 := Try.isAgg108
 z53 := Try.sizeOf108
 v53 := Try.zeroValue108
 t55 := Try.underlying79
 a55 := Try.isAgg79
 z55 := Try.sizeOf79
 v55 := Try.zeroValue79
 t66 := Try.underlying113
 a66 := Try.isAgg113
 z66 := Try.sizeOf113
 v66 := Try.zeroValue113
 t70 := Try.underlying117
 a70 := Try.isAgg117
 z70 := Try.sizeOf117
 v70 := Try.zeroValue117
 t76 := Try.underlying119
 a76 := Try.isAgg119
 z76 := Try.sizeOf119
 v76 := Try.zeroValue119
 t77 := Try.underlying120
 a77 := Try.isAgg120
 z77 := Try.sizeOf120
 v77 := Try.zeroValue120
theorem info_pair : ∀ e i, Try.prog.underlying 66 = some (.slice e) → Try.prog.info? e = some i → i.size = 2 := by
 intro e i h1 h2
 have h3 : Try.prog.underlying 66 = some (.slice 70) := by kernel_rfl
 rw [h3] at h1
 simp only [Option.some.injEq, TypeDesc.slice.injEq] at h1
 subst h1
 have h4 : (Try.prog.info? 70).map (·.size) = some 2 := by kernel_rfl
 rw [h2] at h4
 simpa using h4
theorem sort_ok : IntrOk Try.prog 57 (.sort 66 true false) := sort_intr laysSort 2 Try.isAgg70 Try.sizeOf70 66 info_pair
theorem intr_ok : ∀ f k, ctx.intr f = some k → (∀ args w, (callFunc f args).run Try.prog w = .ok (.enter f args) w) ∧ IntrOk Try.prog f k := by
 intro f k h
 have hm : (f, k) ∈ intrTab := lkpI_mem h
 simp only [intrTab, List.mem_cons, List.not_mem_nil, or_false, Prod.mk.injEq] at hm
 rcases hm with ⟨rfl, rfl⟩ | ⟨rfl, rfl⟩
 ·exact ⟨enters_of Try.func57 (by kernel_rfl) rfl, sort_ok⟩
 ·exact ⟨enters_of Try.func64 (by kernel_rfl) rfl, stable_sort_ok⟩
end Go.Proofs.C10
