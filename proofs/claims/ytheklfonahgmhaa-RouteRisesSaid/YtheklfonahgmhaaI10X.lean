/- The stable sort, for the example's context. -/
import Derived.Test.YtheklfonahgmhaaC10X
import Derived.Test.YtheklfonahgmhaaMachine4
import Derived.Test.YtheklfonahgmhaaStable
set_option linter.unusedVariables false
set_option linter.unusedSimpArgs false
namespace Go.Proofs.C10X
open Go Go.Proofs.R
open Go.Shelf
theorem intr_ok : ∀ f k, ctx.intr f = some k → (∀ args w, (callFunc f args).run Try.prog w = .ok (.enter f args) w) ∧ IntrOk Try.prog f k := by
 intro f k h
 have hm : (f, k) ∈ intrTab := lkpI_mem h
 simp only [intrTab, List.mem_cons, List.not_mem_nil, or_false, Prod.mk.injEq] at hm
 obtain ⟨rfl, rfl⟩ := hm
 exact ⟨enters_of Try.func64 (by kernel_rfl) rfl, C10.stable_sort_ok⟩
end Go.Proofs.C10X
