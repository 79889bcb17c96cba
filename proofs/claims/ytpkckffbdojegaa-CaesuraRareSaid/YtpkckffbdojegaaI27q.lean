/- What the functions of the library that are walked by hand do: the builder's two, and the stable sort. No condition. -/
import Derived.Test.YtpkckffbdojegaaI27
import Derived.Test.YtpkckffbdojegaaJ27q
set_option linter.unusedVariables false
set_option linter.unusedSimpArgs false
namespace Go.Proofs.Q27
open Go Go.Proofs.R
theorem intr_ok : ∀ f k, ctx.intr f = some k → (∀ args w, (callFunc f args).run Try.prog w = .ok (.enter f args) w) ∧ IntrOk Try.prog f k := by
  intro f k h
  have hm : (f, k) ∈ intrTab := lkpI_mem h
  simp only [intrTab, List.mem_cons, List.not_mem_nil, or_false, Prod.mk.injEq] at hm
  rcases hm with ⟨rfl, rfl⟩ | ⟨rfl, rfl⟩ | ⟨rfl, rfl⟩
  · exact ⟨enters_of Try.func59 (by kernel_rfl) rfl, C27.write_ok⟩
  · exact ⟨enters_of Try.func60 (by kernel_rfl) rfl, C27.str_ok⟩
  · exact ⟨enters_of Try.func73 (by kernel_rfl) rfl, stable_sort_ok⟩
end Go.Proofs.Q27
