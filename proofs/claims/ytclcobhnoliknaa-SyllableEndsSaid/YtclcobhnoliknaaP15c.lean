/- Plain words for the chapter of syllables: the example, words, Open. -/
import Derived.Test.YtclcobhnoliknaaP15b
set_option linter.unusedVariables false
set_option linter.unusedSimpArgs false
namespace Go.Proofs.C15
open Go Go.Proofs.R
set_option linter.unusedVariables false
set_option maxRecDepth 100000

theorem awake_f : ancepslaw15_awake.f = some (true, ()) := by
  unfold ancepslaw15_awake.f
  exact (Einf_call_iff ctx).2 ⟨80, by kernel_rfl⟩
end Go.Proofs.C15
