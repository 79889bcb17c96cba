/- The example of chapter 6. -/
import Derived.Test.YtbbikmikiefcoaaC06B
set_option linter.unusedVariables false
set_option linter.unusedSimpArgs false
namespace Go.Proofs.C06
open Go Go.Proofs.R
set_option maxRecDepth 100000

theorem awake_f : ancepslaw06_awake.f = some (true, ()) := by
  unfold ancepslaw06_awake.f
  exact (Einf_call_iff ctx).2 ⟨120, by kernel_rfl⟩
end Go.Proofs.C06
