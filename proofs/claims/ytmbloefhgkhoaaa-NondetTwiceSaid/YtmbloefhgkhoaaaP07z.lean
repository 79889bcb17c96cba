/- Automata with choices: the example. -/
import Derived.Test.YtmbloefhgkhoaaaC07B
import Derived.Test.YtmbloefhgkhoaaaMachine4
set_option linter.unusedVariables false
set_option linter.unusedSimpArgs false
namespace Go.Proofs.C07
open Go Go.Proofs.R
set_option linter.unusedVariables false
set_option maxRecDepth 100000

theorem awake_f : ancepslaw07_awake.f = some (true, ()) := by
  unfold ancepslaw07_awake.f
  exact (Einf_call_iff ctx).2 ⟨200, by kernel_rfl⟩
end Go.Proofs.C07
