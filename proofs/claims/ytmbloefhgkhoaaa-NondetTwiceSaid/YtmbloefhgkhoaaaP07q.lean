/- Automata with choices: Star, and the law of errors. -/
import Derived.Test.YtmbloefhgkhoaaaP07p
set_option linter.unusedVariables false
set_option linter.unusedSimpArgs false
namespace Go.Proofs.C07
open Go Go.Proofs.R
open M (lt_at lt_end w_at app_at LLI)
set_option linter.unusedVariables false
set_option linter.unusedSimpArgs false
set_option maxRecDepth 100000

section
variable {L S : Int} {St : List Int} {E : List Ed} {Ac : List Int}
end

/-! the law of errors -/
end Go.Proofs.C07
