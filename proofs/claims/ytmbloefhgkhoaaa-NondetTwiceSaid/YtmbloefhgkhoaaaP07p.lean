/- Automata with choices: Concat and Star, and the law of errors. -/
import Derived.Test.YtmbloefhgkhoaaaP07o
set_option linter.unusedVariables false
set_option linter.unusedSimpArgs false
namespace Go.Proofs.C07
open Go Go.Proofs.R
open M (lt_at lt_end w_at app_at LLI)
set_option linter.unusedVariables false
set_option linter.unusedSimpArgs false
set_option maxRecDepth 100000

section
variable {L L' Sa Sb : Int} {Ta Tb : List Int} {Ea Eb : List Ed} {Aa Ab : List Int}
end
end Go.Proofs.C07
