/- The law of Within. -/
import Derived.Test.YtheklfonahgmhaaPlain
set_option linter.unusedVariables false
set_option linter.unusedSimpArgs false
namespace Go.Proofs.C10
open Go Go.Proofs.R
set_option linter.unusedVariables false
set_option maxRecDepth 100000
end Go.Proofs.C10
