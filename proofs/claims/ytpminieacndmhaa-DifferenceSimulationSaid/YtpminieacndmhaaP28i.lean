/- Plain words for the chapter of differences: described automata; containment is an order. -/
import Derived.Test.YtpminieacndmhaaP28h
set_option linter.unusedVariables false
set_option linter.unusedSimpArgs false
namespace Go.Proofs.C28
open Go Go.Proofs.R
set_option linter.unusedVariables false
set_option linter.unusedSimpArgs false
set_option maxRecDepth 100000

/-! ### described automata -/
section
variable {L Sa Sb Sc : Int} {Na Nb Nc : LLI} {Aa Ab Ac : LB}
end

end Go.Proofs.C28
