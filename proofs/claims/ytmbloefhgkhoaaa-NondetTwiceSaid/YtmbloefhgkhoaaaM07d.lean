/- Plain words for the chapter of automata: the first word that tells two automata apart. -/
import Derived.Test.YtmbloefhgkhoaaaM07c
set_option linter.unusedVariables false
set_option linter.unusedSimpArgs false
namespace Go.Proofs.C07.M
open Go Go.Proofs.R
set_option linter.unusedVariables false
set_option linter.unusedSimpArgs false
set_option maxRecDepth 100000

def toI (c : Nat) : Int := c
def run (N : LLI) (s : Int) (u : List Nat) : Int := u.foldl (stp N) s

section
variable {L Sa Sb : Int} {Na Nb : LLI} {Aa Ab : LB} {p0 : Pr}

/-! ### the way to a pair -/
/-! ### the first pair that differs -/
end
end Go.Proofs.C07.M
