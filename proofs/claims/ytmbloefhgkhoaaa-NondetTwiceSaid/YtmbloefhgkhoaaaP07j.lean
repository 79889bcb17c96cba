/- Automata with choices: the languages of unions, of words one behind the other, and of repetitions. -/
import Derived.Test.YtmbloefhgkhoaaaP07i
set_option linter.unusedVariables false
set_option linter.unusedSimpArgs false
namespace Go.Proofs.C07
open Go Go.Proofs.R
open M (lt_at lt_end w_at app_at LLI)
set_option linter.unusedVariables false
set_option linter.unusedSimpArgs false
set_option maxRecDepth 100000

section
variable {na nb : Nat} {Ea Eb : List Ed} {Sa Sb Aa Ab : List Int}
/-- words, one behind the other -/
inductive Rep (A : List Int → Prop) : List Int → Prop
  | nil : Rep A []
  | app {u v : List Int} : A u → Rep A v → Rep A (u ++ v)
end

/-! edges, put in order -/
end Go.Proofs.C07
