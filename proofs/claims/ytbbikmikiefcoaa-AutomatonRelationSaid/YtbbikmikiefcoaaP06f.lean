/- Plain words for the chapter of automata: how many words of a length are accepted. -/
import Derived.Test.YtbbikmikiefcoaaP06e
set_option linter.unusedVariables false
set_option linter.unusedSimpArgs false
namespace Go.Proofs.C06
open Go Go.Proofs.R
set_option linter.unusedVariables false
set_option linter.unusedSimpArgs false
set_option maxRecDepth 100000

section
variable {L S : Int} {N : LLI} {A : LB}

/-- the ways are right -/
structure Ways (N : LLI) (ws : List Int) : Prop where
  len : ws.length = N.length
  rng : ∀ x ∈ ws, 0 ≤ x ∧ x ≤ (4611686018427387905 : Int)

/-! the numbers -/
/-! ### equal lists -/
/-! ### Shortest -/
end
end Go.Proofs.C06
