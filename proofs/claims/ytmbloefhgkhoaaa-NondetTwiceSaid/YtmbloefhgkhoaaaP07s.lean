/- Automata with choices: the law of large automata. -/
import Derived.Test.YtmbloefhgkhoaaaP07r
set_option linter.unusedVariables false
set_option linter.unusedSimpArgs false
namespace Go.Proofs.C07
open Go Go.Proofs.R
open M (lt_at lt_end w_at app_at LLI)
set_option linter.unusedVariables false
set_option linter.unusedSimpArgs false
set_option maxRecDepth 100000
abbrev NT := Int × (Int × (List Int × (List Ed × List Int)))
/-- the automaton accepts the word of no letters, and no word of the letter 0 -/
structure LgOk (x : NT) : Prop where
  ok : nok x.1 x.2.1 x.2.2.1 x.2.2.2.1 x.2.2.2.2 = true
  l : 1 ≤ x.1
  e : nacc x.2.1.toNat x.2.2.1 x.2.2.2.1 x.2.2.2.2 [] = true
  o : nacc x.2.1.toNat x.2.2.1 x.2.2.2.1 x.2.2.2.2 [0] = false
end Go.Proofs.C07
