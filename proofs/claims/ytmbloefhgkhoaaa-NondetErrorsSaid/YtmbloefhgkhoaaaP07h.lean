/- Automata with choices: the automaton of a deterministic one, and the law of Of. -/
import Derived.Test.YtmbloefhgkhoaaaP07g
set_option linter.unusedVariables false
set_option linter.unusedSimpArgs false
namespace Go.Proofs.C07
open Go Go.Proofs.R
open M (lt_at lt_end w_at app_at LLI)
set_option linter.unusedVariables false
set_option linter.unusedSimpArgs false
set_option maxRecDepth 100000

/-! the edges of a deterministic automaton -/
section
variable {L S : Int} {N : LLI} {A : LB}
/-! the loops -/
/-! what is returned is valid -/
/-! its sets have one state at most -/
/-! a construction with few sets does not fail -/
section
variable {n : Nat} {E : List Ed} {Ac : List Int}
/-- a family of sets that is closed under the steps -/
structure Fam (n : Nat) (E : List Ed) (L : Nat) (G : List LB) : Prop where
  len : G.length ≤ 400
  step : ∀ l ∈ G, ∀ c : Nat, c < L → hasT (nxB n E l (c : Int)) = true → nxB n E l (c : Int) ∈ G
end
end
end Go.Proofs.C07
