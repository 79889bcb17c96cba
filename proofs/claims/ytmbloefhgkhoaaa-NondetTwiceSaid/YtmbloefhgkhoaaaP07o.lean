/- Automata with choices: what Union, Concat and Star answer, in both texts. -/
import Derived.Test.YtmbloefhgkhoaaaP07n
set_option linter.unusedVariables false
set_option linter.unusedSimpArgs false
namespace Go.Proofs.C07
open Go Go.Proofs.R
open M (lt_at lt_end w_at app_at LLI)
set_option linter.unusedVariables false
set_option linter.unusedSimpArgs false
set_option maxRecDepth 100000

/-! states and edges, moved -/
section
variable {L Sa Sb : Int} {Ta Tb : List Int} {Ea Eb : List Ed} {Aa Ab : List Int}
variable {L' : Int}
/-- two automata of the same letters -/
def two (L Sa : Int) (Ta : List Int) (Ea : List Ed) (Aa : List Int) (L' Sb : Int) (Tb : List Int) (Eb : List Ed) (Ab : List Int) : Bool := nok L Sa Ta Ea Aa && (nok L' Sb Tb Eb Ab && (L == L'))
/-! Union -/
/-! Concat -/
end
end Go.Proofs.C07
