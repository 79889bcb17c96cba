/- Automata with choices: the law of parts. -/
import Derived.Test.YtmbloefhgkhoaaaP07q
set_option linter.unusedVariables false
set_option linter.unusedSimpArgs false
namespace Go.Proofs.C07
open Go Go.Proofs.R
open M (lt_at lt_end w_at app_at LLI)
set_option linter.unusedVariables false
set_option linter.unusedSectionVars false
set_option linter.unusedSimpArgs false
set_option maxRecDepth 100000

/-! words -/
section
variable (A : List Int → Bool) (w : List Int)
end
section
variable {L Sa Sb Su Sv Ss : Int} {Ta Tb Tu Tv Ts : List Int} {Ea Eb Eu Ev Es : List Ed} {Aa Ab Au Av As : List Int} {w : List Int}
variable (ha : nok L Sa Ta Ea Aa = true) (hb : nok L Sb Tb Eb Ab = true) (hu : nok L Su Tu Eu Au = true) (hv : nok L Sv Tv Ev Av = true) (hs : nok L Ss Ts Es As = true) (hw : ∀ c ∈ w, 0 ≤ c ∧ c < L) (hwl : w.length ≤ 20)
include ha hw hwl
include hb
end
end Go.Proofs.C07
