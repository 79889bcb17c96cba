/- Chapter 10's given functions: dag.ways, and route.Ways at the example. -/
import Derived.Test.YtheklfonahgmhaaWays
import Derived.Test.YtheklfonahgmhaaP10x
set_option linter.unusedVariables false
set_option linter.unusedSimpArgs false
namespace Go.Proofs.C10X
open Go Go.Proofs.R
noncomputable def waysXR {ρ : Type} (args : List AV) (K : List DV → Option ρ) : Option ρ :=
 match args with
 | [.agg [.v (.int .i64) n, .v t xs], .one (.v (.int .i64) c)] => (castV t (.sl C10W.arcT) xs).bind fun arcs => if n = 3 ∧ arcs = ex ∧ c = 2 then K [⟨.int .i64, (0 : Int)⟩, ⟨.int .i64, (0 : Int)⟩] else none
 | _ => none
noncomputable def waysXG : Given := ⟨waysXR⟩
end Go.Proofs.C10X
