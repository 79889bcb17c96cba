/- The classes of equal languages: both texts refine in the same way. -/
import Derived.Test.YtbbikmikiefcoaaP06h
set_option linter.unusedVariables false
set_option linter.unusedSimpArgs false
namespace Go.Proofs.C06
open Go Go.Proofs.R
set_option linter.unusedVariables false
set_option linter.unusedSimpArgs false
set_option maxRecDepth 100000

def cat (c : List Int) (s : Nat) : Int := c[s]?.getD 0
/-! ### maps whose keys are rows of nine -/
abbrev T9 : Ty := .arr 9 (.int .i64)
def pad (q : List Int) : List Int := q ++ List.replicate (9 - q.length) 0
open Classical in
/-- the map tells the places of names -/
structure Rep9 (K : Nat) (m : List (List Int × Int)) (ns : LLI) : Prop where
  get : ∀ q : List Int, q.length = K → (mget T9 (0 : Int) (pad q) m).1 = if q ∈ ns then ((place q ns + 1 : Nat) : Int) else 0
  len : m.length = ns.length
  ks : ∀ p ∈ m, ∃ q ∈ ns, p.1 = pad q
  nl : ∀ q ∈ ns, q.length = K

section
variable {L : Int} {N : LLI} {A : LB}
/-- classes: 0 exactly where no word is accepted -/
structure Czero (L : Int) (N : LLI) (A : LB) (c : List Int) : Prop where
  len : c.length = N.length
  zero : ∀ s : Nat, s < N.length → (cat c s = 0 ↔ ¬ live L N A (s : Int))

/-! ### the reference's -/
end
end Go.Proofs.C06
