/- The classes are those of equal languages. -/
import Derived.Test.YtbbikmikiefcoaaP06i
set_option linter.unusedVariables false
set_option linter.unusedSimpArgs false
namespace Go.Proofs.C06
open Go Go.Proofs.R
set_option linter.unusedVariables false
set_option linter.unusedSimpArgs false
set_option maxRecDepth 100000

section
variable {L : Int} {N : LLI} {A : LB}
structure CInv (L : Int) (N : LLI) (A : LB) (c : List Int) (k : Nat) : Prop where
  z : Czero L N A c
  rng : ∀ s : Nat, 0 ≤ cat c s
  crs : ∀ s t : Nat, s < N.length → t < N.length → live L N A s → lang L N A s = lang L N A t → cat c s = cat c t
  ac : ∀ s t : Nat, s < N.length → t < N.length → live L N A s → cat c s = cat c t → acc A s = acc A t
  num : k = 0 ∨ ((∀ s : Nat, s < N.length → cat c s ≤ k) ∧ ∀ j : Nat, 1 ≤ j → j ≤ k → ∃ s : Nat, s < N.length ∧ cat c s = j)

/-- classes as they are to be -/
structure Cls (L : Int) (N : LLI) (A : LB) (v : List Int) : Prop where
  z : Czero L N A v
  eq : ∀ s t : Nat, s < N.length → t < N.length → live L N A s → live L N A t → (cat v s = cat v t ↔ lang L N A s = lang L N A t)

/-! ### the classes at the start -/
end
end Go.Proofs.C06
