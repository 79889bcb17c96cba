/- The law of Within. -/
import Derived.Test.YtheklfonahgmhaaPlain
set_option linter.unusedVariables false
set_option linter.unusedSimpArgs false
namespace Go.Proofs.C10
open Go Go.Proofs.R
set_option linter.unusedVariables false
set_option maxRecDepth 100000
theorem ltP_sum {arcs : List Arc} {a b : List Int} (h : ltP arcs b a = false) : sumV arcs a ≤ sumV arcs b := by
 unfold ltP ltC at h
 by_cases e : sumV arcs b = sumV arcs a
 ·omega
 ·rw [if_neg e] at h; have := of_decide_eq_false h; simp only at this; omega
end Go.Proofs.C10
