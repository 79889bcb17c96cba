/- Minimal, Same: the laws. -/
import Derived.Test.YtmbloefhgkhoaaaM07k
set_option linter.unusedVariables false
set_option linter.unusedSimpArgs false
namespace Go.Proofs.C07.M
open Go Go.Proofs.R
set_option linter.unusedVariables false
set_option linter.unusedSimpArgs false
set_option maxRecDepth 100000

def goodW (L : Int) (w : List Int) : Bool := w.all fun c => decide (0 ≤ c) && decide (c < L)
section
variable {L S : Int} {N : LLI} {A : LB}
theorem V.ok (h : V L S N A) (h0 : N = [] ∨ 0 ≤ S) : ok L S N A = true := by
  unfold Go.Proofs.C07.M.ok headOk
  have h1 := h.l1; have h2 := h.l8; have h3 := h.n; have h4 := h.a; have h5 := h.s
  simp only [Bool.and_eq_true, Bool.not_eq_true', decide_eq_false_iff_not, beq_iff_eq, List.all_eq_true]
  refine ⟨⟨⟨⟨⟨by omega, by omega⟩, by omega⟩, by omega⟩, ?_⟩, ?_⟩
  · by_cases hs : S < 0
    · rw [decide_eq_true hs, cond_true]
      have e : S = -1 := by omega
      subst e
      rcases h0 with h0 | h0
      · subst h0; rfl
      · omega
    · rw [decide_eq_false hs, cond_false]; simp; omega
  · intro r hr
    unfold rowOk
    obtain ⟨q1, q2⟩ := h.row r hr
    simp only [Bool.and_eq_true, beq_iff_eq, Bool.not_eq_true', List.any_eq_false]
    refine ⟨q1, fun t ht => ?_⟩
    have := q2 t ht
    unfold badT
    simp; omega
end

/-! ### two automata -/
section
variable {L Sa Sb : Int} {Na Nb : LLI} {Aa Ab : LB}
end
end Go.Proofs.C07.M
