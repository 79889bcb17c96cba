/- Minimal, Same: the laws. -/
import Derived.Test.YtmbloefhgkhoaaaM07k
set_option linter.unusedVariables false
set_option linter.unusedSimpArgs false
namespace Go.Proofs.C07.M
open Go Go.Proofs.R
set_option linter.unusedVariables false
set_option linter.unusedSimpArgs false
set_option maxRecDepth 100000

section
variable {L S : Int} {N : LLI} {A : LB}
theorem minimalF (L S : Int) (N : LLI) (A : LB) : automaton_Minimal.f L S N A = some (bif ok L S N A then (L, (canS (lang L N A S), (canN L (lang L N A S), (canA L (lang L N A S), (0, ()))))) else (0, (0, ([], ([], (1, ())))))) := by
  rw [automaton_Minimal.f_eq, valid_f, bindD_some]
  cases hok : ok L S N A with
  | false => rfl
  | true =>
    have h := V_of hok
    rw [ifB_not _ _ (by rfl), minimal_f h.w h.s]; rfl
theorem V.ok (h : V L S N A) (h0 : N = [] ∨ 0 ≤ S) : ok L S N A = true := by
  unfold Go.Proofs.C07.M.ok headOk
  have h1 := h.l1; have h2 := h.l8; have h3 := h.n; have h4 := h.a; have h5 := h.s
  simp only [Bool.and_eq_true, Bool.not_eq_true', decide_eq_false_iff_not, beq_iff_eq, List.all_eq_true]
  refine ⟨⟨⟨⟨⟨by omega, by omega⟩, by omega⟩, by omega⟩, ?_⟩, ?_⟩
  · by_cases hs : S < 0
    · rw [decide_eq_true hs, cond_true]
      have e : S = -1 := by omega
      subst e
      rcases h0 with h0 | h0
      · subst h0; rfl
      · omega
    · rw [decide_eq_false hs, cond_false]; simp; omega
  · intro r hr
    unfold rowOk
    obtain ⟨q1, q2⟩ := h.row r hr
    simp only [Bool.and_eq_true, beq_iff_eq, Bool.not_eq_true', List.any_eq_false]
    refine ⟨q1, fun t ht => ?_⟩
    have := q2 t ht
    unfold badT
    simp; omega
theorem can_rows (h : W L N A) {l : Lang} (hl : Lin L N A l) : (∀ r ∈ canN L l, r.length < 4611686018427387904) ∧ (canN L l).length < 4611686018427387904 ∧ (canA L l).length < 4611686018427387904 := by
  have hw := can_W h hl
  have := hw.n; have := hw.a; have := hw.l8
  exact ⟨fun r hr => by have := (hw.row r hr).1; omega, by omega, by omega⟩
theorem sameC (h : W L N A) {l : Lang} (hl : Lin L N A l) : ancepsref06_SameDFA.f L (canS l) (canN L l) (canA L l) L (canS l) (canN L l) (canA L l) = some (true, ()) := by
  obtain ⟨h1, h2, h3⟩ := can_rows h hl
  rw [same_f _ _ _ _ _ _ _ _ h1 h2 h3]; simp
end

/-! ### two automata -/
section
variable {L Sa Sb : Int} {Na Nb : LLI} {Aa Ab : LB}
end
end Go.Proofs.C07.M
