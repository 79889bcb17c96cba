/- Automata with choices: automata of drafts, and the law of reversed words. -/
import Derived.Test.YtmbloefhgkhoaaaP07m
set_option linter.unusedVariables false
set_option linter.unusedSimpArgs false
namespace Go.Proofs.C07
open Go Go.Proofs.R
open M (lt_at lt_end w_at app_at LLI)
set_option linter.unusedVariables false
set_option linter.unusedSimpArgs false
set_option maxRecDepth 100000

theorem ascP_of {S : Int} : ∀ {l : List Int} {p : Option Int}, l.Pairwise (· < ·) → (∀ x ∈ l, 0 ≤ x ∧ x < S) → (∀ y, p = some y → ∀ x ∈ l, y < x) → ascP S p l = true
  | [], p, _, _, _ => rfl
  | x :: l, p, h1, h2, h3 => by
    rw [List.pairwise_cons] at h1
    have ih := ascP_of (S := S) (p := some x) h1.2 (fun z hz => h2 z (List.mem_cons_of_mem _ hz)) (fun y hy z hz => by cases hy; exact h1.1 z hz)
    have h4 := h2 x List.mem_cons_self
    cases p with
    | none => simp only [ascP, ih, Bool.and_true, Bool.and_eq_true, decide_eq_true_eq]; exact h4
    | some y => simp only [ascP, ih, Bool.and_true, Bool.and_eq_true, decide_eq_true_eq]; exact ⟨h4, h3 y rfl x List.mem_cons_self⟩
theorem asc_pw {S : Int} : ∀ {l : List Int} {p : Option Int}, ascP S p l = true → l.Pairwise (· < ·) ∧ ∀ y, p = some y → ∀ x ∈ l, y < x
  | [], p, _ => ⟨.nil, fun _ _ _ h => by cases h⟩
  | x :: l, p, h => by
    simp only [ascP, Bool.and_eq_true, decide_eq_true_eq] at h
    obtain ⟨h1, h2, h3⟩ := h
    obtain ⟨h4, h5⟩ := asc_pw h3
    refine ⟨List.pairwise_cons.2 ⟨fun z hz => h5 x rfl z hz, h4⟩, ?_⟩
    rintro y rfl z hz
    simp only [decide_eq_true_eq] at h2
    rcases List.mem_cons.1 hz with rfl | hz
    · exact h2
    · have := h5 x rfl z hz; omega
/-- three bytes -/
def B3 (l : List Int) : Prop := l.length = 3 ∧ ∀ x ∈ l, 0 ≤ x ∧ x < 256
theorem B3.get {l : List Int} (h : B3 l) : ∃ a b c, l = [a, b, c] ∧ (0 ≤ a ∧ a < 256) ∧ (0 ≤ b ∧ b < 256) ∧ (0 ≤ c ∧ c < 256) := by
  obtain ⟨h1, h2⟩ := h
  match l, h1 with
  | [a, b, c], _ => exact ⟨a, b, c, rfl, h2 a (by simp), h2 b (by simp), h2 c (by simp)⟩
section
variable {L S : Int} (hL : 1 ≤ L ∧ L ≤ 4) (hS : 1 ≤ S ∧ S ≤ 6)
include hL hS
end
/-! the law of reversed words -/
end Go.Proofs.C07
