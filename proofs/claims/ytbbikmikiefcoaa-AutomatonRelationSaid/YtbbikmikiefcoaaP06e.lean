/- Plain words for the chapter of automata: the word that is found is a shortest one. -/
import Derived.Test.YtbbikmikiefcoaaP06d
set_option linter.unusedVariables false
set_option linter.unusedSimpArgs false
namespace Go.Proofs.C06
open Go Go.Proofs.R
set_option linter.unusedVariables false
set_option linter.unusedSimpArgs false
set_option maxRecDepth 100000

section
variable {L Sa Sb : Int} {Na Nb : LLI} {Aa Ab : LB} {p0 : Pr}

/-- the places from which pairs were found do not fall -/
def Ord (i : Nat) (l : List Vis) : Prop := (∀ v ∈ l, v.2.1 ≤ (i : Int)) ∧ ∀ (j j' : Nat) (v v' : Vis), j ≤ j' → l[j]? = some v → l[j']? = some v' → v.2.1 ≤ v'.2.1
theorem Ord.mono {i i' : Nat} {l : List Vis} (h : Ord i l) (hi : i ≤ i') : Ord i' l := ⟨fun v hv => by have := h.1 v hv; omega, h.2⟩
def Near (q : Pr) (j : Nat) (l : List Vis) : Prop := ∃ (k : Nat) (u : Vis), l[k]? = some u ∧ u.1 = q ∧ u.2.1 ≤ (j : Int)
theorem Near.pre {q : Pr} {j : Nat} {l e : List Vis} (h : Near q j l) : Near q j (l ++ e) := by
  obtain ⟨k, u, h1, h2⟩ := h
  exact ⟨k, u, by rw [List.getElem?_append_left (List.getElem?_eq_some_iff.1 h1).1]; exact h1, h2⟩
end
end Go.Proofs.C06
