/- Automata with choices: the languages of unions, of words one behind the other, and of repetitions. -/
import Derived.Test.YtmbloefhgkhoaaaP07i
set_option linter.unusedVariables false
set_option linter.unusedSimpArgs false
namespace Go.Proofs.C07
open Go Go.Proofs.R
open M (lt_at lt_end w_at app_at LLI)
set_option linter.unusedVariables false
set_option linter.unusedSimpArgs false
set_option maxRecDepth 100000

section
variable {na nb : Nat} {Ea Eb : List Ed} {Sa Sb Aa Ab : List Int}
/-- the edges from one automaton to the other -/
def joE (Aa : List Int) (k : Int) (Sb : List Int) : List Ed := Aa.flatMap fun s => Sb.map fun t => (s, (-1, t + k))
theorem mem_joE {Aa Sb : List Int} {k : Int} {x : Ed} : x ∈ joE Aa k Sb ↔ ∃ s ∈ Aa, ∃ t ∈ Sb, x = (s, (-1, t + k)) := by
  unfold joE
  rw [List.mem_flatMap]
  constructor
  · rintro ⟨s, h1, h2⟩
    obtain ⟨t, h3, rfl⟩ := List.mem_map.1 h2
    exact ⟨s, h1, t, h3, rfl⟩
  · rintro ⟨s, h1, t, h3, rfl⟩
    exact ⟨s, h1, List.mem_map.2 ⟨t, h3, rfl⟩⟩
/-- words, one behind the other -/
inductive Rep (A : List Int → Prop) : List Int → Prop
  | nil : Rep A []
  | app {u v : List Int} : A u → Rep A v → Rep A (u ++ v)
def stE (n : Int) (St Ac : List Int) : List Ed := (St.map fun s => (n, ((-1 : Int), s))) ++ Ac.map fun s => (s, ((-1 : Int), n))
theorem mem_stE {n : Int} {St Ac : List Int} {x : Ed} : x ∈ stE n St Ac ↔ (∃ s ∈ St, x = (n, (-1, s))) ∨ ∃ s ∈ Ac, x = (s, (-1, n)) := by
  unfold stE
  rw [List.mem_append, List.mem_map, List.mem_map]
  constructor
  · rintro (⟨s, h, rfl⟩ | ⟨s, h, rfl⟩)
    · exact .inl ⟨s, h, rfl⟩
    · exact .inr ⟨s, h, rfl⟩
  · rintro (⟨s, h, rfl⟩ | ⟨s, h, rfl⟩)
    · exact .inl ⟨s, h, rfl⟩
    · exact .inr ⟨s, h, rfl⟩
end

/-! edges, put in order -/
end Go.Proofs.C07
