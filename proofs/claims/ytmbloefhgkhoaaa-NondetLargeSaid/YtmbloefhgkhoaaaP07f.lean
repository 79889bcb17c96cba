/- Automata with choices: the reference's construction, what it accepts, and the law of Determine. -/
import Derived.Test.YtmbloefhgkhoaaaP07e
set_option linter.unusedVariables false
set_option linter.unusedSimpArgs false
namespace Go.Proofs.C07
open Go Go.Proofs.R
open M (lt_at lt_end w_at app_at LLI)
set_option linter.unusedVariables false
set_option linter.unusedSimpArgs false
set_option maxRecDepth 100000

section
variable {L : Int} {n : Nat} {St : List Int} {E : List Ed} {Ac : List Int}
/-! what the construction makes -/
def DEnt (n : Nat) (E : List Ed) (fs : List LB) (l : LB) (c : Nat) (t : Int) : Prop :=
  (hasT (nxB n E l (c : Int)) = false ∧ t = -1) ∨ (0 ≤ t ∧ fs[t.toNat]? = some (nxB n E l (c : Int)))
theorem DEnt.app {fs e : List LB} {l : LB} {c : Nat} {t : Int} (h : DEnt n E fs l c t) : DEnt n E (fs ++ e) l c t := by
  refine h.imp id fun ⟨h1, h2⟩ => ⟨h1, ?_⟩
  rw [List.getElem?_append_left (List.getElem?_eq_some_iff.1 h2).1]; exact h2
theorem DEnt.rng {fs : List LB} {l : LB} {c : Nat} {t : Int} (h : DEnt n E fs l c t) : -1 ≤ t ∧ t < fs.length := by
  rcases h with ⟨_, rfl⟩ | ⟨h1, h2⟩
  · omega
  · have := (List.getElem?_eq_some_iff.1 h2).1; omega
def DRow (n : Nat) (E : List Ed) (fs : List LB) (l : LB) (row : List Int) : Prop := ∀ k t, row[k]? = some t → DEnt n E fs l k t
theorem DRow.app {fs e : List LB} {l : LB} {row : List Int} (h : DRow n E fs l row) : DRow n E (fs ++ e) l row := fun k t hk => (h k t hk).app
end
end Go.Proofs.C07
