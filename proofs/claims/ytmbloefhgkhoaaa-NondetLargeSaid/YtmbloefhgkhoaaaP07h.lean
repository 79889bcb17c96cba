/- Automata with choices: the automaton of a deterministic one, and the law of Of. -/
import Derived.Test.YtmbloefhgkhoaaaP07g
set_option linter.unusedVariables false
set_option linter.unusedSimpArgs false
namespace Go.Proofs.C07
open Go Go.Proofs.R
open M (lt_at lt_end w_at app_at LLI)
set_option linter.unusedVariables false
set_option linter.unusedSimpArgs false
set_option maxRecDepth 100000

/-! the edges of a deterministic automaton -/
section
variable {L S : Int} {N : LLI} {A : LB}
/-! the loops -/
/-! what is returned is valid -/
/-! its sets have one state at most -/
/-! a construction with few sets does not fail -/
section
variable {n : Nat} {E : List Ed} {Ac : List Int}
theorem nodup_sub {α : Type} [DecidableEq α] : ∀ {l m : List α}, l.Nodup → (∀ x ∈ l, x ∈ m) → l.length ≤ m.length
  | [], m, _, _ => Nat.zero_le _
  | x :: l, m, hn, hm => by
    obtain ⟨h1, h2⟩ := List.nodup_cons.1 hn
    have h3 := nodup_sub (m := m.erase x) h2 fun y hy => by
      have hne : y ≠ x := fun e => h1 (e ▸ hy)
      exact (List.mem_erase_of_ne hne).2 (hm y (List.mem_cons_of_mem _ hy))
    have h4 := List.length_erase_of_mem (hm x List.mem_cons_self)
    have h5 := List.length_pos_of_mem (hm x List.mem_cons_self)
    simp only [List.length_cons]; omega
/-- a family of sets that is closed under the steps -/
structure Fam (n : Nat) (E : List Ed) (L : Nat) (G : List LB) : Prop where
  len : G.length ≤ 400
  step : ∀ l ∈ G, ∀ c : Nat, c < L → hasT (nxB n E l (c : Int)) = true → nxB n E l (c : Int) ∈ G
end
end
end Go.Proofs.C07
