/- The states from which a word is accepted: both texts find them. -/
import Derived.Test.YtbbikmikiefcoaaP06g
set_option linter.unusedVariables false
set_option linter.unusedSimpArgs false
namespace Go.Proofs.C06
open Go Go.Proofs.R
set_option linter.unusedVariables false
set_option linter.unusedSimpArgs false
set_option maxRecDepth 100000

section
variable {L : Int} {N : LLI} {A : LB}
def live (L : Int) (N : LLI) (A : LB) (s : Int) : Prop := lang L N A s ≠ emp
def fls (l : LB) : Nat := l.countP fun b => !b
/-! ### the program's -/
structure Back (L : Int) (N : LLI) (i k : Nat) (bk : LLI) : Prop where
  len : bk.length = N.length
  has : ∀ t : Nat, t < N.length → ∃ l, bk[t]? = some l ∧ l.length ≤ 8 * i + k ∧ (∀ u ∈ l, ∃ j : Nat, u = (j : Int) ∧ j < N.length ∧ ∃ c : Nat, (c : Int) < L ∧ stp N (j : Int) c = (t : Int)) ∧
    (∀ j c : Nat, (c : Int) < L → j < i ∨ j = i ∧ c < k → stp N (j : Int) c = (t : Int) → (j : Int) ∈ l)

structure Todo (L : Int) (N : LLI) (A : LB) (x : Option Nat) (out : LB) (todo : List Int) : Prop where
  len : out.length = N.length
  snd : ∀ s : Nat, out[s]? = some true → live L N A (s : Int)
  tod : ∀ u ∈ todo, ∃ j : Nat, u = (j : Int) ∧ out[j]? = some true
  acc : ∀ s : Nat, A[s]? = some true → out[s]? = some true
  cls : ∀ s : Nat, s < N.length → out[s]? = some true → (s : Int) ∉ todo → some s ≠ x → ∀ j c : Nat, j < N.length → (c : Int) < L → stp N (j : Int) c = (s : Int) → out[j]? = some true
  sum : todo.length + fls out ≤ N.length

structure Ini (N : LLI) (A : LB) (i : Nat) (out : LB) (todo : List Int) : Prop where
  len : out.length = N.length
  is : ∀ s : Nat, s < N.length → ((out[s]? = some true) ↔ (s < i ∧ A[s]? = some true))
  tod : ∀ u ∈ todo, ∃ j : Nat, u = (j : Int) ∧ out[j]? = some true
  mem : ∀ s : Nat, s < i → A[s]? = some true → (s : Int) ∈ todo
  sum : todo.length + fls out = N.length

/-! ### the reference's -/
structure Mrk (L : Int) (N : LLI) (A : LB) (out : LB) : Prop where
  len : out.length = N.length
  snd : ∀ s : Nat, out[s]? = some true → live L N A (s : Int)
  acc : ∀ s : Nat, A[s]? = some true → out[s]? = some true
end
end Go.Proofs.C06
