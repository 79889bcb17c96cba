/- Plain words for the chapter of automata: their errors, steps, runs. -/
import Derived.Test.YtmbloefhgkhoaaaC07B
import Derived.Test.YtmbloefhgkhoaaaMachine4
set_option linter.unusedVariables false
set_option linter.unusedSimpArgs false
namespace Go.Proofs.C07.M
open Go Go.Proofs.R
set_option linter.unusedVariables false
set_option linter.unusedSimpArgs false
set_option maxRecDepth 100000

theorem lt_at {α : Type} (p : List α) (x : α) (s : List α) : decide (((List.length p : Nat) : Int) < ((List.length (p ++ x :: s) : Nat) : Int)) = true := by
  apply decide_eq_true; simp only [List.length_append, List.length_cons]; omega
theorem lt_end {α : Type} (p : List α) : decide (((List.length p : Nat) : Int) < ((List.length (p ++ []) : Nat) : Int)) = false := by
  apply decide_eq_false; simp
theorem w_at {α : Type} {p : List α} {x : α} {s : List α} (h : (p ++ x :: s).length < 4611686018427387904) : IntKind.i64.wrap (((List.length p : Nat) : Int) + 1) = ((List.length (p ++ [x]) : Nat) : Int) := by
  simp only [List.length_append, List.length_cons] at h
  rw [w64_succ (by omega)]; simp
theorem app_at {α : Type} (p : List α) (x : α) (s : List α) : p ++ x :: s = (p ++ [x]) ++ s := by simp

abbrev LLI := List (List Int)
abbrev LB := List Bool

/-! ### errors -/
def badT (n : Nat) (t : Int) : Bool := decide (t < -1) || decide (t ≥ (n : Int))
def rowOk (L : Int) (n : Nat) (r : List Int) : Bool := ((r.length : Nat) : Int) == L && !(r.any (badT n))
def headOk (L S : Int) (N : LLI) (A : LB) : Bool :=
  !(decide (L < 1)) && !(decide (L > 8)) && !(decide (((N.length : Nat) : Int) > 400)) && (((A.length : Nat) : Int) == ((N.length : Nat) : Int)) &&
    (bif decide (S < 0) then N.isEmpty && (S == -1) else !(decide (S ≥ ((N.length : Nat) : Int))))
def ok (L S : Int) (N : LLI) (A : LB) : Bool := headOk L S N A && N.all (rowOk L N.length)
def errN (b : Bool) : Int := bif b then 0 else 1

/-! the reference's -/
/-- what is known of an automaton without error -/
structure V (L S : Int) (N : LLI) (A : LB) : Prop where
  l1 : 1 ≤ L
  l8 : L ≤ 8
  n : N.length ≤ 400
  a : A.length = N.length
  s : -1 ≤ S ∧ S < N.length
  row : ∀ r ∈ N, (r.length : Int) = L ∧ ∀ t ∈ r, -1 ≤ t ∧ t < N.length

/-! ### steps -/
def stp (N : LLI) (s : Int) (c : Nat) : Int := if s < 0 then -1 else ((N[s.toNat]?.getD [])[c]?).getD (-1)
def acc (A : LB) (s : Int) : Bool := if 0 ≤ s then A[s.toNat]?.getD false else false

/-! ### words -/
def stepI (L : Int) (N : LLI) (s c : Int) : Int := if s < 0 ∨ c < 0 ∨ c ≥ L then -1 else stp N s c.toNat
/-! ### few, copies -/
/-- the guard: small, in fact -/
structure Small (N : LLI) (A : LB) : Prop where
  n : N.length ≤ 410
  a : A.length ≤ 420
  r : ∀ r ∈ N, r.length ≤ 1700
theorem clone_f (l : List Int) (h : l.length ≤ 4294967296) : slices_Clone_int_int.f l = some (l, ()) := by
  rw [slices_Clone_int_int.f_eq, grow_ok h]; rfl
end Go.Proofs.C07.M
