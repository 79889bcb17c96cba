/- Arcs, sorted by their first nodes, the last ones first. -/
import Derived.Test.YtheklfonahgmhaaP27r
set_option linter.unusedVariables false
set_option linter.unusedSimpArgs false
namespace Go.Proofs.R
open Go
set_option linter.unusedVariables false
def cmpI (a b : Int) : Int := if a < b then -1 else if a > b then 1 else 0
theorem cmpI_neg (a b : Int) : cmpI a b < 0 ↔ a < b := by
 unfold cmpI
 split
 ·rename_i h; simp [h]
 ·rename_i h
  split <;> simp [h]
abbrev Arc := Int × Int × Int
def fromN (arcs : List Arc) (i : Int) : Nat := ((arcs[i.toNat]?).getD (0, 0, 0)).1.toNat
theorem sort_desc {arcs : List Arc} {n : Nat} (hn : 0 < n) (h : ∀ a ∈ arcs, 0 ≤ a.1 ∧ a.1 < n) {cmp : Int → Int → Option Int} {xs : List Int}
  (hc : ∀ x ∈ xs, ∀ y ∈ xs, cmp x y = some (cmpI (fromN arcs y) (fromN arcs x))) : sortB true cmp xs = some (buckets (fun i => n - 1 - fromN arcs i) xs n) := by
 have hb : ∀ i, fromN arcs i < n := by
  intro i
  unfold fromN
  cases hi : arcs[i.toNat]? with
  | none => simpa using hn
  | some a =>
   have := h a (List.mem_of_getElem? hi)
   simp only [Option.getD_some]
   omega
 refine sortB_buckets (k := fun i => n - 1 - fromN arcs i) (cf := fun x y => cmpI (fromN arcs y) (fromN arcs x)) hc ?_ ?_
 ·intro x y
  rw [cmpI_neg]
  have h1 := hb x
  have h2 := hb y
  omega
 ·intro x _
  show n - 1 - fromN arcs x < n
  omega
theorem eachB_done {α ρ : Type} {xs : List α} {k : Nat} {seen : List Nat} {d : Option ρ} {f : Nat → α → Option ρ} (h1 : xs.length = k) (h2 : ∀ j, j < k → j ∈ seen) : eachB xs k seen d f = d := by
 unfold eachB
 rw [if_pos h1, if_neg]
 rintro ⟨j, h3, h4⟩
 exact h4 (h2 j h3)
theorem eachB_one {α ρ : Type} {x : α} {d : Option ρ} {f : Nat → α → Option ρ} {r : ρ} (h : f 0 x = some r) : eachB [x] 1 [] d f = some r := by
 unfold eachB
 rw [if_pos (show [x].length = 1 from rfl), if_pos ⟨0, by omega, by simp⟩]
 have hh : ∃ r, ∀ (j : Nat) (y : α), [x][j]? = some y → j ∉ ([] : List Nat) → f j y = some r := by
  refine ⟨r, ?_⟩
  intro j y hj _
  cases j with
  | zero => simp at hj; subst hj; exact h
  | succ j => simp at hj
 rw [dif_pos hh]
 have := hh.choose_spec 0 x rfl (by simp)
 rw [h] at this
 rw [Option.some.inj this]
end Go.Proofs.R
