/- Plain words for the chapter of automata: two automata side by side. -/
import Derived.Test.YtmbloefhgkhoaaaM07b
set_option linter.unusedVariables false
set_option linter.unusedSimpArgs false
namespace Go.Proofs.C07.M
open Go Go.Proofs.R
set_option linter.unusedVariables false
set_option linter.unusedSimpArgs false
set_option maxRecDepth 100000

abbrev Pr := Int × Int
abbrev Vis := Pr × Pr
abbrev TP : Ty := .pair (.int .i64) (.int .i64)

/-! ### maps whose keys are pairs -/
theorem keyEq_pair (x y : Pr) : keyEq TP x y = decide (x = y) := by
  obtain ⟨a, b⟩ := x; obtain ⟨c, d⟩ := y
  show (decide (a = c) && decide (b = d)) = _
  by_cases h1 : a = c <;> by_cases h2 : b = d <;> simp [h1, h2]
theorem mget_mput {β : Type} (z : β) (q q' : Pr) (v : β) : ∀ m : List (Pr × β), (mget TP z q' (mput TP q v m)).1 = if q' = q then v else (mget TP z q' m).1
  | [] => by
    simp only [mput, mget, keyEq_pair]
    by_cases h : q' = q <;> simp [h]
  | p :: m => by
    simp only [mput, mget, keyEq_pair]
    by_cases h1 : q = p.1
    · simp only [h1, decide_true, cond_true, mget, keyEq_pair]
      by_cases h2 : q' = p.1 <;> simp [h2]
    · simp only [h1, decide_false, cond_false, mget, keyEq_pair]
      by_cases h2 : q' = p.1
      · have h3 : ¬ q' = q := fun e => h1 (e ▸ h2)
        rw [if_neg h3]; simp [h2]
      · simp only [h2, decide_false, cond_false]
        exact mget_mput z q q' v m

/-! ### lists of numbers without repetition -/
theorem nodup_le : ∀ (n : Nat) (l : List Nat), l.Nodup → (∀ x ∈ l, x < n) → l.length ≤ n
  | 0, l, _, h => by
    cases l with
    | nil => simp
    | cons a l => have := h a (by simp); omega
  | n + 1, l, hd, h => by
    by_cases hn : n ∈ l
    · have h1 := nodup_le n (l.erase n) (hd.erase n) (fun x hx => by
        have h2 := List.mem_of_mem_erase hx
        have h3 : x ≠ n := by
          rintro rfl
          exact (List.Nodup.mem_erase_iff hd).1 hx |>.1 rfl
        have := h x h2
        omega)
      rw [List.length_erase_of_mem hn] at h1
      omega
    · have := nodup_le n l hd (fun x hx => by
        have h3 : x ≠ n := by rintro rfl; exact hn hx
        have := h x hx
        omega)
      omega

/-! ### the walk -/
def nx (Na Nb : LLI) (p : Pr) (c : Nat) : Pr := (stp Na p.1 c, stp Nb p.2 c)
def inU (Na Nb : LLI) (p : Pr) : Prop := (-1 ≤ p.1 ∧ p.1 < Na.length) ∧ (-1 ≤ p.2 ∧ p.2 < Nb.length)
def has (l : List Vis) (q : Pr) : Bool := l.any fun v => decide (v.1 = q)

section
variable (g : Pr → Bool) (L : Int) (Na Nb : LLI)
def one (i c : Nat) (l : List Vis) : List Vis :=
  match l[i]? with
  | some v => bif g (nx Na Nb v.1 c) && !has l (nx Na Nb v.1 c) then l ++ [(nx Na Nb v.1 c, ((i : Int), (c : Int)))] else l
  | none => l
structure Inv (p0 : Pr) (l : List Vis) : Prop where
  nd : (l.map (·.1)).Nodup
  u : ∀ v ∈ l, inU Na Nb v.1
  g : ∀ v ∈ l, g v.1 = true
  h0 : l[0]? = some (p0, (-1, 0))
  tree : ∀ j v, 0 < j → l[j]? = some v → ∃ b c : Nat, v.2 = ((b : Int), (c : Int)) ∧ b < j ∧ (c : Int) < L ∧ ∃ w, l[b]? = some w ∧ v.1 = nx Na Nb w.1 c
end

theorem has_app (l : List Vis) (q p : Pr) (x : Pr) : has (l ++ [(q, x)]) p = (has l p || decide (p = q)) := by
  unfold has
  rw [List.any_append]
  congr 1
  simp [eq_comm]

section
variable {g : Pr → Bool} {L Sa Sb : Int} {Na Nb : LLI} {Aa Ab : LB} {p0 : Pr}

def code (p : Pr) : Nat := (p.1 + 1).toNat * 401 + (p.2 + 1).toNat
/-! ### words -/
def Wd (L : Int) (w : List Nat) : Prop := ∀ c ∈ w, (c : Int) < L
theorem Wd.snoc {w : List Nat} {c : Nat} (h : Wd L w) (hc : (c : Int) < L) : Wd L (w ++ [c]) := by
  intro x hx
  rcases List.mem_append.1 hx with hx | hx
  · exact h x hx
  · simp at hx; subst hx; exact hc

theorem stp_neg {N : LLI} {s : Int} {c : Nat} (h : s < 0) : stp N s c = -1 := by unfold stp; rw [if_pos h]
def MapRep (m : List (Pr × Bool)) (l : List Vis) : Prop := ∀ q : Pr, (mget TP false q m).1 = has l q
theorem MapRep.put {m : List (Pr × Bool)} {l : List Vis} (h : MapRep m l) (q x : Pr) : MapRep (mput TP q true m) (l ++ [(q, x)]) := by
  intro p
  rw [mget_mput, has_app, h p]
  by_cases e : p = q <;> simp [e]
end
end Go.Proofs.C07.M
