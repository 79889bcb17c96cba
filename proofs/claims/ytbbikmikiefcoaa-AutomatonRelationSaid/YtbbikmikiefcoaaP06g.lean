/- The least automaton of a language, as plain words. -/
import Derived.Test.YtbbikmikiefcoaaP06f
set_option linter.unusedVariables false
set_option linter.unusedSimpArgs false
namespace Go.Proofs.C06
open Go Go.Proofs.R
set_option linter.unusedVariables false
set_option linter.unusedSimpArgs false
set_option maxRecDepth 100000

/-- an automaton whose rows are right -/
structure W (L : Int) (N : LLI) (A : LB) : Prop where
  l1 : 1 ≤ L
  l8 : L ≤ 8
  n : N.length ≤ 4000000
  a : A.length = N.length
  row : ∀ r ∈ N, (r.length : Int) = L ∧ ∀ t ∈ r, -1 ≤ t ∧ t < N.length
theorem V.w {L S : Int} {N : LLI} {A : LB} (h : V L S N A) : W L N A := ⟨h.l1, h.l8, by have := h.n; omega, h.a, h.row⟩
theorem W.v {L S : Int} {N : LLI} {A : LB} (h : W L N A) (hn : N.length ≤ 400) (hs : -1 ≤ S ∧ S < N.length) : V L S N A := ⟨h.l1, h.l8, hn, h.a, hs, h.row⟩

abbrev Lang := List Nat → Bool
def wdB (L : Int) (w : List Nat) : Bool := w.all fun c => decide ((c : Int) < L)
theorem wdB_iff {L : Int} {w : List Nat} : wdB L w = true ↔ Wd L w := by unfold wdB Wd; simp
/-- the words that are accepted from a state -/
def lang (L : Int) (N : LLI) (A : LB) (s : Int) : Lang := fun w => wdB L w && acc A (run N s w)
def emp : Lang := fun _ => false

theorem lang_wd {L : Int} {N : LLI} {A : LB} {s : Int} {w : List Nat} (h : Wd L w) : lang L N A s w = acc A (run N s w) := by
  unfold lang; rw [wdB_iff.2 h]; rfl
/-! ### places -/
open Classical in
noncomputable def place {α : Type} (d : α) : List α → Nat
  | [] => 0
  | x :: xs => if x = d then 0 else place d xs + 1
open Classical in
noncomputable def putIn {α : Type} (d : α) (l : List α) : List α := if d ∈ l then l else l ++ [d]
theorem place_not {α : Type} {d : α} : ∀ {l : List α}, d ∉ l → place d l = l.length
  | [], h => rfl
  | x :: xs, h => by
    unfold place
    rw [if_neg (fun e => h (by simp [e])), place_not (l := xs) (fun e => h (by simp [e]))]; simp
theorem place_app {α : Type} {d : α} {e : List α} : ∀ {l : List α}, d ∈ l → place d (l ++ e) = place d l
  | [], h => by cases h
  | x :: xs, h => by
    show place d (x :: (xs ++ e)) = _
    unfold place
    by_cases e : x = d
    · rw [if_pos e, if_pos e]
    · rw [if_neg e, if_neg e, place_app (l := xs) (by rcases List.mem_cons.1 h with h | h; exact absurd h.symm e; exact h)]
theorem putIn_mem {α : Type} (d : α) (l : List α) : d ∈ putIn d l := by unfold putIn; split <;> simp_all
theorem putIn_nodup {α : Type} {d : α} {l : List α} (h : l.Nodup) : (putIn d l).Nodup := by
  unfold putIn; split
  · exact h
  · rename_i hd
    rw [List.nodup_append]
    refine ⟨h, by simp, ?_⟩
    intro a ha b hb e
    simp at hb; subst hb; subst e; exact hd ha
theorem mem_putIn {α : Type} {d x : α} {l : List α} (h : x ∈ putIn d l) : x ∈ l ∨ x = d := by
  unfold putIn at h; split at h
  · exact .inl h
  · simpa using h
theorem place_putIn {α : Type} {d : α} {l : List α} : place d (putIn d l) = place d l := by
  unfold putIn; split
  · rfl
  · rename_i hd
    rw [place_not hd]
    have : (l ++ [d])[l.length]? = some d := by simp
    clear this
    induction l with
    | nil => simp [place]
    | cons x xs ih =>
      show place d (x :: (xs ++ [d])) = _
      unfold place
      rw [if_neg (fun e => hd (by simp [e])), ih (fun e => hd (by simp [e]))]; simp

/-! ### the automaton of a language: its rests, as they are found -/
open Classical in
noncomputable def cPut (d : Lang) (fs : List Lang) : List Lang := if d = emp then fs else putIn d fs
/-- an entry is right -/
def Ent (fs : List Lang) (d : Lang) (t : Int) : Prop := (d = emp ∧ t = -1) ∨ (d ≠ emp ∧ 0 ≤ t ∧ fs[t.toNat]? = some d)
theorem Ent.rng {fs : List Lang} {d : Lang} {t : Int} (h : Ent fs d t) : -1 ≤ t ∧ t < fs.length := by
  rcases h with ⟨_, h⟩ | ⟨_, h2, h3⟩
  · omega
  · have := (List.getElem?_eq_some_iff.1 h3).1; omega
/-- what is found: languages of states -/
structure Fnd (P : Lang → Prop) (fs : List Lang) : Prop where
  nd : fs.Nodup
  ne : ∀ x ∈ fs, x ≠ emp
  p : ∀ x ∈ fs, P x
theorem Fnd.put {P : Lang → Prop} {fs : List Lang} (h : Fnd P fs) {d : Lang} (hd : P d) : Fnd P (cPut d fs) := by
  unfold cPut
  by_cases e : d = emp
  · rw [if_pos e]; exact h
  · rw [if_neg e]
    refine ⟨putIn_nodup h.nd, fun x hx => ?_, fun x hx => ?_⟩
    · rcases mem_putIn hx with hx | rfl
      · exact h.ne x hx
      · exact e
    · rcases mem_putIn hx with hx | rfl
      · exact h.p x hx
      · exact hd

/-! ### languages of automata -/
section
variable {L : Int} {N : LLI} {A : LB}
end
end Go.Proofs.C06
