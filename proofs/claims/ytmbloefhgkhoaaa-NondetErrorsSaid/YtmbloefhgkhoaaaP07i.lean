/- Automata with choices: words as ways from state to state. -/
import Derived.Test.YtmbloefhgkhoaaaP07h
set_option linter.unusedVariables false
set_option linter.unusedSimpArgs false
namespace Go.Proofs.C07
open Go Go.Proofs.R
open M (lt_at lt_end w_at app_at LLI)
set_option linter.unusedVariables false
set_option linter.unusedSimpArgs false
set_option maxRecDepth 100000

/-! ways -/
inductive Eps (E : List Ed) : Int → Int → Prop
  | refl (s : Int) : Eps E s s
  | step {x : Ed} {t : Int} : x ∈ E → x.2.1 < 0 → Eps E x.2.2 t → Eps E x.1 t
def Way (E : List Ed) : List Int → Int → Int → Prop
  | [], s, t => Eps E s t
  | c :: w, s, t => ∃ x ∈ E, Eps E s x.1 ∧ x.2.1 = c ∧ Way E w x.2.2 t
section
variable {E E' : List Ed}
theorem Eps.trans {s t u : Int} (h : Eps E s t) (h' : Eps E t u) : Eps E s u := by
  induction h with
  | refl => exact h'
  | step h1 h2 _ ih => exact .step h1 h2 (ih h')
theorem Eps.one {x : Ed} (h : x ∈ E) (h0 : x.2.1 < 0) : Eps E x.1 x.2.2 := .step h h0 (.refl _)
theorem Eps.mono (h : ∀ x ∈ E, x ∈ E') {s t : Int} (hs : Eps E s t) : Eps E' s t := by
  induction hs with
  | refl => exact .refl _
  | step h1 h2 _ ih => exact .step (h _ h1) h2 ih
theorem Way.mono (h : ∀ x ∈ E, x ∈ E') : ∀ {w : List Int} {s t : Int}, Way E w s t → Way E' w s t
  | [], _, _, hw => Eps.mono h hw
  | _ :: _, _, _, ⟨x, h1, h2, h3, h4⟩ => ⟨x, h x h1, h2.mono h, h3, Way.mono h h4⟩
theorem Way.pre {s t u : Int} (h : Eps E s t) : ∀ {w : List Int}, Way E w t u → Way E w s u
  | [], hw => Eps.trans h hw
  | _ :: _, ⟨x, h1, h2, h3, h4⟩ => ⟨x, h1, h.trans h2, h3, h4⟩
theorem Way.post {t u : Int} (h : Eps E t u) : ∀ {w : List Int} {s : Int}, Way E w s t → Way E w s u
  | [], _, hw => Eps.trans hw h
  | _ :: _, _, ⟨x, h1, h2, h3, h4⟩ => ⟨x, h1, h2, h3, Way.post h h4⟩
end
section
variable {n : Nat} {E : List Ed}
end

/-! reversed ways -/
def revE (E : List Ed) : List Ed := E.map fun x => (x.2.2, (x.2.1, x.1))
theorem mem_revE {E : List Ed} {a c b : Int} : (a, (c, b)) ∈ revE E ↔ (b, (c, a)) ∈ E := by
  unfold revE
  rw [List.mem_map]
  constructor
  · rintro ⟨x, h1, h2⟩
    simp only [Prod.mk.injEq] at h2
    obtain ⟨rfl, rfl, rfl⟩ := h2
    exact h1
  · intro h; exact ⟨_, h, rfl⟩
/-! ways in two automata beside each other -/
def shE (k : Int) (E : List Ed) : List Ed := E.map fun x => (x.1 + k, (x.2.1, x.2.2 + k))
def shL (k : Int) (l : List Int) : List Int := l.map fun s => s + k
section
variable {na nb : Nat} {Ea Eb B : List Ed}
theorem mem_shE {k : Int} {E : List Ed} {x : Ed} : x ∈ shE k E ↔ (x.1 - k, (x.2.1, x.2.2 - k)) ∈ E := by
  unfold shE; rw [List.mem_map]
  constructor
  · rintro ⟨y, h1, rfl⟩
    simp only [Int.add_sub_cancel]; exact h1
  · intro h; exact ⟨_, h, by simp only [Int.sub_add_cancel]⟩
theorem mem_shL {k : Int} {l : List Int} {s : Int} : s ∈ shL k l ↔ s - k ∈ l := by
  unfold shL; rw [List.mem_map]
  constructor
  · rintro ⟨y, h1, rfl⟩; rw [Int.add_sub_cancel]; exact h1
  · intro h; exact ⟨_, h, Int.sub_add_cancel _ _⟩
end
end Go.Proofs.C07
