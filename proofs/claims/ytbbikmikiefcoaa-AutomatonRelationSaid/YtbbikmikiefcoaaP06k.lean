/- Both texts tell the automaton of the language. -/
import Derived.Test.YtbbikmikiefcoaaP06j
set_option linter.unusedVariables false
set_option linter.unusedSimpArgs false
namespace Go.Proofs.C06
open Go Go.Proofs.R
set_option linter.unusedVariables false
set_option linter.unusedSimpArgs false
set_option maxRecDepth 100000

abbrev TI : Ty := .int .i64
theorem mgetI {β : Type} (z : β) (q q' : Int) (v : β) : ∀ m : List (Int × β), mget TI z q' (mput TI q v m) = if q' = q then (v, true) else mget TI z q' m
  | [] => by
    show (bif decide (q' = q) then (v, true) else (z, false)) = _
    by_cases h : q' = q <;> simp [h, mget]
  | p :: m => by
    show mget TI z q' (bif decide (q = p.1) then (p.1, v) :: m else p :: mput TI q v m) = if q' = q then (v, true) else (bif decide (q' = p.1) then (p.2, true) else mget TI z q' m)
    by_cases h1 : q = p.1
    · simp only [h1, decide_true, cond_true]
      show (bif decide (q' = p.1) then (v, true) else mget TI z q' m) = _
      by_cases h2 : q' = p.1 <;> simp [h2]
    · simp only [h1, decide_false, cond_false]
      show (bif decide (q' = p.1) then (p.2, true) else mget TI z q' (mput TI q v m)) = _
      by_cases h2 : q' = p.1
      · have h3 : ¬ q' = q := fun e => h1 (by rw [← e, h2])
        rw [if_neg h3]; simp [h2]
      · simp only [h2, decide_false, cond_false]
        exact mgetI z q q' v m

section
variable {L : Int} {N : LLI} {A : LB}
open Classical in
def MapOk (L : Int) (N : LLI) (A : LB) (v : List Int) (m : List (Int × Int)) (fs : List Lang) : Prop :=
  ∀ t : Nat, t < N.length → live L N A (t : Int) → mget TI (0 : Int) (cat v t) m = if lang L N A t ∈ fs then (((place (lang L N A t) fs : Nat) : Int), true) else (0, false)
theorem MapOk.put {v : List Int} {m : List (Int × Int)} {fs : List Lang} (hv : Cls L N A v) (h : MapOk L N A v m fs) {t : Nat} (ht : t < N.length) (hl : live L N A (t : Int)) (hn : lang L N A t ∉ fs) :
    MapOk L N A v (mput TI (cat v t) ((fs.length : Nat) : Int) m) (putIn (lang L N A t) fs) := by
  intro u hu hlu
  rw [mgetI]
  by_cases e : cat v u = cat v t
  · have := (hv.eq u t hu ht hlu hl).1 e
    rw [if_pos e, this, if_pos (putIn_mem _ _), place_putIn, place_not hn]
  · have hne : lang L N A u ≠ lang L N A t := fun h => e ((hv.eq u t hu ht hlu hl).2 h)
    rw [if_neg e, h u hu hlu]
    have hp : putIn (lang L N A t) fs = fs ++ [lang L N A t] := by unfold putIn; rw [if_neg hn]
    by_cases hm : lang L N A u ∈ fs
    · rw [if_pos hm, if_pos (by rw [hp]; exact List.mem_append_left _ hm), hp, place_app hm]
    · rw [if_neg hm, if_neg (by rw [hp]; simp [hm, hne])]
structure StOk (L : Int) (N : LLI) (A : LB) (st : List Int) (fs : List Lang) : Prop where
  m : st.map (lang L N A) = fs
  r : ∀ s ∈ st, 0 ≤ s ∧ s < N.length
theorem StOk.len {st : List Int} {fs : List Lang} (h : StOk L N A st fs) : st.length = fs.length := by rw [← h.m]; simp
theorem StOk.put {st : List Int} {fs : List Lang} (h : StOk L N A st fs) {t : Int} (ht : 0 ≤ t ∧ t < N.length) (hn : lang L N A t ∉ fs) : StOk L N A (st ++ [t]) (putIn (lang L N A t) fs) := by
  refine ⟨?_, ?_⟩
  · unfold putIn; rw [if_neg hn, List.map_append, h.m]; rfl
  · intro s hs
    rcases List.mem_append.1 hs with hs | hs
    · exact h.r s hs
    · simp at hs; subst hs; exact ht

/-! ### the reference's -/
/-! ### equal automata -/
end
end Go.Proofs.C06
