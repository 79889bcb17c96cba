/- Automata with choices: what Reverse, Union, Concat and Star answer. -/
import Derived.Test.YtmbloefhgkhoaaaP07k
set_option linter.unusedVariables false
set_option linter.unusedSimpArgs false
namespace Go.Proofs.C07
open Go Go.Proofs.R
open M (lt_at lt_end w_at app_at LLI)
set_option linter.unusedVariables false
set_option linter.unusedSimpArgs false
set_option maxRecDepth 100000

abbrev NR := Int × (Int × (List Int × (List Ed × (List Int × (Int × Unit)))))
def errV (e : Int) : NR := (0, (0, ([], ([], ([], (e, ()))))))
/-! valid automata have edges in order -/
theorem edP_asc {L S : Int} : ∀ {l : List Ed} {p : Option Ed}, edP L S p l = true → l.Pairwise (fun a b => aheadB a b = true) ∧ ∀ y, p = some y → ∀ x ∈ l, aheadB y x = true
  | [], p, h => ⟨.nil, fun _ _ _ h => by cases h⟩
  | x :: l, p, h => by
    simp only [edP, Bool.and_eq_true] at h
    obtain ⟨h1, h2, h3⟩ := h
    obtain ⟨h4, h5⟩ := edP_asc h3
    refine ⟨List.pairwise_cons.2 ⟨fun z hz => h5 x rfl z hz, h4⟩, ?_⟩
    rintro y rfl z hz
    simp only at h2
    rcases List.mem_cons.1 hz with rfl | hz
    · exact h2
    · exact ahead_tr h2 (h5 x rfl z hz)
theorem edP_of {L S : Int} : ∀ {l : List Ed} {p : Option Ed}, l.Pairwise (fun a b => aheadB a b = true) → (∀ x ∈ l, edB L S x = true) → (∀ y, p = some y → ∀ x ∈ l, aheadB y x = true) → edP L S p l = true
  | [], p, _, _, _ => rfl
  | x :: l, p, h1, h2, h3 => by
    rw [List.pairwise_cons] at h1
    have ih := edP_of (L := L) (S := S) (p := some x) h1.2 (fun z hz => h2 z (List.mem_cons_of_mem _ hz)) (fun y hy z hz => by cases hy; exact h1.1 z hz)
    have h4 := h2 x List.mem_cons_self
    cases p with
    | none => simp only [edP, h4, ih, Bool.and_self]
    | some y => simp only [edP, h4, ih, h3 y rfl x List.mem_cons_self, Bool.and_self]
structure NV2 (L S : Int) (St : List Int) (E : List Ed) (Ac : List Int) : Prop extends NV L S St E Ac where
  sa : ascP S none St = true
  aa : ascP S none Ac = true
  asc : E.Pairwise fun a b => aheadB a b = true
theorem nv2_of {L S : Int} {St : List Int} {E : List Ed} {Ac : List Int} (h : nok L S St E Ac = true) : NV2 L S St E Ac := by
  have h0 := nv_of h
  simp only [nok, Bool.and_eq_true, decide_eq_true_eq] at h
  obtain ⟨⟨a1, a2⟩, ⟨a3, a4⟩, a5, a6, a7, a8⟩ := h
  exact ⟨h0, a6, a7, (edP_asc a8).1⟩
theorem nok_of {L S : Int} {St : List Int} {E : List Ed} {Ac : List Int} (h1 : 1 ≤ L ∧ L ≤ 8) (h2 : 0 ≤ S ∧ S ≤ 400) (h3 : E.length ≤ 4000) (h4 : ascP S none St = true) (h5 : ascP S none Ac = true) (h6 : E.Pairwise fun a b => aheadB a b = true)
    (h7 : ∀ x ∈ E, 0 ≤ x.1 ∧ x.1 < S ∧ 0 ≤ x.2.2 ∧ x.2.2 < S ∧ -1 ≤ x.2.1 ∧ x.2.1 < L) : nok L S St E Ac = true := by
  have h8 := edP_of (L := L) (S := S) (p := none) h6 (fun x hx => edB_true (h7 x hx)) (fun _ h => by cases h)
  unfold nok
  simp only [Bool.and_eq_true, decide_eq_true_eq]
  exact ⟨h1, h2, by omega, h4, h5, h8⟩
theorem NV2.nd {L S : Int} {St : List Int} {E : List Ed} {Ac : List Int} (h : NV2 L S St E Ac) : E.Nodup := h.asc.imp fun hab e => by rw [e, ahead_irr] at hab; cases hab
/-! Reverse -/
section
variable {L S : Int} {St : List Int} {E : List Ed} {Ac : List Int}
end
end Go.Proofs.C07
