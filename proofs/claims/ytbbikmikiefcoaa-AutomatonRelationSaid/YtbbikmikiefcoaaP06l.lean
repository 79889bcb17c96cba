/- Minimal, Same: the laws. -/
import Derived.Test.YtbbikmikiefcoaaP06k
set_option linter.unusedVariables false
set_option linter.unusedSimpArgs false
namespace Go.Proofs.C06
open Go Go.Proofs.R
set_option linter.unusedVariables false
set_option linter.unusedSimpArgs false
set_option maxRecDepth 100000

section
variable {L S : Int} {N : LLI} {A : LB}
theorem V.ok (h : V L S N A) (h0 : N = [] ∨ 0 ≤ S) : ok L S N A = true := by
  unfold Go.Proofs.C06.ok headOk
  have h1 := h.l1; have h2 := h.l8; have h3 := h.n; have h4 := h.a; have h5 := h.s
  simp only [Bool.and_eq_true, Bool.not_eq_true', decide_eq_false_iff_not, beq_iff_eq, List.all_eq_true]
  refine ⟨⟨⟨⟨⟨by omega, by omega⟩, by omega⟩, by omega⟩, ?_⟩, ?_⟩
  · by_cases hs : S < 0
    · rw [decide_eq_true hs, cond_true]
      have e : S = -1 := by omega
      subst e
      rcases h0 with h0 | h0
      · subst h0; rfl
      · omega
    · rw [decide_eq_false hs, cond_false]; simp; omega
  · intro r hr
    unfold rowOk
    obtain ⟨q1, q2⟩ := h.row r hr
    simp only [Bool.and_eq_true, beq_iff_eq, Bool.not_eq_true', List.any_eq_false]
    refine ⟨q1, fun t ht => ?_⟩
    have := q2 t ht
    unfold badT
    simp; omega
end

/-! ### two automata -/
section
variable {L Sa Sb : Int} {Na Nb : LLI} {Aa Ab : LB}
/-- no word tells apart exactly if the languages are the same -/
theorem diff_none_iff (ha : V L Sa Na Aa) (hb : V L Sb Nb Ab) : diffW L Sa Na Aa Sb Nb Ab = none ↔ lang L Na Aa Sa = lang L Nb Ab Sb := by
  constructor
  · intro h
    funext w
    unfold lang
    cases hw : wdB L w with
    | false => rfl
    | true => rw [diffW_none ha hb h (wdB_iff.1 hw)]
  · intro e
    cases h : diffW L Sa Na Aa Sb Nb Ab with
    | none => rfl
    | some w =>
      obtain ⟨h1, h2, h3⟩ := diffW_some ha hb h
      rw [← lang_wd h1, ← lang_wd h1, e] at h3
      cases hx : lang L Nb Ab Sb w <;> rw [hx] at h3 <;> cases h3
open Classical in
theorem sameF (ha : V L Sa Na Aa) (hb : V L Sb Nb Ab) (hok : errP L Sa Na Aa L Sb Nb Ab = true) : automaton_Same.f L Sa Na Aa L Sb Nb Ab = some (decide (lang L Na Aa Sa = lang L Nb Ab Sb), (0, ())) := by
  obtain ⟨hI, hD⟩ := walkL_facts ha hb
  have hlen := inv_len ha hb hI
  have hiff := diff_none_iff ha hb
  rw [automaton_Same.f_eq, both_f, hok, bindD_some, ifB_not _ _ (by rfl), visits_f ha hb, bindD_some, differ_f ha hb _ hlen hI.u, bindD_some]
  unfold diffW at hiff
  cases hf : firstD Aa Ab (walkL L Sa Na Sb Nb) 0 with
  | none =>
    rw [hf] at hiff
    have : lang L Na Aa Sa = lang L Nb Ab Sb := hiff.1 rfl
    rw [decide_eq_true this]; rfl
  | some i =>
    rw [hf] at hiff
    have : ¬ lang L Na Aa Sa = lang L Nb Ab Sb := fun e => by have := hiff.2 e; cases this
    rw [decide_eq_false this]
    unfold numD
    have h0 : ¬ ((i : Nat) : Int) < 0 := by omega
    simp [h0]
theorem small_f (L S : Int) (N : LLI) (A : LB) (L' S' : Int) (N' : LLI) (A' : LB) (hN : ∀ r ∈ N, r.length ≤ 140737488351232) (hN' : ∀ r ∈ N', r.length ≤ 140737488351232) :
    ∃ b, ancepslaw06_small.f L S N A L' S' N' A' = some (b, ()) ∧ (b = true → Small N A ∧ Small N' A') := by
  obtain ⟨b, hb, hs⟩ := few_f L S N A hN
  obtain ⟨b', hb', hs'⟩ := few_f L' S' N' A' hN'
  rw [ancepslaw06_small.f_eq, hb, bindD_some]
  cases b with
  | false => exact ⟨false, rfl, fun h => by cases h⟩
  | true =>
    rw [ifB_true, hb', bindD_some]
    cases b' with
    | false => exact ⟨false, rfl, fun h => by cases h⟩
    | true => exact ⟨_, by rw [ifB_true], fun _ => ⟨hs rfl, hs' rfl⟩⟩

end
end Go.Proofs.C06
