/- Automata with choices: what Reverse, Union, Concat and Star answer. -/
import Derived.Test.YtmbloefhgkhoaaaP07k
set_option linter.unusedVariables false
set_option linter.unusedSimpArgs false
namespace Go.Proofs.C07
open Go Go.Proofs.R
open M (lt_at lt_end w_at app_at LLI)
set_option linter.unusedVariables false
set_option linter.unusedSimpArgs false
set_option maxRecDepth 100000

abbrev NR := Int × (Int × (List Int × (List Ed × (List Int × (Int × Unit)))))
def errV (e : Int) : NR := (0, (0, ([], ([], ([], (e, ()))))))
/-! valid automata have edges in order -/
theorem edP_asc {L S : Int} : ∀ {l : List Ed} {p : Option Ed}, edP L S p l = true → l.Pairwise (fun a b => aheadB a b = true) ∧ ∀ y, p = some y → ∀ x ∈ l, aheadB y x = true
  | [], p, h => ⟨.nil, fun _ _ _ h => by cases h⟩
  | x :: l, p, h => by
    simp only [edP, Bool.and_eq_true] at h
    obtain ⟨h1, h2, h3⟩ := h
    obtain ⟨h4, h5⟩ := edP_asc h3
    refine ⟨List.pairwise_cons.2 ⟨fun z hz => h5 x rfl z hz, h4⟩, ?_⟩
    rintro y rfl z hz
    simp only at h2
    rcases List.mem_cons.1 hz with rfl | hz
    · exact h2
    · exact ahead_tr h2 (h5 x rfl z hz)
theorem edP_of {L S : Int} : ∀ {l : List Ed} {p : Option Ed}, l.Pairwise (fun a b => aheadB a b = true) → (∀ x ∈ l, edB L S x = true) → (∀ y, p = some y → ∀ x ∈ l, aheadB y x = true) → edP L S p l = true
  | [], p, _, _, _ => rfl
  | x :: l, p, h1, h2, h3 => by
    rw [List.pairwise_cons] at h1
    have ih := edP_of (L := L) (S := S) (p := some x) h1.2 (fun z hz => h2 z (List.mem_cons_of_mem _ hz)) (fun y hy z hz => by cases hy; exact h1.1 z hz)
    have h4 := h2 x List.mem_cons_self
    cases p with
    | none => simp only [edP, h4, ih, Bool.and_self]
    | some y => simp only [edP, h4, ih, h3 y rfl x List.mem_cons_self, Bool.and_self]
structure NV2 (L S : Int) (St : List Int) (E : List Ed) (Ac : List Int) : Prop extends NV L S St E Ac where
  sa : ascP S none St = true
  aa : ascP S none Ac = true
  asc : E.Pairwise fun a b => aheadB a b = true
theorem nv2_of {L S : Int} {St : List Int} {E : List Ed} {Ac : List Int} (h : nok L S St E Ac = true) : NV2 L S St E Ac := by
  have h0 := nv_of h
  simp only [nok, Bool.and_eq_true, decide_eq_true_eq] at h
  obtain ⟨⟨a1, a2⟩, ⟨a3, a4⟩, a5, a6, a7, a8⟩ := h
  exact ⟨h0, a6, a7, (edP_asc a8).1⟩
theorem nok_of {L S : Int} {St : List Int} {E : List Ed} {Ac : List Int} (h1 : 1 ≤ L ∧ L ≤ 8) (h2 : 0 ≤ S ∧ S ≤ 400) (h3 : E.length ≤ 4000) (h4 : ascP S none St = true) (h5 : ascP S none Ac = true) (h6 : E.Pairwise fun a b => aheadB a b = true)
    (h7 : ∀ x ∈ E, 0 ≤ x.1 ∧ x.1 < S ∧ 0 ≤ x.2.2 ∧ x.2.2 < S ∧ -1 ≤ x.2.1 ∧ x.2.1 < L) : nok L S St E Ac = true := by
  have h8 := edP_of (L := L) (S := S) (p := none) h6 (fun x hx => edB_true (h7 x hx)) (fun _ h => by cases h)
  unfold nok
  simp only [Bool.and_eq_true, decide_eq_true_eq]
  exact ⟨h1, h2, by omega, h4, h5, h8⟩
theorem NV2.nd {L S : Int} {St : List Int} {E : List Ed} {Ac : List Int} (h : NV2 L S St E Ac) : E.Nodup := h.asc.imp fun hab e => by rw [e, ahead_irr] at hab; cases hab
theorem revE_nd {E : List Ed} (h : E.Nodup) : (revE E).Nodup := by
  unfold revE
  rw [List.nodup_iff_pairwise_ne] at *
  refine List.pairwise_map.2 (h.imp fun {a b} hab e => hab ?_)
  obtain ⟨a1, a2, a3⟩ := a
  obtain ⟨b1, b2, b3⟩ := b
  simp only [Prod.mk.injEq] at e
  simp [e]

/-! Reverse -/
section
variable {L S : Int} {St : List Int} {E : List Ed} {Ac : List Int}
theorem rev_l6 (r : List Ed) (b0 b1 : Int) (c0 : List Int) (c1 : List Ed) (c2 : List Int) (St' Ac' : List Int) : ∀ (suf pre : List Ed), pre ++ suf = E → E.length ≤ 4000 → E.Nodup → Srt r (revE E) →
    nondet_Reverse.l6 (pre ++ suf) ((pre ++ suf).length : Nat) (pre.length : Nat) b0 b1 L S c0 c1 c2 St' (revE pre) Ac' = some (L, (S, (St', (r, (Ac', (0, ()))))))
  | [], pre, he, h, hn, hr => by
    rw [List.append_nil] at he
    subst he
    rw [nondet_Reverse.l6_eq, ifB_not _ _ (lt_end pre), grow_ok (by simp [revE]; omega), bindD_some, sort_edges hr (revE_nd hn), bindD_some]
  | x :: suf, pre, he, h, hn, hr => by
    have hl : pre.length < 4001 := by rw [← he] at h; simp only [List.length_append] at h; omega
    have hrl : (revE pre).length = pre.length := by simp [revE]
    have e1 : revE pre ++ [(x.2.2, x.2.1, x.1)] = revE (pre ++ [x]) := by simp [revE]
    rw [nondet_Reverse.l6_eq, ifB_of _ _ (lt_at pre x suf), ixAt_at, bindD_some, grow_one _ (by omega), bindD_some, w_pre pre x (by omega), e1, app_at pre x suf]
    exact rev_l6 r b0 b1 c0 c1 c2 St' Ac' suf (pre ++ [x]) (by rw [← app_at]; exact he) h hn hr
theorem rrev_l6 (r : List Ed) (a0 a1 : Int) (d0 : List Int) (d1 : List Int) (b0 b1 : Int) (c0 : List Int) (c1 : List Ed) (c2 : List Int) (St' Ac' : List Int) (hsrt : ∀ {l : List Ed}, l = revE E → ancepsref07_sorted.f l = some (r, ())) : ∀ (suf pre : List Ed), pre ++ suf = E → E.length ≤ 4000 →
    ancepsref07_Reverse.l6 (pre.length : Nat) a0 a1 d0 (pre ++ suf) d1 b0 b1 L S c0 c1 c2 St' (revE pre) Ac' = some (L, (S, (St', (r, (Ac', (0, ()))))))
  | [], pre, he, h => by
    rw [List.append_nil] at he
    subst he
    rw [ancepsref07_Reverse.l6_eq, ifB_not _ _ (lt_end pre), hsrt rfl, bindD_some]
  | x :: suf, pre, he, h => by
    have hl : pre.length < 4001 := by rw [← he] at h; simp only [List.length_append] at h; omega
    have hrl : (revE pre).length = pre.length := by simp [revE]
    have e1 : revE pre ++ [(x.2.2, x.2.1, x.1)] = revE (pre ++ [x]) := by simp [revE]
    rw [ancepsref07_Reverse.l6_eq, ifB_of _ _ (lt_at pre x suf), ixAt_at, bindD_some, grow_one _ (by omega), bindD_some, w_pre pre x (by omega), e1, app_at pre x suf]
    exact rrev_l6 r a0 a1 d0 d1 b0 b1 c0 c1 c2 St' Ac' hsrt suf (pre ++ [x]) (by rw [← app_at]; exact he) h
/-- both texts reverse alike -/
theorem reverse_f (L S : Int) (St : List Int) (E : List Ed) (Ac : List Int) (h1 : St.length < 1000000) (h2 : Ac.length < 1000000) :
    (nok L S St E Ac = false ∧ nondet_Reverse.f L S St E Ac = some (errV 1) ∧ ancepsref07_Reverse.f L S St E Ac = some (errV 1)) ∨
    (nok L S St E Ac = true ∧ ∃ r, Srt r (revE E) ∧ nok L S Ac r St = true ∧ nondet_Reverse.f L S St E Ac = some (L, (S, (Ac, (r, (St, (0, ())))))) ∧ ancepsref07_Reverse.f L S St E Ac = some (L, (S, (Ac, (r, (St, (0, ()))))))) := by
  rw [nondet_Reverse.f_eq, ancepsref07_Reverse.f_eq, nvalid_f _ _ _ _ _ h1 h2, rnvalid_f _ _ _ _ _ h1 h2, bindD_some, bindD_some]
  cases hv : nok L S St E Ac with
  | false => exact .inl ⟨rfl, rfl, rfl⟩
  | true =>
    have h := nv2_of hv
    have he := h.e
    obtain ⟨r, hr1, hr2⟩ := srt_f (l := revE E) (by simp [revE]; omega)
    refine .inr ⟨rfl, r, hr2, ?_, ?_, ?_⟩
    · refine nok_of ⟨h.l1, h.l8⟩ ⟨h.s0, h.s4⟩ (by rw [hr2.len (revE_nd h.nd)]; simpa [revE] using he) h.aa h.sa hr2.asc (fun x hx => ?_)
      obtain ⟨a, c, b⟩ := x
      have := h.ed _ (mem_revE.1 ((hr2.mem _).1 hx))
      simp only at this ⊢
      omega
    · rw [ifB_not _ _ (by rfl), clone_f (by omega), bindD_some, clone_f (by omega), bindD_some]
      exact rev_l6 (E := E) r 0 0 [] [] [] Ac St E [] rfl he h.nd hr2
    · rw [ifB_not _ _ (by rfl), grow_ok (by simp; omega), bindD_some, grow_ok (by simp; omega), bindD_some]
      exact rrev_l6 (E := E) r L S St Ac 0 0 [] [] [] Ac St (fun hl => by rw [hl]; exact hr1) E [] rfl he
end
end Go.Proofs.C07
