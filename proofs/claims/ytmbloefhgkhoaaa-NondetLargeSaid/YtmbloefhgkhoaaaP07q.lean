/- Automata with choices: Star, and the law of errors. -/
import Derived.Test.YtmbloefhgkhoaaaP07p
set_option linter.unusedVariables false
set_option linter.unusedSimpArgs false
namespace Go.Proofs.C07
open Go Go.Proofs.R
open M (lt_at lt_end w_at app_at LLI)
set_option linter.unusedVariables false
set_option linter.unusedSimpArgs false
set_option maxRecDepth 100000

section
variable {L S : Int} {St : List Int} {E : List Ed} {Ac : List Int}
theorem star_l12 (n : Int) (b0 b1 S' : Int) (e1 : List Int) (e2 : List Ed) (e3 : List Int) (T A : List Int) : ∀ (suf pre : List Int) (E : List Ed), (pre ++ suf).length < 1000000 → E.length + suf.length < 1000000 →
    nondet_Star.l12 n (pre ++ suf) ((pre ++ suf).length : Nat) (pre.length : Nat) b0 b1 L S' e1 e2 e3 T E A = smallT L S' T (E ++ suf.map fun s => (s, ((-1 : Int), n))) A
  | [], pre, E, h, h2 => by rw [nondet_Star.l12_eq, ifB_not _ _ (lt_end pre)]; simp only [List.map_nil, List.append_nil]; rfl
  | x :: suf, pre, E, h, h2 => by
    have hl : pre.length < 1000000 := by simp only [List.length_append] at h; omega
    simp only [List.length_cons] at h2
    rw [nondet_Star.l12_eq, ifB_of _ _ (lt_at pre x suf), ixAt_at, bindD_some, grow_one _ (by omega), bindD_some, w_pre pre x (by omega), app_at pre x suf,
      star_l12 n b0 b1 S' e1 e2 e3 T A suf (pre ++ [x]) _ (by rw [← app_at]; exact h) (by simp; omega)]
    simp
theorem star_l7 (n : Int) (c1 c2 : Int) (d1 : List Int) (d2 : List Ed) (b0 b1 S' : Int) (e1 : List Int) (e2 : List Ed) (e3 : List Int) (T A : List Int) (hA : Ac.length < 1000000) : ∀ (suf pre : List Int) (E : List Ed), (pre ++ suf).length < 1000000 → E.length + suf.length + Ac.length < 1000000 →
    nondet_Star.l7 n (pre ++ suf) ((pre ++ suf).length : Nat) (pre.length : Nat) c1 c2 d1 d2 Ac b0 b1 L S' e1 e2 e3 T E A = smallT L S' T (E ++ stE n suf Ac) A
  | [], pre, E, h, h2 => by
    have := star_l12 (L := L) n b0 b1 S' e1 e2 e3 T A Ac [] E (by simpa using hA) (by simp only [List.length_nil] at h2; omega)
    rw [List.nil_append, List.length_nil, Int.ofNat_zero] at this
    rw [nondet_Star.l7_eq, ifB_not _ _ (lt_end pre), this]; rfl
  | x :: suf, pre, E, h, h2 => by
    have hl : pre.length < 1000000 := by simp only [List.length_append] at h; omega
    simp only [List.length_cons] at h2
    rw [nondet_Star.l7_eq, ifB_of _ _ (lt_at pre x suf), ixAt_at, bindD_some, grow_one _ (by omega), bindD_some, w_pre pre x (by omega), app_at pre x suf,
      star_l7 n c1 c2 d1 d2 b0 b1 S' e1 e2 e3 T A hA suf (pre ++ [x]) _ (by rw [← app_at]; exact h) (by simp; omega)]
    simp [stE]
/-- what stands behind the reference's loops -/
noncomputable def rsmallT (L S : Int) (T : List Int) (E : List Ed) (A : List Int) : Option NR :=
  bindD (ancepsref07_large.f L S T E A) fun t485 => ifB t485.1 (some (errV 3)) (bindD (ancepsref07_sorted.f E) fun t486 => some (L, (S, (T, (t486.1, (A, ((0 : Int), ())))))))
theorem rstar_l12 (n : Int) (c1 c2 : Int) (d1 : List Int) (d2 : List Ed) (b0 b1 S' : Int) (e1 : List Int) (e2 : List Ed) (e3 : List Int) (T A : List Int) : ∀ (suf pre : List Int) (E : List Ed), (pre ++ suf).length < 1000000 → E.length + suf.length < 1000000 →
    ancepsref07_Star.l12 n (pre.length : Nat) c1 c2 d1 d2 (pre ++ suf) b0 b1 L S' e1 e2 e3 T E A = rsmallT L S' T (E ++ suf.map fun s => (s, ((-1 : Int), n))) A
  | [], pre, E, h, h2 => by rw [ancepsref07_Star.l12_eq, ifB_not _ _ (lt_end pre)]; simp only [List.map_nil, List.append_nil]; rfl
  | x :: suf, pre, E, h, h2 => by
    have hl : pre.length < 1000000 := by simp only [List.length_append] at h; omega
    simp only [List.length_cons] at h2
    rw [ancepsref07_Star.l12_eq, ifB_of _ _ (lt_at pre x suf), ixAt_at, bindD_some, grow_one _ (by omega), bindD_some, w_pre pre x (by omega), app_at pre x suf,
      rstar_l12 n c1 c2 d1 d2 b0 b1 S' e1 e2 e3 T A suf (pre ++ [x]) _ (by rw [← app_at]; exact h) (by simp; omega)]
    simp
theorem rstar_l8 (n : Int) (c1 c2 : Int) (d2 : List Ed) (b0 b1 S' : Int) (e1 : List Int) (e2 : List Ed) (e3 : List Int) (T A : List Int) (hA : Ac.length < 1000000) : ∀ (suf pre : List Int) (E : List Ed), (pre ++ suf).length < 1000000 → E.length + suf.length + Ac.length < 1000000 →
    ancepsref07_Star.l8 n (pre.length : Nat) c1 c2 (pre ++ suf) d2 Ac b0 b1 L S' e1 e2 e3 T E A = rsmallT L S' T (E ++ stE n suf Ac) A
  | [], pre, E, h, h2 => by
    have := rstar_l12 (L := L) n c1 c2 (pre ++ []) d2 b0 b1 S' e1 e2 e3 T A Ac [] E (by simpa using hA) (by simp only [List.length_nil] at h2; omega)
    rw [List.nil_append, List.length_nil, Int.ofNat_zero] at this
    rw [ancepsref07_Star.l8_eq, ifB_not _ _ (lt_end pre), this]; rfl
  | x :: suf, pre, E, h, h2 => by
    have hl : pre.length < 1000000 := by simp only [List.length_append] at h; omega
    simp only [List.length_cons] at h2
    rw [ancepsref07_Star.l8_eq, ifB_of _ _ (lt_at pre x suf), ixAt_at, bindD_some, grow_one _ (by omega), bindD_some, w_pre pre x (by omega), app_at pre x suf,
      rstar_l8 n c1 c2 d2 b0 b1 S' e1 e2 e3 T A hA suf (pre ++ [x]) _ (by rw [← app_at]; exact h) (by simp; omega)]
    simp [stE]
theorem star_nd (h : NV2 L S St E Ac) : (E ++ stE S St Ac).Nodup := by
  have h1 : Ac.Nodup := (asc_pw h.aa).1.imp fun h e => by omega
  have h2 : St.Nodup := (asc_pw h.sa).1.imp fun h e => by omega
  rw [List.nodup_append]
  refine ⟨h.nd, ?_, ?_⟩
  · unfold stE
    rw [List.nodup_append]
    refine ⟨?_, ?_, ?_⟩
    · rw [List.nodup_iff_pairwise_ne] at *
      exact List.pairwise_map.2 (h2.imp fun h e => by simp only [Prod.mk.injEq] at e; omega)
    · rw [List.nodup_iff_pairwise_ne] at *
      exact List.pairwise_map.2 (h1.imp fun h e => by simp only [Prod.mk.injEq] at e; omega)
    · intro a ha b hb e
      subst e
      obtain ⟨s, hs, rfl⟩ := List.mem_map.1 ha
      obtain ⟨t, ht, e⟩ := List.mem_map.1 hb
      have := h.ac t ht
      simp only [Prod.mk.injEq] at e
      omega
  · intro a ha b hb e
    subst e
    have h3 := h.ed a ha
    rcases mem_stE.1 hb with ⟨s, hs, rfl⟩ | ⟨s, hs, rfl⟩
    · simp only at h3; omega
    · simp only at h3; omega
theorem star_f (h1 : St.length < 1000000) (h2 : Ac.length < 1000000) :
    (nok L S St E Ac = false ∧ nondet_Star.f L S St E Ac = some (errV 1) ∧ ancepsref07_Star.f L S St E Ac = some (errV 1)) ∨
    (nok L S St E Ac = true ∧ (S = 400 ∨ 4000 < (E ++ stE S St Ac).length) ∧ nondet_Star.f L S St E Ac = some (errV 3) ∧ ancepsref07_Star.f L S St E Ac = some (errV 3)) ∨
    (nok L S St E Ac = true ∧ S < 400 ∧ ∃ r, Srt r (E ++ stE S St Ac) ∧ nok L (S + 1) [S] r [S] = true ∧
      nondet_Star.f L S St E Ac = some (L, (S + 1, ([S], (r, ([S], (0, ())))))) ∧ ancepsref07_Star.f L S St E Ac = some (L, (S + 1, ([S], (r, ([S], (0, ()))))))) := by
  rw [nondet_Star.f_eq, ancepsref07_Star.f_eq, nvalid_f _ _ _ _ _ h1 h2, rnvalid_f _ _ _ _ _ h1 h2, bindD_some, bindD_some]
  cases hv : nok L S St E Ac with
  | false => exact .inl ⟨rfl, rfl, rfl⟩
  | true =>
    right
    have h := nv2_of hv
    have a1 := h.stl; have a2 := h.s4; have a3 := h.acl; have a4 := h.e; have a0 := h.s0; have al := h.l1
    have hlen : (E ++ stE S St Ac).length = E.length + (St.length + Ac.length) := by simp [stE]
    obtain ⟨r, hr1, hr2⟩ := srt_f (l := E ++ stE S St Ac) (by omega)
    have hnd := star_nd h
    have hp := star_l7 (L := L) (Ac := Ac) S L S St E 0 0 (S + 1) [] [] [] [S] [S] (by omega) St [] E (by simp; omega) (by omega)
    have hq := rstar_l8 (L := L) (Ac := Ac) S L S E 0 0 (S + 1) [] [] [] [S] [S] (by omega) St [] E (by simp; omega) (by omega)
    rw [List.nil_append, List.length_nil, Int.ofNat_zero] at hp hq
    rw [ifB_not _ _ (by rfl), api_Edge.f_eq, grow_ok (by omega), bindD_some, bindD_some, w64 (n := S + 1) (by omega), ifB_not _ _ (by rfl), bindD_some]
    simp only
    rw [hp, hq, small_srt hr2 hnd (by omega)]
    unfold rsmallT
    rw [ancepsref07_large.f_eq]
    by_cases hs : S + 1 > 400
    · rw [if_pos (.inl hs), ifB_of _ _ (decide_eq_true hs)]
      exact .inl ⟨trivial, .inl (by omega), rfl, rfl⟩
    · by_cases he : (((E ++ stE S St Ac).length : Nat) : Int) > 4000
      · rw [if_pos (.inr he), ifB_not _ _ (decide_eq_false hs), decide_eq_true he]
        exact .inl ⟨trivial, .inr (by omega), rfl, rfl⟩
      · rw [if_neg (by simp only [not_or]; exact ⟨hs, he⟩), ifB_not _ _ (decide_eq_false hs), decide_eq_false he, bindD_some, ifB_false, hr1]
        refine .inr ⟨trivial, by omega, r, hr2, nok_of ⟨al, h.l8⟩ ⟨by omega, by omega⟩ (by rw [hr2.len hnd]; omega) ?_ ?_ hr2.asc (fun x hx => ?_), rfl, rfl⟩
        · simp [ascP]; omega
        · simp [ascP]; omega
        · rcases List.mem_append.1 ((hr2.mem x).1 hx) with hx | hx
          · have := h.ed x hx; omega
          · rcases mem_stE.1 hx with ⟨s, hs, rfl⟩ | ⟨s, hs, rfl⟩
            · have := h.st s hs; simp only; omega
            · have := h.ac s hs; simp only; omega
end

/-! the law of errors -/
end Go.Proofs.C07
