/- Plain words for the chapter of differences: the reference's walk, words, what tells two automata apart. -/
import Derived.Test.YtpminieacndmhaaP28b
set_option linter.unusedVariables false
set_option linter.unusedSimpArgs false
namespace Go.Proofs.C28
open Go Go.Proofs.R
set_option linter.unusedVariables false
set_option linter.unusedSimpArgs false
set_option maxRecDepth 100000

theorem index_l2' (q : Pr) : ∀ (suf pre : List Pr), (pre ++ suf).length < 4611686018427387904 →
    ∃ k : Int, ancepsref28_index.l2 (pre ++ suf) (pre.length : Nat) q.1 q.2 = some (k, ()) ∧ ((k = -1 ∧ q ∉ suf) ∨ ∃ j : Nat, k = (j : Int) ∧ (pre ++ suf)[j]? = some q)
  | [], pre, h => by rw [ancepsref28_index.l2_eq, ifB_not _ _ (lt_end pre)]; exact ⟨-1, rfl, .inl ⟨rfl, by simp⟩⟩
  | x :: suf, pre, h => by
    rw [ancepsref28_index.l2_eq, ifB_of _ _ (lt_at pre x suf), ixAt_at, bindD_some]
    by_cases hx : x = q
    · subst hx
      exact ⟨(pre.length : Nat), by simp [ifB], .inr ⟨pre.length, rfl, by simp⟩⟩
    · obtain ⟨k, h1, h2⟩ := index_l2' q suf (pre ++ [x]) (by rw [← app_at]; exact h)
      have hb : ((x.1 == q.1) && (x.2 == q.2)) = false := by
        rw [Bool.eq_false_iff]
        intro hh
        simp only [Bool.and_eq_true, beq_iff_eq] at hh
        exact hx (Prod.ext hh.1 hh.2)
      refine ⟨k, ?_, ?_⟩
      · rw [ifB_not _ _ hb, w_at h, app_at pre x suf]; exact h1
      · rcases h2 with ⟨h3, h4⟩ | ⟨j, h3, h4⟩
        · exact .inl ⟨h3, by simp [h4, Ne.symm hx]⟩
        · exact .inr ⟨j, h3, by rw [app_at]; exact h4⟩
theorem index_f (ps : List Pr) (q : Pr) (h : ps.length < 4611686018427387904) : ∃ k : Int, ancepsref28_index.f ps q.1 q.2 = some (k, ()) ∧ ((k = -1 ∧ q ∉ ps) ∨ ∃ j : Nat, k = (j : Int) ∧ ps[j]? = some q) := by
  rw [ancepsref28_index.f_eq]
  exact index_l2' q ps [] (by simpa using h)

section
variable {L Sa Sb : Int} {Na Nb : LLI} {Aa Ab : LB} {p0 : Pr}

structure WRel (l : List Vis) (ws : LLI) : Prop where
  len : ws.length = l.length
  h0 : ws[0]? = some []
  tree : ∀ (j : Nat) (v : Vis), 0 < j → l[j]? = some v → ∃ wb : List Int, ws[v.2.1.toNat]? = some wb ∧ ws[j]? = some (wb ++ [v.2.2])
  short : ∀ (j : Nat) (w : List Int), ws[j]? = some w → w.length ≤ j

theorem WRel.put {l : List Vis} {ws : LLI} (h : WRel l ws) {i c : Nat} {wi : List Int} (hi : ws[i]? = some wi) (q : Pr) (hlen : wi.length < ws.length) : WRel (l ++ [(q, ((i : Int), (c : Int)))]) (ws ++ [wi ++ [(c : Int)]]) := by
  have hl := h.len
  have hil := (List.getElem?_eq_some_iff.1 hi).1
  refine ⟨by simp [hl], ?_, ?_, ?_⟩
  · rw [List.getElem?_append_left (by omega)]; exact h.h0
  · intro j v hj hv
    by_cases hjl : j < l.length
    · rw [List.getElem?_append_left hjl] at hv
      obtain ⟨wb, h1, h2⟩ := h.tree j v hj hv
      have := (List.getElem?_eq_some_iff.1 h1).1
      exact ⟨wb, by rw [List.getElem?_append_left this]; exact h1, by rw [List.getElem?_append_left (by omega)]; exact h2⟩
    · have hjl' : j = l.length := by
        have := (List.getElem?_eq_some_iff.1 hv).1
        simp only [List.length_append, List.length_cons, List.length_nil] at this
        omega
      subst hjl'
      rw [List.getElem?_append_right (Nat.le_refl _)] at hv
      simp only [Nat.sub_self, List.getElem?_cons_zero, Option.some.injEq] at hv
      subst hv
      refine ⟨wi, ?_, ?_⟩
      · simp only [Int.toNat_natCast]; rw [List.getElem?_append_left hil]; exact hi
      · rw [List.getElem?_append_right (by omega), hl]; simp
  · intro j w hw
    by_cases hjl : j < ws.length
    · rw [List.getElem?_append_left hjl] at hw
      exact h.short j w hw
    · have hjl' : j = ws.length := by
        have := (List.getElem?_eq_some_iff.1 hw).1
        simp only [List.length_append, List.length_cons, List.length_nil] at this
        omega
      subst hjl'
      rw [List.getElem?_append_right (Nat.le_refl _)] at hw
      simp only [Nat.sub_self, List.getElem?_cons_zero, Option.some.injEq] at hw
      subst hw
      simp; omega

theorem WRel.start (v : Vis) : WRel [v] [[]] := by
  refine ⟨rfl, rfl, ?_, ?_⟩
  · intro j v hj hv
    rw [List.getElem?_eq_none (by simp; omega)] at hv; cases hv
  · intro j w hw
    cases j with
    | zero => simp at hw; subst hw; simp
    | succ j => simp at hw

theorem reach_l9 (ha : V L Sa Na Aa) (hb : V L Sb Nb Ab) {i : Nat} {e1 : List Pr} {e2 : LLI} : ∀ (f c : Nat) {l : List Vis} {ws : LLI}, Inv eith L Na Nb p0 l → WRel l ws → i < l.length → (c : Int) + f = L →
    ∃ ws', WRel (rowV eith Na Nb i f c l) ws' ∧ ancepsref28_reach.l9 (i : Int) (c : Int) L Sa Na Aa L Sb Nb Ab e1 e2 (l.map (·.1)) ws = ancepsref28_reach.l6 (IntKind.i64.wrap ((i : Int) + 1)) L Sa Na Aa L Sb Nb Ab e1 e2 ((rowV eith Na Nb i f c l).map (·.1)) ws'
  | 0, c, l, ws, h, hm, hi, hc => by
    refine ⟨ws, hm, ?_⟩
    rw [ancepsref28_reach.l9_eq, ifB_not _ _ (decide_eq_false (by omega))]; rfl
  | f + 1, c, l, ws, h, hm, hi, hc => by
    have hc' : (c : Int) < L := by omega
    have hl8 := ha.l8
    have hv : l[i]? = some l[i] := List.getElem?_eq_getElem hi
    have hv' : (l.map (·.1))[i]? = some l[i].1 := by rw [List.getElem?_map, hv]; rfl
    have hU := h.u _ (List.getElem_mem hi)
    have hlen := inv_len ha hb h
    have hw : IntKind.i64.wrap ((c : Int) + 1) = ((c + 1 : Nat) : Int) := w64_succ (by omega)
    have h1 := one_inv ha hb h hi hc'
    have h2 := one_len (g := eith) (Na := Na) (Nb := Nb) i c l
    rw [ancepsref28_reach.l9_eq, ifB_of _ _ (decide_eq_true hc')]
    simp only [ixAt_nat, hv', bindD_some, next_f ha hU.1 hc', next_f hb hU.2 hc', hw]
    simp only [rowV]
    have hone : one eith Na Nb i c l = bif eith (nx Na Nb l[i].1 c) && !has l (nx Na Nb l[i].1 c) then l ++ [(nx Na Nb l[i].1 c, ((i : Int), (c : Int)))] else l := by
      unfold one; rw [hv]
    obtain ⟨k, hk1, hk2⟩ := index_f (l.map (·.1)) (nx Na Nb l[i].1 c) (by simp; omega)
    have hk1 : ancepsref28_index.f (l.map (·.1)) (stp Na l[i].1.1 c) (stp Nb l[i].1.2 c) = some (k, ()) := hk1
    have hkh : decide (k ≥ 0) = has l (nx Na Nb l[i].1 c) := by
      rcases hk2 with ⟨rfl, h3⟩ | ⟨j, rfl, h3⟩
      · cases hh : has l (nx Na Nb l[i].1 c) with
        | true => exact (h3 (has_iff.1 hh)).elim
        | false => rfl
      · have : has l (nx Na Nb l[i].1 c) = true := has_iff.2 (List.mem_of_getElem? h3)
        rw [this]; exact decide_eq_true (by omega)
    obtain ⟨wi, hwi⟩ : ∃ wi, ws[i]? = some wi := ⟨_, List.getElem?_eq_getElem (by rw [hm.len]; exact hi)⟩
    have hwl := hm.short i wi hwi
    have hml := hm.len
    -- what comes when the pair is looked for
    have look : eith (nx Na Nb l[i].1 c) = true → ∃ ws', WRel (rowV eith Na Nb i f (c + 1) (one eith Na Nb i c l)) ws' ∧
        (bindD (ancepsref28_index.f (l.map (·.1)) (stp Na l[i].1.1 c) (stp Nb l[i].1.2 c)) fun t215 =>
          ifB (decide (t215.1 ≥ (0 : Int))) (ancepsref28_reach.l9 (i : Int) ((c + 1 : Nat) : Int) L Sa Na Aa L Sb Nb Ab e1 e2 (l.map (·.1)) ws)
          (bindD (grow ((List.length (l.map (·.1))) + (List.length ((stp Na l[i].1.1 c, stp Nb l[i].1.2 c) :: ([] : (List (Int × Int))))))) fun t216 =>
           bindD ws[i]? fun t217 =>
           bindD ws[i]? fun t218 =>
           bindD (grow ((List.length ([] : (List Int))) + (List.length t218))) fun t219 =>
           bindD (grow ((List.length (([] : (List Int)) ++ t218)) + (List.length ((c : Int) :: ([] : (List Int)))))) fun t220 =>
           bindD (grow ((List.length ws) + (List.length (((([] : (List Int)) ++ t218) ++ ((c : Int) :: ([] : (List Int)))) :: ([] : (List (List Int))))))) fun t221 =>
           ancepsref28_reach.l9 (i : Int) ((c + 1 : Nat) : Int) L Sa Na Aa L Sb Nb Ab e1 e2 ((l.map (·.1)) ++ ((stp Na l[i].1.1 c, stp Nb l[i].1.2 c) :: ([] : (List (Int × Int))))) (ws ++ (((([] : (List Int)) ++ t218) ++ ((c : Int) :: ([] : (List Int)))) :: ([] : (List (List Int)))))))
        = ancepsref28_reach.l6 (IntKind.i64.wrap ((i : Int) + 1)) L Sa Na Aa L Sb Nb Ab e1 e2 ((rowV eith Na Nb i f (c + 1) (one eith Na Nb i c l)).map (·.1)) ws' := by
      intro hg
      rw [hk1, bindD_some, hkh]
      cases hh : has l (nx Na Nb l[i].1 c) with
      | true =>
        rw [hg, hh] at hone; simp only [Bool.not_true, Bool.and_false, cond_false] at hone
        rw [ifB_true, hone]
        exact reach_l9 ha hb f (c + 1) h hm hi (by omega)
      | false =>
        rw [hg, hh] at hone; simp only [Bool.not_false, Bool.and_true, cond_true] at hone
        rw [ifB_false, grow_ok (by simp only [List.length_cons, List.length_nil, List.length_map]; omega), bindD_some, hwi, bindD_some, bindD_some,
          grow_ok (by simp only [List.length_nil]; omega), bindD_some, grow_ok (by simp only [List.length_cons, List.length_nil, List.nil_append]; omega), bindD_some,
          grow_ok (by simp only [List.length_cons, List.length_nil]; omega), bindD_some, hone]
        rw [hone] at h1 h2
        have hput := hm.put (c := c) hwi (nx Na Nb l[i].1 c) (show wi.length < ws.length by omega)
        have := reach_l9 ha hb (i := i) (e1 := e1) (e2 := e2) f (c + 1) (l := l ++ [(nx Na Nb l[i].1 c, ((i : Int), (c : Int)))]) h1 hput (by simp; omega) (by omega)
        simp only [List.map_append, List.map_cons, List.map_nil] at this
        exact this
    have hge : eith (nx Na Nb l[i].1 c) = (decide (stp Na l[i].1.1 c ≥ 0) || decide (stp Nb l[i].1.2 c ≥ 0)) := rfl
    by_cases hA : stp Na l[i].1.1 c < 0
    · rw [ifB_of _ _ (decide_eq_true hA)]
      by_cases hB : stp Nb l[i].1.2 c < 0
      · have hg : eith (nx Na Nb l[i].1 c) = false := by rw [hge, decide_eq_false (by omega), decide_eq_false (by omega)]; rfl
        rw [hg] at hone; simp only [Bool.false_and, cond_false] at hone
        rw [ifB_of _ _ (decide_eq_true hB), hone]
        exact reach_l9 ha hb f (c + 1) h hm hi (by omega)
      · rw [ifB_not _ _ (decide_eq_false hB)]
        exact look (by rw [hge, decide_eq_true (show stp Nb l[i].1.2 c ≥ 0 by omega), Bool.or_true])
    · rw [ifB_not _ _ (decide_eq_false hA)]
      exact look (by rw [hge, decide_eq_true (show stp Na l[i].1.1 c ≥ 0 by omega), Bool.true_or])

theorem reach_l6 (ha : V L Sa Na Aa) (hb : V L Sb Nb Ab) {e1 : List Pr} {e2 : LLI} : ∀ (f i : Nat) {l : List Vis} {ws : LLI}, Inv eith L Na Nb p0 l → WRel l ws → 160801 ≤ i + f →
    ∃ ws', WRel (bfs eith L Na Nb f i l) ws' ∧ ancepsref28_reach.l6 (i : Int) L Sa Na Aa L Sb Nb Ab e1 e2 (l.map (·.1)) ws = some ((bfs eith L Na Nb f i l).map (·.1), (ws', ()))
  | 0, i, l, ws, h, hm, hf => by
    have hlen := inv_len ha hb h
    refine ⟨ws, hm, ?_⟩
    rw [ancepsref28_reach.l6_eq, ifB_not _ _ (decide_eq_false (by simp; omega))]; rfl
  | f + 1, i, l, ws, h, hm, hf => by
    have hlen := inv_len ha hb h
    have hL := ha.l1
    simp only [bfs]
    split
    · rename_i hi
      rw [ancepsref28_reach.l6_eq, ifB_of _ _ (decide_eq_true (by simp; omega))]
      obtain ⟨ws', h1, h2⟩ := reach_l9 ha hb (e1 := e1) (e2 := e2) L.toNat 0 h hm hi (by omega)
      rw [show ((0 : Nat) : Int) = 0 from rfl] at h2
      rw [h2, w64_succ (by omega)]
      exact reach_l6 ha hb f (i + 1) (rowV_inv ha hb L.toNat 0 h hi (by omega)) h1 (by omega)
    · rename_i hi
      refine ⟨ws, hm, ?_⟩
      rw [ancepsref28_reach.l6_eq, ifB_not _ _ (decide_eq_false (by simp; omega))]

/-- the words of the walk; of none, if there is no pair -/
def WRel' (l : List Vis) (ws : LLI) : Prop := WRel l ws ∨ (l = [] ∧ ws = [])
theorem reach_f (ha : V L Sa Na Aa) (hb : V L Sb Nb Ab) : ∃ ws, WRel' (sideE L Sa Na Sb Nb) ws ∧ ancepsref28_reach.f L Sa Na Aa L Sb Nb Ab = some ((sideE L Sa Na Sb Nb).map (·.1), (ws, ())) := by
  have go : eith (Sa, Sb) = true → ∃ ws, WRel (sideE L Sa Na Sb Nb) ws ∧ ancepsref28_reach.l6 (0 : Int) L Sa Na Aa L Sb Nb Ab ([] : (List (Int × Int))) ([] : (List (List Int))) ((Sa, Sb) :: ([] : (List (Int × Int)))) (([] : (List Int)) :: ([] : (List (List Int)))) = some ((sideE L Sa Na Sb Nb).map (·.1), (ws, ())) := by
    intro hg
    obtain ⟨ws, h1, h2⟩ := reach_l6 ha hb (e1 := []) (e2 := []) 160801 0 (start_inv ha hb hg) (WRel.start ((Sa, Sb), (-1, -1))) (by omega)
    unfold sideE
    rw [hg]
    exact ⟨ws, h1, h2⟩
  have hge : eith (Sa, Sb) = (decide (Sa ≥ 0) || decide (Sb ≥ 0)) := rfl
  rw [ancepsref28_reach.f_eq]
  by_cases hA : Sa < 0
  · rw [ifB_of _ _ (decide_eq_true hA)]
    by_cases hB : Sb < 0
    · rw [ifB_of _ _ (decide_eq_true hB)]
      have hg : eith (Sa, Sb) = false := by rw [hge, decide_eq_false (by omega), decide_eq_false (by omega)]; rfl
      refine ⟨[], .inr ⟨?_, rfl⟩, ?_⟩ <;> (unfold sideE; rw [hg]; rfl)
    · rw [ifB_not _ _ (decide_eq_false hB)]
      obtain ⟨ws, h1, h2⟩ := go (by rw [hge, decide_eq_true (show Sb ≥ 0 by omega), Bool.or_true])
      exact ⟨ws, .inl h1, h2⟩
  · rw [ifB_not _ _ (decide_eq_false hA)]
    obtain ⟨ws, h1, h2⟩ := go (by rw [hge, decide_eq_true (show Sa ≥ 0 by omega), Bool.true_or])
    exact ⟨ws, .inl h1, h2⟩

/-! ### looks at the pairs -/
theorem sideE_U (ha : V L Sa Na Aa) (hb : V L Sb Nb Ab) : (∀ v ∈ sideE L Sa Na Sb Nb, inU Na Nb v.1) ∧ (sideE L Sa Na Sb Nb).length ≤ 160801 := by
  cases hg : eith (Sa, Sb) with
  | true => obtain ⟨h, _⟩ := sideE_facts ha hb hg; exact ⟨h.u, inv_len ha hb h⟩
  | false => unfold sideE; rw [hg]; simp
theorem sideL_U (ha : V L Sa Na Aa) (hb : V L Sb Nb Ab) : (∀ v ∈ sideL L Sa Na Sb Nb, inU Na Nb v.1) ∧ (sideL L Sa Na Sb Nb).length ≤ 160801 := by
  cases hg : lft (Sa, Sb) with
  | true => obtain ⟨h, _⟩ := sideL_facts ha hb hg; exact ⟨h.u, inv_len ha hb h⟩
  | false => unfold sideL; rw [hg]; simp

def bW (Aa Ab : LB) (p : Pr) : Bool := acc Aa p.1 && !acc Ab p.2
theorem acc_nn {A : LB} {s : Int} (h : acc A s = true) : 0 ≤ s := by
  unfold acc at h
  split at h
  · assumption
  · cases h
theorem any_iff {l : List Vis} {b : Pr → Bool} {G : Pr → Bool} (hl : ∀ p, has l p = true ↔ G p = true ∧ ∃ w, Wd L w ∧ runP Na Nb (Sa, Sb) w = p) (hb : ∀ p, b p = true → G p = true) :
    (l.any fun v => b v.1) = true ↔ ∃ w, Wd L w ∧ b (runP Na Nb (Sa, Sb) w) = true := by
  simp only [List.any_eq_true]
  constructor
  · rintro ⟨v, hv, hbv⟩
    obtain ⟨_, w, h1, h2⟩ := (hl v.1).1 (has_iff.2 (List.mem_map.2 ⟨v, hv, rfl⟩))
    exact ⟨w, h1, by rw [h2]; exact hbv⟩
  · rintro ⟨w, h1, h2⟩
    have := has_iff.1 ((hl _).2 ⟨hb _ h2, w, h1, rfl⟩)
    obtain ⟨v, hv, e⟩ := List.mem_map.1 this
    exact ⟨v, hv, by rw [e]; exact h2⟩
theorem any_same (ha : V L Sa Na Aa) (hb : V L Sb Nb Ab) (b : Pr → Bool) (hbb : ∀ p, b p = true → 0 ≤ p.1) : ((sideL L Sa Na Sb Nb).any fun v => b v.1) = (sideE L Sa Na Sb Nb).any fun v => b v.1 := by
  rw [Bool.eq_iff_iff, any_iff (sideL_iff ha hb) (fun p h => decide_eq_true (hbb p h)), any_iff (sideE_iff ha hb) (fun p h => by unfold eith; rw [decide_eq_true (show p.1 ≥ 0 from hbb p h)]; rfl)]
theorem bW_nn (p : Pr) (h : bW Aa Ab p = true) : 0 ≤ p.1 := by
  unfold bW at h; simp only [Bool.and_eq_true] at h; exact acc_nn h.1
theorem wone_f (ha : V L Sa Na Aa) (hb : V L Sb Nb Ab) {v : Vis} (h : inU Na Nb v.1) : difference_within_1.f v.1.1 v.1.2 v.2.1 v.2.2 L Sa Na Aa L Sb Nb Ab = some (bW Aa Ab v.1, ()) := by
  have h1 := ha.a; have h2 := hb.a
  rw [difference_within_1.f_eq, acc_f (by have := h.1.2; omega), acc_f (by have := h.2.2; omega)]
  unfold bW
  simp only [bindD_some]
  cases acc Aa v.1.1 <;> rfl
theorem visW_l2 (ha : V L Sa Na Aa) (hb : V L Sb Nb Ab) : ∀ (suf pre : List Vis), (pre ++ suf).length < 4611686018427387904 → (∀ v ∈ suf, inU Na Nb v.1) →
    ∃ i : Int, difference_visit_70.l2_1 (pre ++ suf) L Sa Na Aa L Sb Nb Ab ((pre ++ suf).length : Nat) (pre.length : Nat) = some (i, ()) ∧ decide (i ≥ 0) = suf.any fun v => bW Aa Ab v.1
  | [], pre, h, hu => by rw [difference_visit_70.l2_1_eq, ifB_not _ _ (lt_end pre)]; exact ⟨-1, rfl, rfl⟩
  | x :: suf, pre, h, hu => by
    rw [difference_visit_70.l2_1_eq, ifB_of _ _ (lt_at pre x suf), ixAt_at, bindD_some, wone_f ha hb (hu x (by simp)), bindD_some]
    cases hb' : bW Aa Ab x.1 with
    | true => exact ⟨_, rfl, by simp [hb']⟩
    | false =>
      obtain ⟨i, h1, h2⟩ := visW_l2 ha hb suf (pre ++ [x]) (by rw [← app_at]; exact h) (fun v hv => hu v (by simp [hv]))
      refine ⟨i, ?_, by simp [hb', h2]⟩
      rw [w_at h, app_at pre x suf]; exact h1
def withinB (L Sa : Int) (Na : LLI) (Aa : LB) (Sb : Int) (Nb : LLI) (Ab : LB) : Bool := !((sideE L Sa Na Sb Nb).any fun v => bW Aa Ab v.1)
theorem within_f (ha : V L Sa Na Aa) (hb : V L Sb Nb Ab) : difference_within.f L Sa Na Aa L Sb Nb Ab = some (withinB L Sa Na Aa Sb Nb Ab, ()) := by
  obtain ⟨h1, h2⟩ := sideL_U ha hb
  obtain ⟨i, h3, h4⟩ := visW_l2 ha hb (sideL L Sa Na Sb Nb) [] (by simp; omega) h1
  simp only [List.nil_append, List.length_nil] at h3
  rw [show ((0 : Nat) : Int) = 0 from rfl] at h3
  rw [difference_within.f_eq, side_f ha hb, bindD_some, difference_visit.f1_eq, difference_visit_70.f1_eq, h3]
  simp only [bindD_some, h4]
  rw [any_same ha hb _ bW_nn]; rfl
theorem rwithin_l3 (ha : V L Sa Na Aa) (hb : V L Sb Nb Ab) : ∀ (suf pre : List Pr), (pre ++ suf).length < 4611686018427387904 → (∀ p ∈ suf, inU Na Nb p) →
    ancepsref28_within.l3 (pre ++ suf) (pre.length : Nat) L Sa Na Aa L Sb Nb Ab = some (!(suf.any (bW Aa Ab)), ())
  | [], pre, h, hu => by rw [ancepsref28_within.l3_eq, ifB_not _ _ (lt_end pre)]; rfl
  | x :: suf, pre, h, hu => by
    have h1 := ha.a; have h2 := hb.a
    have hx := hu x (by simp)
    rw [ancepsref28_within.l3_eq, ifB_of _ _ (lt_at pre x suf)]
    simp only [ixAt_at, bindD_some]
    rw [racc_f (by have := hx.1.2; omega), racc_f (by have := hx.2.2; omega), w_at h]
    have hi := rwithin_l3 ha hb suf (pre ++ [x]) (by rw [← app_at]; exact h) (fun v hv => hu v (by simp [hv]))
    rw [← app_at] at hi
    rw [hi]
    simp only [bindD_some, List.any_cons, bW]
    cases acc Aa x.1 <;> cases acc Ab x.2 <;> rfl
theorem rwithin_f (ha : V L Sa Na Aa) (hb : V L Sb Nb Ab) : ancepsref28_within.f L Sa Na Aa L Sb Nb Ab = some (withinB L Sa Na Aa Sb Nb Ab, ()) := by
  obtain ⟨ws, _, h2⟩ := reach_f ha hb
  obtain ⟨h3, h4⟩ := sideE_U ha hb
  have := rwithin_l3 ha hb ((sideE L Sa Na Sb Nb).map (·.1)) [] (by simp; omega) (by intro p hp; obtain ⟨v, hv, rfl⟩ := List.mem_map.1 hp; exact h3 v hv)
  simp only [List.nil_append, List.length_nil] at this
  rw [show ((0 : Nat) : Int) = 0 from rfl] at this
  rw [ancepsref28_within.f_eq, h2, bindD_some, this]
  unfold withinB
  rw [List.any_map]; rfl
end
end Go.Proofs.C28
