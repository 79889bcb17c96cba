/- Automata with choices: closures and steps, as both texts compute them. -/
import Derived.Test.YtmbloefhgkhoaaaP07b
set_option linter.unusedVariables false
set_option linter.unusedSimpArgs false
namespace Go.Proofs.C07
open Go Go.Proofs.R
open M (lt_at lt_end w_at app_at)
set_option linter.unusedVariables false
set_option linter.unusedSimpArgs false
set_option maxRecDepth 100000

section
variable {L : Int} {n : Nat} {St : List Int} {E : List Ed} {Ac : List Int}

theorem EdIn.two (hE : EdIn n E) : ∀ x ∈ E, (0 ≤ x.1 ∧ x.1 < (n : Int)) ∧ (0 ≤ x.2.2 ∧ x.2.2 < (n : Int)) := fun x hx => ⟨(hE x hx).1, (hE x hx).2.1⟩

/-! the walk with a list of states to do -/
structure Inv (n : Nat) (E : List Ed) (X : Int → Prop) (B : LB) (T : List Int) (Z : Ed → Prop) : Prop where
  len : B.length = n
  snd : ∀ s : Int, 0 ≤ s ∧ s < (n : Int) → bat B s = true → Rch E X s
  base : ∀ s, X s → bat B s = true
  todo : ∀ s ∈ T, (0 ≤ s ∧ s < (n : Int)) ∧ bat B s = true
  cl : ∀ x ∈ E, x.2.1 < 0 → bat B x.1 = true → x.1 ∈ T ∨ bat B x.2.2 = true ∨ Z x

theorem clo_l12 (hE : EdIn n E) {X : Int → Prop} {s : Int} (hs : 0 ≤ s ∧ s < (n : Int)) (hXs : Rch E X s) {m : Nat} (hm : m ≤ 3000000) : ∀ (suf pre : List Ed) (B : LB) (T : List Int),
    (pre ++ suf).length < 1000000 → (∀ x ∈ suf, x ∈ E ∧ x.1 = s) → Inv n E X B T (fun x => x ∈ suf) → falses B + T.length = m →
    ∃ B' T', nondet_graph_closure.l12 (pre ++ suf) ((pre ++ suf).length : Nat) (pre.length : Nat) L (n : Int) St E Ac (gr n E) B T = nondet_graph_closure.l8 L (n : Int) St E Ac (gr n E) B' T' ∧
      Inv n E X B' T' (fun _ => False) ∧ falses B' + T'.length = m
  | [], pre, B, T, h, hsu, hi, hf => by
    refine ⟨B, T, by rw [nondet_graph_closure.l12_eq, ifB_not _ _ (lt_end pre)], ⟨hi.len, hi.snd, hi.base, hi.todo, fun x h1 h2 h3 => ?_⟩, hf⟩
    rcases hi.cl x h1 h2 h3 with h | h | h
    · exact .inl h
    · exact .inr (.inl h)
    · cases h
  | x :: suf, pre, B, T, h, hsu, hi, hf => by
    have hpl : pre.length < 1000000 := by simp only [List.length_append] at h; omega
    obtain ⟨hxE, hxs⟩ := hsu x (by simp)
    have hx := hE x hxE
    have ih := fun B T => clo_l12 hE hs hXs hm suf (pre ++ [x]) B T (by rw [← app_at]; exact h) (fun y hy => hsu y (by simp [hy]))
    rw [nondet_graph_closure.l12_eq, ifB_of _ _ (lt_at pre x suf), ixAt_at, bindD_some, w_pre pre x (by omega), app_at pre x suf]
    have keep : (x.2.1 < 0 → bat B x.2.2 = true) → Inv n E X B T (fun y => y ∈ suf) := fun hk => ⟨hi.len, hi.snd, hi.base, hi.todo, fun y h1 h2 h3 => by
      rcases hi.cl y h1 h2 h3 with h | h | h
      · exact .inl h
      · exact .inr (.inl h)
      · rcases List.mem_cons.1 h with rfl | h
        · exact .inr (.inl (hk h2))
        · exact .inr (.inr h)⟩
    by_cases h1 : x.2.1 < 0
    · rw [ifB_of _ _ (decide_eq_true h1), ix_bat hi.len hx.2.1]
      simp only [bindD_some]
      cases hb : bat B x.2.2
      · simp only [Bool.not_false, ifB_true]
        have hTm : T.length ≤ m := by omega
        rw [grow_one _ (by omega), bindD_some]
        have hfs := falses_set hi.len hx.2.1 hb
        refine ih _ _ ⟨by rw [set_len]; exact hi.len, ?_, ?_, ?_, ?_⟩ (by simp only [List.length_append, List.length_singleton]; omega)
        · intro t ht hbt
          rw [bat_set hi.len hx.2.1 ht] at hbt
          by_cases hq : t = x.2.2
          · rw [hq]; exact .step hxE h1 (by rw [hxs]; exact hXs)
          · rw [if_neg hq] at hbt; exact hi.snd t ht hbt
        · intro t ht
          have h0 := hi.base t ht
          have htn : 0 ≤ t ∧ t < (n : Int) := by
            unfold bat at h0
            cases hq : ixAt B t with
            | none => rw [hq] at h0; cases h0
            | some v =>
              unfold ixAt at hq
              split at hq
              · rename_i hp
                have := (List.getElem?_eq_some_iff.1 hq).1
                rw [hi.len] at this; omega
              · cases hq
          rw [bat_set hi.len hx.2.1 htn]; split
          · rfl
          · exact h0
        · intro t ht
          rcases List.mem_append.1 ht with ht | ht
          · obtain ⟨h2, h3⟩ := hi.todo t ht
            refine ⟨h2, ?_⟩
            rw [bat_set hi.len hx.2.1 h2]; split
            · rfl
            · exact h3
          · have : t = x.2.2 := by simpa using ht
            subst this
            exact ⟨hx.2.1, by rw [bat_set hi.len hx.2.1 hx.2.1, if_pos rfl]⟩
        · intro y hy1 hy2 hy3
          have hyn := hE y hy1
          rw [bat_set hi.len hx.2.1 hyn.1] at hy3
          rw [bat_set hi.len hx.2.1 hyn.2.1]
          by_cases hq : y.1 = x.2.2
          · exact .inl (by rw [hq]; simp)
          · rw [if_neg hq] at hy3
            rcases hi.cl y hy1 hy2 hy3 with h | h | h
            · exact .inl (by simp [h])
            · right; left; split
              · rfl
              · exact h
            · rcases List.mem_cons.1 h with rfl | h
              · exact .inr (.inl (by rw [if_pos rfl]))
              · exact .inr (.inr h)
      · simp only [Bool.not_true, ifB_false]
        exact ih B T (keep fun _ => hb) hf
    · rw [ifB_not _ _ (decide_eq_false h1)]
      exact ih B T (keep fun h => absurd h h1) hf
theorem sub_last {l : List Int} {x : Int} (h : (l ++ [x]).length < 10000000) : subL (l ++ [x]) 0 (IntKind.i64.wrap ((((l ++ [x]).length : Nat) : Int) - 1)) = some l ∧ ixAt (l ++ [x]) (IntKind.i64.wrap ((((l ++ [x]).length : Nat) : Int) - 1)) = some x := by
  have hw : IntKind.i64.wrap ((((l ++ [x]).length : Nat) : Int) - 1) = (l.length : Int) := by
    rw [List.length_append, List.length_singleton] at h ⊢
    rw [w64 (by omega)]; omega
  rw [hw]
  refine ⟨?_, ixAt_at l x []⟩
  unfold subL
  rw [if_pos ⟨by omega, by omega, by simp only [List.length_append, List.length_singleton]; omega⟩]
  simp
theorem clo_l8 (hE : EdIn n E) (hl : E.length < 1000000) {X : Int → Prop} (hX : ∀ i, X i → 0 ≤ i ∧ i < (n : Int)) : ∀ (f : Nat) (B : LB) (T : List Int), Inv n E X B T (fun _ => False) → falses B + T.length < f → f ≤ 3000000 →
    nondet_graph_closure.l8 L (n : Int) St E Ac (gr n E) B T = some (clo n E X, ())
  | 0, B, T, _, h, _ => absurd h (Nat.not_lt_zero _)
  | f + 1, B, T, hi, hf, hf2 => by
    rw [nondet_graph_closure.l8_eq]
    rcases List.eq_nil_or_concat T with rfl | ⟨T0, s, rfl⟩
    · rw [ifB_not _ _ (by simp)]
      rw [clo_of hE.two hX hi.len hi.snd hi.base fun x h1 h2 h3 => ?_]
      rcases hi.cl x h1 h2 h3 with h | h | h
      · cases h
      · exact h
      · exact h.elim
    · rw [List.concat_eq_append] at hi hf ⊢
      have hTl : (T0 ++ [s]).length = T0.length + 1 := by simp
      obtain ⟨g1, g2⟩ := sub_last (l := T0) (x := s) (by omega)
      obtain ⟨hs, hbs⟩ := hi.todo s (by simp)
      rw [ifB_of _ _ (decide_eq_true (by omega)), g2, g1]
      simp only [bindD_some]
      rw [gr_ix hs, bindD_some]
      have hr : (E.filter fun x => x.1 == s).length ≤ E.length := List.length_filter_le _ _
      obtain ⟨B', T', h1, h2, h3⟩ := clo_l12 (L := L) (St := St) (Ac := Ac) hE hs (hi.snd s hs hbs) (m := falses B + T0.length) (by omega) (E.filter fun x => x.1 == s) [] B T0 (by rw [List.nil_append]; omega) (by
        intro x hx
        rw [List.mem_filter] at hx
        exact ⟨hx.1, by simpa using hx.2⟩) ⟨hi.len, hi.snd, hi.base, fun t ht => hi.todo t (by simp [ht]), fun x a b c => by
          rcases hi.cl x a b c with h | h | h
          · rcases List.mem_append.1 h with h | h
            · exact .inl h
            · refine .inr (.inr ?_)
              rw [List.mem_filter]; exact ⟨a, by simpa using h⟩
          · exact .inr (.inl h)
          · exact h.elim⟩ rfl
      rw [List.nil_append, List.length_nil, Int.ofNat_zero] at h1
      rw [h1]
      exact clo_l8 hE hl hX f B' T' h2 (by omega) (by omega)
theorem clo_l4 (T0 : List Int) : ∀ (suf pre : List Int), (pre ++ suf).length < 2500000 → pre ++ suf = T0 → (∀ s ∈ suf, 0 ≤ s ∧ s < (n : Int)) →
    nondet_graph_closure.l4 ((pre ++ suf).length : Nat) (pre.length : Nat) L (n : Int) St E Ac (gr n E) (flg n fun s => s ∈ pre) (pre ++ suf) = nondet_graph_closure.l8 L (n : Int) St E Ac (gr n E) (flg n fun s => s ∈ T0) T0
  | [], pre, h, hq, _ => by
    rw [nondet_graph_closure.l4_eq, ifB_not _ _ (lt_end pre), hq]
    rw [List.append_nil] at hq; rw [hq]
  | x :: suf, pre, h, hq, hs => by
    have hpl : pre.length < 2500000 := by simp only [List.length_append] at h; omega
    have hx := hs x (by simp)
    have ih := clo_l4 T0 suf (pre ++ [x]) (by rw [← app_at]; exact h) (by rw [← app_at]; exact hq) (fun s h => hs s (by simp [h]))
    rw [nondet_graph_closure.l4_eq, ifB_of _ _ (lt_at pre x suf), ixAt_at]
    simp only [bindD_some]
    rw [ix_bat (flg_len n _) hx]
    simp only [bindD_some]
    rw [w_pre pre x (by omega), flg_set hx, app_at pre x suf, ← ih]
    congr 1
    exact flg_congr fun s _ => by simp
theorem clone_f {l : List Int} (h : l.length ≤ 4294967296) : slices_Clone_int_int.f l = some (l, ()) := by rw [slices_Clone_int_int.f_eq, grow_ok h]; rfl
theorem closure_f (hn : n ≤ 400) (hE : EdIn n E) (hl : E.length < 1000000) {l : List Int} (hs : ∀ s ∈ l, 0 ≤ s ∧ s < (n : Int)) (hll : l.length < 2500000) :
    nondet_graph_closure.f L (n : Int) St E Ac (gr n E) l = some (clo n E (fun s => s ∈ l), ()) := by
  rw [nondet_graph_closure.f_eq, mkLen_ok (by omega), bindD_some, clone_f (by omega), bindD_some, flg_emp]
  have h1 := clo_l4 (L := L) (n := n) (St := St) (E := E) (Ac := Ac) l l [] (by rw [List.nil_append]; omega) rfl hs
  rw [List.nil_append, List.length_nil, Int.ofNat_zero] at h1
  have e : (flg n fun _ => False) = flg n fun s => s ∈ ([] : List Int) := flg_congr fun s _ => by simp
  rw [e]
  refine h1.trans (clo_l8 hE hl (X := fun s => s ∈ l) hs (n + l.length + 1) _ _ ⟨flg_len _ _, ?_, ?_, ?_, ?_⟩ ?_ (by omega))
  · intro s h hb; exact .base ((flg_bat h).1 hb)
  · intro s h; exact (flg_bat (hs s h)).2 h
  · intro s h; exact ⟨hs s h, (flg_bat (hs s h)).2 h⟩
  · intro x h1 h2 h3; exact .inl ((flg_bat (hE x h1).1).1 h3)
  · have := falses_le (flg n fun s => s ∈ l); rw [flg_len] at this; omega

/-! the reference's: passes over all edges -/
/-! a letter's step -/
def tgt (E : List Ed) (B : LB) (c : Int) (t : Int) : Prop := ∃ x ∈ E, x.2.1 = c ∧ bat B x.1 = true ∧ x.2.2 = t
noncomputable def nxB (n : Nat) (E : List Ed) (B : LB) (c : Int) : LB := clo n E (tgt E B c)
theorem nxB_len (B : LB) (c : Int) : (nxB n E B c).length = n := clo_len _ _ _
theorem step_l6 (c : Int) (a b : Int) (G : List (List Ed)) (st : List Int) (S : Int) : ∀ (suf pre : List Ed) (out : List Int), (pre ++ suf).length < 1000000 → out.length + suf.length < 4000000000 →
    nondet_graph_step.l6 c a b (pre ++ suf) ((pre ++ suf).length : Nat) (pre.length : Nat) L S St E Ac G out st =
      nondet_graph_step.l3 c a (IntKind.i64.wrap (b + 1)) L S St E Ac G (out ++ (suf.filter fun x => x.2.1 == c).map fun x => x.2.2) st
  | [], pre, out, h, _ => by rw [nondet_graph_step.l6_eq, ifB_not _ _ (lt_end pre)]; simp
  | x :: suf, pre, out, h, ho => by
    have hpl : pre.length < 1000000 := by simp only [List.length_append] at h; omega
    simp only [List.length_cons] at ho
    have ih := fun o ho => step_l6 c a b G st S suf (pre ++ [x]) o (by rw [← app_at]; exact h) ho
    rw [nondet_graph_step.l6_eq, ifB_of _ _ (lt_at pre x suf), ixAt_at, bindD_some, grow_one _ (by omega), bindD_some, w_pre pre x (by omega), app_at pre x suf]
    rw [ih (out ++ [_]) (by simp only [List.length_append, List.length_singleton]; omega), ih out (by omega)]
    cases hc : (x.2.1 == c)
    · simp [ifB, hc]
    · simp [ifB, hc]
theorem step_l3 (hn : n ≤ 400) (hE : EdIn n E) (hl : E.length ≤ 4000) (c : Int) : ∀ (suf pre : List Int) (out : List Int), (pre ++ suf).length ≤ 400 → (∀ s ∈ suf, 0 ≤ s ∧ s < (n : Int)) → out.length ≤ 4000 * pre.length →
    nondet_graph_step.l3 c ((pre ++ suf).length : Nat) (pre.length : Nat) L (n : Int) St E Ac (gr n E) out (pre ++ suf) =
      bindD (nondet_graph_closure.f L (n : Int) St E Ac (gr n E) (out ++ suf.flatMap fun s => ((E.filter fun x => x.1 == s).filter fun x => x.2.1 == c).map fun x => x.2.2)) fun t => some (t.1, ())
  | [], pre, out, h, _, _ => by rw [nondet_graph_step.l3_eq, ifB_not _ _ (lt_end pre)]; simp
  | s :: suf, pre, out, h, hs, ho => by
    have hpl : pre.length < 400 := by simp only [List.length_append, List.length_cons] at h; omega
    have hx := hs s (by simp)
    have hr : (E.filter fun x => x.1 == s).length ≤ E.length := List.length_filter_le _ _
    have hr2 : ((E.filter fun x => x.1 == s).filter fun x => x.2.1 == c).length ≤ (E.filter fun x => x.1 == s).length := List.length_filter_le _ _
    have h6 := step_l6 (L := L) (St := St) (E := E) (Ac := Ac) c (((pre ++ s :: suf).length : Nat) : Int) ((pre.length : Nat) : Int) (gr n E) (pre ++ s :: suf) (n : Int) (E.filter fun x => x.1 == s) [] out (by rw [List.nil_append]; omega) (by omega)
    rw [List.nil_append, List.length_nil, Int.ofNat_zero] at h6
    rw [nondet_graph_step.l3_eq, ifB_of _ _ (lt_at pre s suf), ixAt_at]
    simp only [bindD_some]
    rw [gr_ix hx, bindD_some, h6, w_pre pre s (by omega), app_at pre s suf]
    rw [step_l3 hn hE hl c suf (pre ++ [s]) _ (by rw [← app_at]; exact h) (fun t ht => hs t (by simp [ht])) (by
      simp only [List.length_append, List.length_singleton, List.length_map]; omega)]
    simp [List.append_assoc]
theorem flat_len {f : Int → List Int} {k : Nat} (h : ∀ s, (f s).length ≤ k) : ∀ l : List Int, (l.flatMap f).length ≤ k * l.length
  | [] => by simp
  | s :: l => by have := flat_len h l; have := h s; simp only [List.flatMap_cons, List.length_append, List.length_cons, Nat.mul_add]; omega
theorem step_f (hn : n ≤ 400) (hE : EdIn n E) (hl : E.length ≤ 4000) {B : LB} (hB : B.length = n) (c : Int) : nondet_graph_step.f L (n : Int) St E Ac (gr n E) B c = some (nxB n E B c, ()) := by
  have hml := mem_len B 0
  have hms : ∀ s ∈ memL B 0, 0 ≤ s ∧ s < (n : Int) := fun s h => ((mem_bat hB s).1 h).1
  have h3 := step_l3 (L := L) (St := St) (Ac := Ac) hn hE hl c (memL B 0) [] [] (by rw [List.nil_append]; omega) hms (by simp)
  rw [List.nil_append, List.length_nil, Int.ofNat_zero, List.nil_append] at h3
  rw [nondet_graph_step.f_eq, list_f (by omega), bindD_some]
  have hmem : ∀ t : Int, t ∈ ((memL B 0).flatMap fun s => ((E.filter fun x => x.1 == s).filter fun x => x.2.1 == c).map fun x => x.2.2) ↔ tgt E B c t := by
    intro t
    simp only [List.mem_flatMap, List.mem_map, List.mem_filter, beq_iff_eq]
    constructor
    · rintro ⟨s, h1, x, ⟨⟨h2, h3⟩, h4⟩, h5⟩
      exact ⟨x, h2, h4, by rw [h3]; exact ((mem_bat hB s).1 h1).2, h5⟩
    · rintro ⟨x, h2, h4, h6, h5⟩
      exact ⟨x.1, (mem_bat hB x.1).2 ⟨(hE x h2).1, h6⟩, x, ⟨⟨h2, rfl⟩, h4⟩, h5⟩
  have hfl := flat_len (f := fun s => ((E.filter fun x => x.1 == s).filter fun x => x.2.1 == c).map fun x => x.2.2) (k := 4000) (by
    intro s
    have h1 : (E.filter fun x => x.1 == s).length ≤ E.length := List.length_filter_le _ _
    have h2 : ((E.filter fun x => x.1 == s).filter fun x => x.2.1 == c).length ≤ (E.filter fun x => x.1 == s).length := List.length_filter_le _ _
    rw [List.length_map]; omega) (memL B 0)
  refine h3.trans ?_
  rw [closure_f hn hE (by omega) (by
    intro t ht
    obtain ⟨x, h1, _, _, rfl⟩ := (hmem t).1 ht
    exact (hE x h1).2.1) (by omega), bindD_some]
  unfold nxB
  rw [clo_congr hmem]

/-! the reference's -/
end
end Go.Proofs.C07
