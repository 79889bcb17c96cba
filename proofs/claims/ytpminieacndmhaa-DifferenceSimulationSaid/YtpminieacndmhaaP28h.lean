/- Plain words for the chapter of differences: Compare is the reference's; the example; the laws of Same, Tells, Compare. -/
import Derived.Test.YtpminieacndmhaaP28g
set_option linter.unusedVariables false
set_option linter.unusedSimpArgs false
namespace Go.Proofs.C28
open Go Go.Proofs.R
set_option linter.unusedVariables false
set_option linter.unusedSimpArgs false
set_option maxRecDepth 100000

section
variable {L Sa Sb : Int} {Na Nb : LLI} {Aa Ab : LB}

theorem errP_V {L S : Int} {N : LLI} {A : LB} {L' S' : Int} {N' : LLI} {A' : LB} (h : errP L S N A L' S' N' A' = true) : ok L S N A = true ∧ ok L' S' N' A' = true ∧ V L S N A ∧ V L' S' N' A' ∧ L' = L := by
  unfold errP at h
  simp only [Bool.and_eq_true, beq_iff_eq] at h
  exact ⟨h.1, h.2.1, V_of h.1, V_of h.2.1, h.2.2.symm⟩

theorem pairs_good (ha : V L Sa Na Aa) (hb : V L Sb Nb Ab) : Good2 L Na Nb ((sideE L Sa Na Sb Nb).map (·.1)) ∧ (eith (Sa, Sb) = true → ∃ r, (sideE L Sa Na Sb Nb).map (·.1) = (Sa, Sb) :: r) ∧ (eith (Sa, Sb) = false → (sideE L Sa Na Sb Nb).map (·.1) = []) := by
  cases hg : eith (Sa, Sb) with
  | false =>
    have : sideE L Sa Na Sb Nb = [] := by unfold sideE; rw [hg]; rfl
    rw [this]
    exact ⟨⟨by simp, by simp, by simp, by simp, by simp⟩, (fun h => by cases h), fun _ => rfl⟩
  | true =>
    obtain ⟨hI, hD⟩ := sideE_facts ha hb hg
    refine ⟨⟨hI.nd, ?_, ?_, ?_, by simpa using inv_len ha hb hI⟩, fun _ => ?_, (fun h => by cases h)⟩
    · intro p hp
      obtain ⟨v, hv, rfl⟩ := List.mem_map.1 hp
      exact hI.u v hv
    · intro p hp c hc he
      obtain ⟨v, hv, rfl⟩ := List.mem_map.1 hp
      obtain ⟨j, hj⟩ := List.mem_iff_getElem?.1 hv
      exact has_iff.1 (hD j v (List.getElem?_eq_some_iff.1 hj).1 hj c hc he)
    · intro p hp
      obtain ⟨v, hv, rfl⟩ := List.mem_map.1 hp
      exact hI.g v hv
    · have h0 := hI.h0
      cases hs : sideE L Sa Na Sb Nb with
      | nil => rw [hs] at h0; cases h0
      | cons v r =>
        rw [hs] at h0
        simp only [List.getElem?_cons_zero, Option.some.injEq] at h0
        subst h0
        exact ⟨_, rfl⟩

theorem compare_same (L Sa : Int) (Na : LLI) (Aa : LB) (L' Sb : Int) (Nb : LLI) (Ab : LB) (most : Int) :
    ∃ (x y z : Bool) (w : List Int) (s l r : List Int) (e : Int), w.length ≤ 160801 ∧ s.length ≤ 30 ∧ l.length ≤ 30 ∧ r.length ≤ 30 ∧
      difference_Compare.f L Sa Na Aa L' Sb Nb Ab most = some (x, (y, (z, (w, (s, (l, (r, (e, ()))))))) ) ∧
      ancepsref28_Compare.f L Sa Na Aa L' Sb Nb Ab most = some (x, (y, (z, (w, (s, (l, (r, (e, ()))))))) ) := by
  rw [difference_Compare.f_eq, ancepsref28_Compare.f_eq, dvalid_f, rvalid_f, bindD_some, bindD_some]
  cases hv : errP L Sa Na Aa L' Sb Nb Ab with
  | false => exact ⟨false, false, false, [], [], [], [], 1, by simp, by simp, by simp, by simp, rfl, rfl⟩
  | true =>
    obtain ⟨_, _, ha, hb, rfl⟩ := errP_V hv
    have h1 : (((errN true, ()) : Int × Unit).1 != (0 : Int)) = false := rfl
    rw [ifB_not _ _ h1, ifB_not _ _ h1]
    by_cases hm0 : most < 0
    · rw [ifB_of _ _ (decide_eq_true hm0), ifB_of _ _ (decide_eq_true hm0)]
      exact ⟨_, _, _, _, _, _, _, _, by simp, by simp, by simp, by simp, rfl, rfl⟩
    by_cases hm1 : most > 20
    · rw [ifB_not _ _ (decide_eq_false hm0), ifB_not _ _ (decide_eq_false hm0), ifB_of _ _ (decide_eq_true hm1), ifB_of _ _ (decide_eq_true hm1)]
      exact ⟨_, _, _, _, _, _, _, _, by simp, by simp, by simp, by simp, rfl, rfl⟩
    rw [ifB_not _ _ (decide_eq_false hm0), ifB_not _ _ (decide_eq_false hm0), ifB_not _ _ (decide_eq_false hm1), ifB_not _ _ (decide_eq_false hm1)]
    obtain ⟨m, rfl⟩ : ∃ m : Nat, most = m := ⟨most.toNat, by omega⟩
    obtain ⟨w, n, t1, t2, t3⟩ := tell_f ha hb
    obtain ⟨ws, _, hr⟩ := reach_f ha hb
    obtain ⟨hG, hg1, hg2⟩ := pairs_good ha hb
    have hwl : w.length ≤ 160801 := by
      rcases t3 with ⟨_, rfl, _⟩ | ⟨u, rfl, _, hu, _⟩
      · simp
      · simpa using hu
    have h0 : eith (Sa, Sb) = true → (Sa, Sb) ∈ (sideE L' Sa Na Sb Nb).map (·.1) := fun h => by obtain ⟨r, hr⟩ := hg1 h; rw [hr]; simp
    have hlen := hG.len
    have hmk : mkLen ((((sideE L' Sa Na Sb Nb).map (·.1)).length : Nat) : Int) ((((sideE L' Sa Na Sb Nb).map (·.1)).length : Nat) : Int) = some ((sideE L' Sa Na Sb Nb).map (·.1)).length := by
      unfold mkLen mostLen
      rw [if_pos (by omega)]; simp
    rw [t1, bindD_some, within_f ha hb, bindD_some, within_f hb ha, bindD_some, either_f, bindD_some]
    rw [t2, bindD_some, rwithin_f ha hb, bindD_some, rwithin_f hb ha, bindD_some, hr, bindD_some, hmk, bindD_some, w64_succ (by omega)]
    have hrow : ∀ h : Nat → Int, (row h 0 (m + 1)).length ≤ 30 := fun h => by unfold row; simp; omega
    refine ⟨n == 0, withinB L' Sa Na Aa Sb Nb Ab, withinB L' Sb Nb Ab Sa Na Aa, w, row (nS L' Na Nb Aa Ab ((sideE L' Sa Na Sb Nb).map (·.1)) (Sa, Sb)) 0 (m + 1), row (nA L' Na Nb Aa Ab ((sideE L' Sa Na Sb Nb).map (·.1)) (Sa, Sb)) 0 (m + 1), row (nB L' Na Nb Aa Ab ((sideE L' Sa Na Sb Nb).map (·.1)) (Sa, Sb)) 0 (m + 1), 0, hwl, hrow _, hrow _, hrow _, ?_, ?_⟩
    · have go : ∀ M : List (Pr × Int), Rep ((sideE L' Sa Na Sb Nb).map (·.1)) M (fun q => IntKind.i64.wrap (cnt L' Na Nb ((sideE L' Sa Na Sb Nb).map (·.1)) (Sa, Sb) 0 q)) → _ := fun M hM =>
        cmp_l13 ha hb hG h0 (x1 := false) (x2 := false) (x3 := false) (x4 := (n == 0)) (x5 := withinB L' Sa Na Aa Sb Nb Ab) (x6 := withinB L' Sb Nb Ab Sa Na Aa) (y1 := []) (y2 := []) (y3 := []) (y4 := []) (y5 := w) (m + 1) 0 M [] [] [] (by omega) (by simp) (by simp) (by simp) hM
      simp only [Nat.zero_add] at go
      rw [show ((0 : Nat) : Int) = 0 from rfl] at go
      have hw1 : IntKind.i64.wrap 1 = 1 := by decide
      have hw0 : IntKind.i64.wrap 0 = 0 := by decide
      cases he : eith (Sa, Sb) with
      | true =>
        rw [ifB_true]
        refine go _ ?_
        refine ((Rep.nil (R := (sideE L' Sa Na Sb Nb).map (·.1))).put (h0 he) 1).congr fun q => ?_
        simp only [cnt, he, and_true]
        by_cases e : q = (Sa, Sb)
        · rw [if_pos e, hw1]
        · rw [if_neg e, hw0]
      | false =>
        rw [ifB_false]
        refine go _ ?_
        refine Rep.nil.congr fun q => ?_
        simp only [cnt, he]
        rw [if_neg (by rintro ⟨_, h⟩; cases h), hw0]
    · have go := ref_l13 ha hb hG h0 (x1 := false) (x2 := false) (x3 := false) (x4 := (n == 0)) (x5 := withinB L' Sa Na Aa Sb Nb Ab) (x6 := withinB L' Sb Nb Ab Sa Na Aa) (te := w) (y1 := []) (y2 := []) (y3 := []) (y4 := []) (m + 1) 0 m [] [] [] (by omega) (by omega) (by simp) (by simp) (by simp)
      rw [show ((0 : Nat) : Int) = 0 from rfl] at go
      have hw1 : IntKind.i64.wrap 1 = 1 := by decide
      have hw0 : IntKind.i64.wrap 0 = 0 := by decide
      cases he : eith (Sa, Sb) with
      | true =>
        obtain ⟨rr, hrr⟩ := hg1 he
        have hnow : setRow (List.replicate ((sideE L' Sa Na Sb Nb).map (·.1)).length (0 : Int)) (0 : Int) (1 : Int) = ((sideE L' Sa Na Sb Nb).map (·.1)).map fun q => IntKind.i64.wrap (cnt L' Na Nb ((sideE L' Sa Na Sb Nb).map (·.1)) (Sa, Sb) 0 q) := by
          unfold setRow
          have : List.replicate ((sideE L' Sa Na Sb Nb).map (·.1)).length (0 : Int) = ((sideE L' Sa Na Sb Nb).map (·.1)).map fun q => (0 : Int) := (List.map_const' ..).symm
          rw [this]
          rw [set_map hG.nd (q := (Sa, Sb)) (by rw [hrr]; rfl)]
          apply List.map_congr_left
          intro q _
          simp only [cnt, he, and_true]
          by_cases e : q = (Sa, Sb)
          · rw [if_pos e, hw1]
          · rw [if_neg e, hw0]
        have hpos : 0 < ((sideE L' Sa Na Sb Nb).map (·.1)).length := by rw [hrr]; simp
        have hix : ixAt (List.replicate ((sideE L' Sa Na Sb Nb).map (·.1)).length (0 : Int)) (0 : Int) = some 0 := by
          rw [show (0 : Int) = ((0 : Nat) : Int) from rfl, ixAt_nat]
          simp only [List.getElem?_replicate, hpos, if_true]
        rw [ifB_of _ _ (decide_eq_true (show ((((sideE L' Sa Na Sb Nb).map (·.1)).length : Nat) : Int) > (0 : Int) by omega)), hix, bindD_some, bindD_some, hnow]
        exact go
      | false =>
        have hnil := hg2 he
        rw [ifB_not _ _ (decide_eq_false (show ¬ ((((sideE L' Sa Na Sb Nb).map (·.1)).length : Nat) : Int) > (0 : Int) by rw [hnil]; simp))]
        rw [hnil] at go ⊢
        exact go

/-! ### lists that are one -/
theorem eq_l4 : ∀ (suf pre : List Int), (pre ++ suf).length < 4611686018427387904 → slices_Equal_int_int.l4 (pre ++ suf) (pre ++ suf) ((pre ++ suf).length : Nat) (pre.length : Nat) = some (true, ())
  | [], pre, h => by rw [slices_Equal_int_int.l4_eq, ifB_not _ _ (lt_end pre)]
  | x :: suf, pre, h => by
    have := eq_l4 suf (pre ++ [x]) (by rw [← app_at]; exact h)
    rw [← app_at] at this
    rw [slices_Equal_int_int.l4_eq, ifB_of _ _ (lt_at pre x suf), ixAt_at, bindD_some, bindD_some, ifB_not _ _ (by simp), w_at h]
    exact this
theorem eq_f (l : List Int) (h : l.length < 4611686018427387904) : slices_Equal_int_int.f l l = some (true, ()) := by
  rw [slices_Equal_int_int.f_eq, ifB_not _ _ (by simp)]
  exact eq_l4 l [] h
/-! ### few -/
theorem few_l7 (n : Int) (a b : Int) (Na : LLI) (Aa : LB) (c d : Int) (Nb : LLI) (Ab : LB) : ∀ (f i : Nat) (n : Int), i + f = 61 → ∃ r, ancepsref28_Few.l7 n (i : Int) a b Na Aa c d Nb Ab = some (r, ())
  | 0, i, n, h => by
    rw [ancepsref28_Few.l7_eq, show decide ((i : Int) < 61) = false from decide_eq_false (by omega)]
    generalize hq : ifB (decide (IntKind.i64.wrap _ ≤ (60 : Int))) _ _ = q
    have : ∃ r, q = some (r, ()) := by
      rw [← hq]
      cases decide (IntKind.i64.wrap ((((List.length Na) : Nat) : Int) + (((List.length Nb) : Nat) : Int)) ≤ (60 : Int)) <;> cases decide (n ≤ (500 : Int)) <;> cases decide ((((List.length Aa) : Nat) : Int) ≤ (70 : Int)) <;> exact ⟨_, rfl⟩
    obtain ⟨r, hr⟩ := this
    refine ⟨r, ?_⟩
    rw [hr, ifB_false]
    cases decide ((i : Int) < ((Nb.length : Nat) : Int)) <;> rfl
  | f + 1, i, n, h => by
    rw [ancepsref28_Few.l7_eq]
    generalize hq : ifB (decide (IntKind.i64.wrap _ ≤ (60 : Int))) _ _ = q
    have : ∃ r, q = some (r, ()) := by
      rw [← hq]
      cases decide (IntKind.i64.wrap ((((List.length Na) : Nat) : Int) + (((List.length Nb) : Nat) : Int)) ≤ (60 : Int)) <;> cases decide (n ≤ (500 : Int)) <;> cases decide ((((List.length Aa) : Nat) : Int) ≤ (70 : Int)) <;> exact ⟨_, rfl⟩
    obtain ⟨r, hr⟩ := this
    by_cases h1 : (i : Int) < ((Nb.length : Nat) : Int)
    · have hv : Nb[i]? = some (Nb[i]'(by omega)) := List.getElem?_eq_getElem (by omega)
      rw [ifB_of _ _ (decide_eq_true h1), ifB_of _ _ (decide_eq_true (by omega)), ixAt_nat, hv, bindD_some, w64_succ (by omega)]
      exact few_l7 n a b Na Aa c d Nb Ab f (i + 1) _ (by omega)
    · rw [ifB_not _ _ (decide_eq_false h1)]
      exact ⟨r, hr⟩
theorem few_l3 (a b : Int) (Na : LLI) (Aa : LB) (c d : Int) (Nb : LLI) (Ab : LB) : ∀ (f i : Nat) (n : Int), i + f = 61 → ∃ r, ancepsref28_Few.l3 n (i : Int) a b Na Aa c d Nb Ab = some (r, ())
  | 0, i, n, h => by
    obtain ⟨r, hr⟩ := few_l7 n a b Na Aa c d Nb Ab 61 0 n rfl
    rw [show ((0 : Nat) : Int) = 0 from rfl] at hr
    refine ⟨r, ?_⟩
    rw [ancepsref28_Few.l3_eq, show decide ((i : Int) < 61) = false from decide_eq_false (by omega), ifB_false, hr]
    cases decide ((i : Int) < ((Na.length : Nat) : Int)) <;> rfl
  | f + 1, i, n, h => by
    rw [ancepsref28_Few.l3_eq]
    by_cases h1 : (i : Int) < ((Na.length : Nat) : Int)
    · have hv : Na[i]? = some (Na[i]'(by omega)) := List.getElem?_eq_getElem (by omega)
      rw [ifB_of _ _ (decide_eq_true h1), ifB_of _ _ (decide_eq_true (by omega)), ixAt_nat, hv, bindD_some, w64_succ (by omega)]
      exact few_l3 a b Na Aa c d Nb Ab f (i + 1) _ (by omega)
    · rw [ifB_not _ _ (decide_eq_false h1)]
      exact few_l7 n a b Na Aa c d Nb Ab 61 0 n rfl
theorem few_f (a b : Int) (Na : LLI) (Aa : LB) (c d : Int) (Nb : LLI) (Ab : LB) : ∃ r, ancepsref28_Few.f a b Na Aa c d Nb Ab = some (r, ()) := by
  rw [ancepsref28_Few.f_eq]
  exact few_l3 a b Na Aa c d Nb Ab 61 0 0 rfl

/-! ### the example -/
def nE1 : LLI := [[-1, 1], [2, 2], [-1, -1]]
def nE2 : LLI := [[-1, 1], [-1, 2], [-1, -1]]
def aE : LB := [false, false, true]
theorem ex_W1 : difference_Within.f 2 0 nE2 aE 2 0 nE1 aE = some (true, (0, ())) := (Einf_call_iff ctx).2 ⟨80, by kernel_rfl⟩
theorem ex_W2 : difference_Within.f 2 0 nE1 aE 2 0 nE2 aE = some (false, (0, ())) := (Einf_call_iff ctx).2 ⟨80, by kernel_rfl⟩
theorem ex_T : difference_Tells.f 2 0 nE1 aE 2 0 nE2 aE = some ([1, 0], (1, (0, ()))) := (Einf_call_iff ctx).2 ⟨80, by kernel_rfl⟩
theorem ex_C : ancepsref28_Compare.f 2 0 nE1 aE 2 0 nE2 aE 2 = some (false, (false, (true, ([1, 0], ([0, 0, 1], ([0, 0, 1], ([0, 0, 0], (0, ())))))))) := (Einf_call_iff ctx).2 ⟨80, by kernel_rfl⟩
theorem awake_f : ancepslaw28_awake.f = some (true, ()) := by
  obtain ⟨x, y, z, w, s, l, r, e, _, _, _, _, h1, h2⟩ := compare_same 2 0 nE1 aE 2 0 nE2 aE 2
  rw [ex_C] at h2
  rw [← h2] at h1
  rw [ancepslaw28_awake.f_eq, ancepslaw28_of.f_eq, ancepslaw28_of.f_eq]
  simp only [bindD_some]
  have e1 := ex_W1; have e2 := ex_W2; have e3 := ex_T
  unfold nE1 nE2 aE at h1 e1 e2 e3
  rw [e1, e2, e3, h1]
  simp only [bindD_some]
  rw [eq_f [1, 0] (by decide)]
  rfl

end
end Go.Proofs.C28
