/- The law of Within. -/
import Derived.Test.YtheklfonahgmhaaPlain
set_option linter.unusedVariables false
set_option linter.unusedSimpArgs false
namespace Go.Proofs.C10
open Go Go.Proofs.R
set_option linter.unusedVariables false
set_option maxRecDepth 100000
def withinR (n : Int) (arcs : List Arc) (c : Int) : List (List Int) × (Int × Unit) :=
 if errV n arcs = 0 then (if c < 0 then ([], (6, ())) else if (pathsR n arcs).2.1 = 0 then ((S n arcs).filter fun q => decide (sumV arcs q ≤ c), (0, ())) else ([], ((pathsR n arcs).2.1, ()))) else ([], (errV n arcs, ()))
theorem ltP_sum {arcs : List Arc} {a b : List Int} (h : ltP arcs b a = false) : sumV arcs a ≤ sumV arcs b := by
 unfold ltP ltC at h
 by_cases e : sumV arcs b = sumV arcs a
 ·omega
 ·rw [if_neg e] at h; have := of_decide_eq_false h; simp only at this; omega
theorem within_eq (n : Int) (arcs : List Arc) (c : Int) : route_Within.f n arcs c = some (withinR n arcs c) := by
 rw [route_Within.f_eq, valid_eq]
 simp only [bindD, Option.bind_some, bne_dec]
 unfold withinR
 by_cases he : errV n arcs = 0
 ·rw [decide_eq_true he, if_pos he, Bool.not_true, ifB_false]
  by_cases h1 : c < 0
  ·rw [ifB_pos h1, if_pos h1]
  rw [ifB_neg h1, if_neg h1, all_eq]
  simp only [Option.bind_some]
  unfold allR
  by_cases hz : (pathsR n arcs).2.1 = 0
  ·obtain ⟨_, hsz, _⟩ := pathsR_ok hz
   have hsl := S_len n arcs
   rw [if_pos hz, if_pos hz]
   simp only [decide_true, Bool.not_true, ifB_false]
   obtain ⟨xs, hxs⟩ : ∃ xs, xs = (sortP arcs (AP n arcs 0)).map fun q => (q, sumV arcs q) := ⟨_, rfl⟩
   have hlx : xs.length ≤ 2000 := by rw [hxs, List.length_map]; show (S n arcs).length ≤ _; omega
   have hmx : (xs.filter fun x => decide (x.2 ≤ c)).map Prod.fst = (S n arcs).filter fun q => decide (sumV arcs q ≤ c) := by
    rw [hxs, List.filter_map, List.map_map]
    show List.map id _ = _
    rw [List.map_id]; rfl
   rw [← hxs, ← hmx]
   have key := loop_pr xs (fun j l => ∀ out : List (List Int), out.length + l.length ≤ 2000 → route_Within.l11 c (xs.length : Nat) j out xs = some (out ++ (l.filter fun x => decide (x.2 ≤ c)).map Prod.fst, (0, ()))) ?_ ?_
   ·exact key [] (by simpa using hlx)
   ·intro out _
    rw [route_Within.l11_eq, ifB_neg (by omega)]; simp
   ·intro j x hj ih out ho
    have hlt := (List.getElem?_eq_some_iff.1 hj).1
    simp only [List.length_cons] at ho
    rw [route_Within.l11_eq, ifB_pos (by omega), ixN hj, wrap_succ (by omega)]
    simp only [bindD, Option.bind_some]
    by_cases hx : x.2 ≤ c
    ·rw [ifB_pos hx, grow_ok (by simp only [List.length_cons, List.length_nil]; omega)]
     simp only [Option.bind_some]
     rw [ih _ (by simp only [List.length_append, List.length_cons, List.length_nil]; omega), List.filter_cons_of_pos (p := fun x : List Int × Int => decide (x.2 ≤ c)) (decide_eq_true hx)]
     simp
    ·rw [ifB_neg hx, ih _ (by omega), List.filter_cons_of_neg (p := fun x : List Int × Int => decide (x.2 ≤ c)) (by simpa using hx)]
  ·rw [if_neg hz, if_neg hz]
   simp only [decide_eq_false hz, Bool.not_false, ifB_true]
 ·rw [decide_eq_false he, if_neg he]; rfl
theorem subL_to {α : Type} (xs : List α) {k : Nat} (h : k ≤ xs.length) : subL xs 0 (k : Int) = some (xs.take k) := by
 unfold subL
 rw [if_pos ⟨by omega, by omega, by omega⟩]; rfl
theorem refWithin_eq (n : Int) (arcs : List Arc) (c : Int) : ancepsref10_Within.f n arcs c = some (withinR n arcs c) := by
 rw [ancepsref10_Within.f_eq, refValid_eq]
 simp only [bindD, Option.bind_some, bne_dec]
 unfold withinR
 by_cases he : errV n arcs = 0
 ·have hg := vg_of he
  rw [decide_eq_true he, if_pos he, Bool.not_true, ifB_false]
  by_cases h1 : c < 0
  ·rw [ifB_pos h1, if_pos h1]
  rw [ifB_neg h1, if_neg h1, sorted_eq]
  simp only [Option.bind_some]
  unfold sortedR
  by_cases hz : (pathsR n arcs).2.1 = 0
  ·obtain ⟨_, hsz, _⟩ := pathsR_ok hz
   have hsl := S_len n arcs
   rw [if_pos hz, if_pos hz]
   simp only [decide_true, Bool.not_true, ifB_false]
   show ancepsref10_Within.l10 c 0 n arcs (S n arcs) = _
   have hasc : Asc arcs (S n arcs) := sort_asc arcs (AP n arcs 0)
   have hmem : ∀ q ∈ S n arcs, pathB n arcs 0 q = true := fun q h => (S_path hg).1 h
   revert hsl hasc hmem
   generalize S n arcs = s
   intro hsl hasc hmem
   have key := loop_pr s (fun j l => ∀ pre : List (List Int), s = pre ++ l → (j = (pre.length : Nat)) → (∀ q ∈ pre, sumV arcs q ≤ c) → ancepsref10_Within.l10 c j n arcs s = some (s.filter fun q => decide (sumV arcs q ≤ c), (0, ()))) ?_ ?_
   ·exact key [] rfl rfl (fun q h => absurd h (List.not_mem_nil))
   ·intro pre hs hj hp
    rw [List.append_nil] at hs
    subst hs
    rw [ancepsref10_Within.l10_eq, ifB_neg (by omega), subL_to _ (Nat.le_refl _), List.take_length, List.filter_eq_self.2 (fun q h => decide_eq_true (hp q h))]; rfl
   ·intro j x hj ih pre hs hjp hp
    have hlt := (List.getElem?_eq_some_iff.1 hj).1
    have hjn : j = pre.length := by omega
    obtain ⟨_, _, hsum⟩ := sum_loop hg (hmem x (List.mem_of_getElem? hj))
    rw [ancepsref10_Within.l10_eq, ifB_pos (by omega), ixN hj, wrap_succ (by omega)]
    simp only [bindD, Option.bind_some]
    rw [hsum]
    simp only [Option.bind_some]
    by_cases hx : sumV arcs x ≤ c
    ·rw [ifB_pos hx]
     refine ih (pre ++ [x]) (by rw [List.append_assoc]; exact hs) (by simp only [List.length_append, List.length_cons, List.length_nil]; omega) ?_
     intro q hq
     rcases List.mem_append.1 hq with h | h
     ·exact hp q h
     ·rw [List.mem_singleton.1 h]; exact hx
    ·rw [ifB_neg hx, subL_to _ (Nat.le_of_lt hlt)]
     simp only [Option.bind_some]
     have hrest : ∀ q ∈ x :: s.drop (j + 1), ¬ sumV arcs q ≤ c := by
      rw [hs] at hasc
      have h2 := (List.pairwise_append.1 hasc).2.1
      intro q hq
      rcases List.mem_cons.1 hq with rfl | hq
      ·exact hx
      ·have := ltP_sum ((List.pairwise_cons.1 h2).1 q hq)
       omega
     have hft : s.filter (fun q => decide (sumV arcs q ≤ c)) = pre := by
      rw [hs, List.filter_append, List.filter_eq_self.2 (fun q h => decide_eq_true (hp q h)), List.filter_eq_nil_iff.2 (fun q hq => by simpa using hrest q hq), List.append_nil]
     rw [hft, hjn, hs, List.take_left']
     rfl
  ·rw [if_neg hz, if_neg hz]
   simp only [decide_eq_false hz, Bool.not_false, ifB_true]
 ·rw [decide_eq_false he, if_neg he]; rfl
theorem within_short (n : Int) (arcs : List Arc) (c : Int) : (withinR n arcs c).1.length < 4611686018427387904 ∧ ∀ q ∈ (withinR n arcs c).1, q.length < 4611686018427387904 := by
 unfold withinR
 by_cases he : errV n arcs = 0
 ·rw [if_pos he]
  split
  ·exact ⟨by simp, fun q h => absurd h List.not_mem_nil⟩
  ·split
   ·rename_i hz
    obtain ⟨_, hsz, _⟩ := pathsR_ok hz
    have hsl := S_len n arcs
    refine ⟨?_, fun q hq => ?_⟩
    ·have := List.length_filter_le (fun q => decide (sumV arcs q ≤ c)) (S n arcs)
     show (List.filter _ _).length < _
     omega
    ·have := S_short (vg_of he) (List.mem_filter.1 hq).1; omega
   ·exact ⟨by simp, fun q h => absurd h List.not_mem_nil⟩
 ·rw [if_neg he]; exact ⟨by simp, fun q h => absurd h List.not_mem_nil⟩
theorem law_within (n : Int) (arcs : List Arc) (c : Int) : ancepslaw10_RouteWithin.f n arcs c = some (true, ()) := by
 rw [ancepslaw10_RouteWithin.f_eq, awake_eq, few_eq]
 simp only [bindD, Option.bind_some, Bool.not_true, ifB_false]
 cases hf : fewV n arcs with
 | false => rfl
 | true =>
  simp only [Bool.not_true, ifB_false]
  rw [copied_eq n arcs (few_len hf)]
  simp only [Option.bind_some]
  obtain ⟨s1, s2⟩ := within_short n arcs c
  rw [within_eq, refWithin_eq]
  simp only [Option.bind_some, beq_self_eq_true, ifB_true]
  rw [lists_eq _ _ s1 s2]; simp
end Go.Proofs.C10
