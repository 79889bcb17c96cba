/- route.Ways at the chapter's example. -/
import Derived.Test.YtheklfonahgmhaaC10XB
import Derived.Test.YtheklfonahgmhaaP10a
set_option linter.unusedVariables false
set_option linter.unusedSimpArgs false
namespace Go.Proofs.C10X
open Go Go.Proofs.R
set_option linter.unusedVariables false
set_option maxRecDepth 100000
theorem w25 : route_Ways.l25 = some (0, (0, ())) := by rw [route_Ways.l25_eq]; exact eachB_done rfl (fun j h => absurd h (Nat.not_lt_zero _))
theorem w14_13 : route_Ways.l14_13 [(1, 1)] = some (0, (0, ())) := by rw [route_Ways.l14_13_eq]; exact w25
theorem in01 : ∀ j, j < 1 → j ∈ [0] := by intro j h; simp; omega
theorem w18_23 : route_Ways.l18_23 1 [0] [(1, 1)] = some (0, (0, ())) := by rw [route_Ways.l18_23_eq]; exact (eachB_done (k := 1) rfl in01).trans w14_13
theorem w18_21 : route_Ways.l18_21 1 [(1, 1)] = some (0, (0, ())) := by
 rw [route_Ways.l18_21_eq]; refine eachB_one ?_
 exact Eq.trans (b := route_Ways.l18_23 1 [0] [(1, 1)]) (by kernel_rfl) w18_23
theorem w14_9 : route_Ways.l14_9 [(1, 1)] = some (0, (0, ())) := by rw [route_Ways.l14_9_eq]; exact w18_21
theorem w18_16 : route_Ways.l18_16 [0] [(1, 1)] = some (0, (0, ())) := by rw [route_Ways.l18_16_eq]; exact (eachB_done (k := 1) rfl in01).trans w14_9
theorem w18_13 : route_Ways.l18_13 [(1, 1)] = some (0, (0, ())) := by
 rw [route_Ways.l18_13_eq]; refine eachB_one ?_
 exact Eq.trans (b := route_Ways.l18_16 [0] [(1, 1)]) (by kernel_rfl) w18_16
theorem w14_5 : route_Ways.l14_5 [(1, 1)] = some (0, (0, ())) := by rw [route_Ways.l14_5_eq]; exact w18_13
theorem w18_9 : route_Ways.l18_9 1 [0] [(1, 1)] = some (0, (0, ())) := by rw [route_Ways.l18_9_eq]; exact (eachB_done (k := 1) rfl in01).trans w14_5
theorem w18_6 : route_Ways.l18_6 1 [(1, 1)] = some (0, (0, ())) := by
 rw [route_Ways.l18_6_eq]; refine eachB_one ?_
 exact Eq.trans (b := route_Ways.l18_9 1 [0] [(1, 1)]) (by kernel_rfl) w18_9
theorem w14_1 : route_Ways.l14_1 [(1, 1)] = some (0, (0, ())) := by rw [route_Ways.l14_1_eq]; exact w18_6
theorem w18_1 : route_Ways.l18_1 [0] [(1, 1)] = some (0, (0, ())) := by rw [route_Ways.l18_1_eq]; exact (eachB_done (k := 1) rfl in01).trans w14_1
theorem w18 : route_Ways.l18 = some (0, (0, ())) := by
 rw [route_Ways.l18_eq]; refine eachB_one ?_
 exact Eq.trans (b := route_Ways.l18_1 [0] [(1, 1)]) (by kernel_rfl) w18_1
theorem w14 : route_Ways.m14 = some (0, (0, ())) := by rw [route_Ways.m14_eq]; exact w18
theorem compare_eq (a b : Int) : cmp_Compare_int.f a b = some (cmpI a b, ()) := by
 rw [cmp_Compare_int.f_eq, cmp_isNaN_int.f_eq, cmp_isNaN_int.f_eq]
 unfold cmpI
 simp only [bindD, Option.bind_some, ifB, bne_self_eq_false, cond_false]
 by_cases h : a < b
 ·rw [if_pos h, decide_eq_true h]; rfl
 ·rw [if_neg h, decide_eq_false h]
  by_cases h2 : a > b
  ·rw [if_pos h2, decide_eq_true h2]; rfl
  ·rw [if_neg h2, decide_eq_false h2]; rfl
def ex : List Arc := [(0, 1, 2), (1, 2, 1), (0, 2, 3), (0, 1, 2)]
theorem back : route_backwards.f = some ([1, 0, 2, 3], ()) := by
 rw [route_backwards.f_eq, route_backwards.l3_eq, route_backwards.l3_1_eq, route_backwards.l3_2_eq, route_backwards.l3_3_eq, route_backwards.l3_4_eq]
 rw [sort_desc (arcs := ex) (n := 2) (by omega) (by decide)]
 ·rfl
 ·intro x hx y hy
  rw [route_backwards_1.f_eq]
  have hx' : x = 0 ∨ x = 1 ∨ x = 2 ∨ x = 3 := by simpa using hx
  have hy' : y = 0 ∨ y = 1 ∨ y = 2 ∨ y = 3 := by simpa using hy
  have key : ∀ z : Int, (z = 0 ∨ z = 1 ∨ z = 2 ∨ z = 3) → ∃ a, ixAt ex z = some a ∧ a.1 = (fromN ex z : Int) := by
   rintro z (rfl | rfl | rfl | rfl) <;> exact ⟨_, rfl, rfl⟩
  obtain ⟨a, h1, h2⟩ := key y hy'
  obtain ⟨b, h3, h4⟩ := key x hx'
  have h1 : ixAt (((0 : Int), ((1 : Int), (2 : Int))) :: (((1 : Int), ((2 : Int), (1 : Int))) :: (((0 : Int), ((2 : Int), (3 : Int))) :: (((0 : Int), ((1 : Int), (2 : Int))) :: ([] : (List (Int × (Int × Int)))))))) y = some a := h1
  have h3 : ixAt (((0 : Int), ((1 : Int), (2 : Int))) :: (((1 : Int), ((2 : Int), (1 : Int))) :: (((0 : Int), ((2 : Int), (3 : Int))) :: (((0 : Int), ((1 : Int), (2 : Int))) :: ([] : (List (Int × (Int × Int)))))))) x = some b := h3
  rw [h1, h3]
  simp only [bindD, Option.bind_some, compare_eq, h2, h4]
theorem valid_ex : dag_Valid.f = some (0, ()) := by
 rw [dag_Valid.f_eq, dag_Valid.l7_eq, dag_Valid.l7_1_eq, dag_Valid.l7_2_eq, dag_Valid.l7_3_eq, dag_Valid.l7_4_eq, dag_Valid_1.f_eq, dag_Valid_1.f1_eq, dag_Valid_1.f2_eq]
 rfl
theorem ways_ex : route_Ways.f = some (0, (0, ())) := by
 rw [route_Ways.f_eq, valid_ex, route_Ways.l8_eq, route_Ways.l8_1_eq, route_Ways.l8_2_eq, route_Ways.l8_3_eq, back]
 exact w14
end Go.Proofs.C10X
