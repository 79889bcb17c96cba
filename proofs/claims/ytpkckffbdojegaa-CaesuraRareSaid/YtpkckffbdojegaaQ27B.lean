/- Q27B: what the row's functions are, as the evaluator tells them. No condition. -/
import Derived.Test.YtpkckffbdojegaaQ27
set_option linter.unusedVariables false
set_option linter.unusedSimpArgs false
set_option maxRecDepth 100000
set_option linter.unusedVariables false
namespace Go.Proofs.Q27
open Go Go.Proofs.R
noncomputable def ancepslaw27_CaesuraRare.f (p0 : (List (List Int))) : Option (Bool × Unit) := (Go.Proofs.R.Einf Go.Proofs.Q27.ctx).call 8 [(.one (.v (.sl (.sl (.int .i64))) p0))]
noncomputable def ancepslaw27_awake.f : Option (Bool × Unit) := (Go.Proofs.R.Einf Go.Proofs.Q27.ctx).call 11 []
noncomputable def ancepslaw27_CaesuraRare.l5 (p0 : (List (List Int))) (p1 : Int) (p2 : (List (List Int))) (p3 : Int) (p4 : Int) : Option (Bool × Unit) := Go.Proofs.R.loopAt Go.Proofs.Q27.ctx (Go.Proofs.R.Einf Go.Proofs.Q27.ctx) 8 5 (.mk [(0, (.one (.v (.sl (.sl (.int .i64))) p0))), (3, (.one (.v (.int .i64) p1))), (20, (.one (.v (.sl (.sl (.int .i64))) p2))), (21, (.one (.v (.int .i64) p3))), (22, (.one (.v (.int .i64) p4)))] [])
noncomputable def slices_Equal_int_int.f (p0 : (List Int)) (p1 : (List Int)) : Option (Bool × Unit) := (Go.Proofs.R.Einf Go.Proofs.Q27.ctx).call 17 [(.one (.v (.sl (.int .i64)) p0)), (.one (.v (.sl (.int .i64)) p1))]
noncomputable def slices_Clone_int_int_34.f (p0 : (List (List Int))) : Option ((List (List Int)) × Unit) := (Go.Proofs.R.Einf Go.Proofs.Q27.ctx).call 34 [(.one (.v (.sl (.sl (.int .i64))) p0))]
noncomputable def ancepslaw27_CaesuraRare.l13 (p0 : (List (List Int))) (p1 : Int) (p2 : Int) (p3 : (List (List Int))) : Option (Bool × Unit) := Go.Proofs.R.loopAt Go.Proofs.Q27.ctx (Go.Proofs.R.Einf Go.Proofs.Q27.ctx) 8 13 (.mk [(0, (.one (.v (.sl (.sl (.int .i64))) p0))), (6, (.one (.row 7))), (36, (.one (.v (.int .i64) p1))), (37, (.one (.v (.int .i64) p2)))] [(7, (.row 38 (.sl (.int .i64)) p3 false))])
noncomputable def caesura_valid.f (p0 : (List Int)) : Option (Int × Unit) := (Go.Proofs.R.Einf Go.Proofs.Q27.ctx).call 50 [(.one (.v (.sl (.int .i64)) p0))]
noncomputable def slices_Equal_int_int.l4 (p0 : (List Int)) (p1 : (List Int)) (p2 : Int) (p3 : Int) : Option (Bool × Unit) := Go.Proofs.R.loopAt Go.Proofs.Q27.ctx (Go.Proofs.R.Einf Go.Proofs.Q27.ctx) 17 4 (.mk [(0, (.one (.v (.sl (.int .i64)) p0))), (1, (.one (.v (.sl (.int .i64)) p1))), (12, (.one (.v (.int .i64) p2))), (13, (.one (.v (.int .i64) p3)))] [])
noncomputable def slices_Clone_int_int.f (p0 : (List Int)) : Option ((List Int) × Unit) := (Go.Proofs.R.Einf Go.Proofs.Q27.ctx).call 19 [(.one (.v (.sl (.int .i64)) p0))]
noncomputable def caesura_Rare.f (p0 : (List (List Int))) : Option ((List Int) × (Int × Unit)) := (Go.Proofs.R.Einf Go.Proofs.Q27.ctx).call 35 [(.one (.v (.sl (.sl (.int .i64))) p0))]
noncomputable def ancepsref27_Rare.f (p0 : (List (List Int))) : Option ((List Int) × (Int × Unit)) := (Go.Proofs.R.Einf Go.Proofs.Q27.ctx).call 36 [(.one (.v (.sl (.sl (.int .i64))) p0))]
noncomputable def slices_ContainsFunc_int_int.f (p0 : (List Int)) : Option (Bool × Unit) := (Go.Proofs.R.Einf Go.Proofs.Q27.ctx).call 31 [(.one (.v (.sl (.int .i64)) p0)), (.one (.clo 91 []))]
noncomputable def caesura_ends.f (p0 : (List Int)) (p1 : Int) : Option (Bool × Unit) := (Go.Proofs.R.Einf Go.Proofs.Q27.ctx).call 52 [(.one (.v (.sl (.int .i64)) p0)), (.one (.v (.int .i64) p1))]
noncomputable def caesura_Rare.l6 (p0 : (List (List Int))) (p1 : Int) (p2 : Int) (p3 : (List (List Int))) : Option ((List Int) × (Int × Unit)) := Go.Proofs.R.loopAt Go.Proofs.Q27.ctx (Go.Proofs.R.Einf Go.Proofs.Q27.ctx) 35 6 (.mk [(1, (.one (.ref 7 0))), (15, (.one (.v (.sl (.sl (.int .i64))) p0))), (16, (.one (.v (.int .i64) p1))), (17, (.one (.v (.int .i64) p2)))] [(7, (.box 68 [(.v (.sl (.sl (.int .i64))) p3)]))])
noncomputable def ancepsref27_Rare.l6 (p0 : (List (List Int))) (p1 : Int) : Option ((List Int) × (Int × Unit)) := Go.Proofs.R.loopAt Go.Proofs.Q27.ctx (Go.Proofs.R.Einf Go.Proofs.Q27.ctx) 36 6 (.mk [(0, (.one (.v (.sl (.sl (.int .i64))) p0))), (4, (.one (.v (.int .i64) p1)))] [])
noncomputable def slices_IndexFunc_int_int.f (p0 : (List Int)) : Option (Int × Unit) := (Go.Proofs.R.Einf Go.Proofs.Q27.ctx).call 69 [(.one (.v (.sl (.int .i64)) p0)), (.one (.clo 91 []))]
noncomputable def caesura_inner.f (p0 : Int) : Option ((List Int) × Unit) := (Go.Proofs.R.Einf Go.Proofs.Q27.ctx).call 62 [(.one (.v (.int .i64) p0)), (.one (.clo 72 []))]
noncomputable def caesura_Rare_3.f (p0 : Int) (p1 : Int) (p2 : (List (List Int))) : Option (Int × Unit) := (Go.Proofs.R.Einf Go.Proofs.Q27.ctx).call 74 [(.one (.v (.int .i64) p0)), (.one (.v (.int .i64) p1)), (.one (.pref [(.clo 71 [(.pref [(.v (.sl (.sl (.int .i64))) p2)] 0)])] 0))]
noncomputable def ancepsref27_letters.f (p0 : (List Int)) : Option (Int × Unit) := (Go.Proofs.R.Einf Go.Proofs.Q27.ctx).call 55 [(.one (.v (.sl (.int .i64)) p0))]
noncomputable def ancepsref27_Rare.l15 (p0 : (List (List Int))) (p1 : Int) (p2 : (List Int)) : Option ((List Int) × (Int × Unit)) := Go.Proofs.R.loopAt Go.Proofs.Q27.ctx (Go.Proofs.R.Einf Go.Proofs.Q27.ctx) 36 15 (.mk [(0, (.one (.v (.sl (.sl (.int .i64))) p0))), (6, (.one (.row 7))), (7, (.one (.v (.int .i64) p1)))] [(7, (.row 3 (.int .i64) p2 false))])
noncomputable def slices_IndexFunc_int_int.l2 (p0 : (List Int)) (p1 : Int) (p2 : Int) : Option (Int × Unit) := Go.Proofs.R.loopAt Go.Proofs.Q27.ctx (Go.Proofs.R.Einf Go.Proofs.Q27.ctx) 69 2 (.mk [(0, (.one (.v (.sl (.int .i64)) p0))), (1, (.one (.clo 91 []))), (7, (.one (.v (.int .i64) p1))), (8, (.one (.v (.int .i64) p2)))] [])
noncomputable def caesura_inner.l3 (p0 : Int) (p1 : Int) (p2 : (List Int)) : Option ((List Int) × Unit) := Go.Proofs.R.loopAt Go.Proofs.Q27.ctx (Go.Proofs.R.Einf Go.Proofs.Q27.ctx) 62 3 (.mk [(0, (.one (.v (.int .i64) p0))), (1, (.one (.clo 72 []))), (5, (.one (.row 7))), (6, (.one (.v (.int .i64) p1)))] [(7, (.row 3 (.int .i64) p2 false))])
noncomputable def caesura_Rare_1.f (p0 : Int) (p1 : (List (List Int))) : Option (Int × Unit) := (Go.Proofs.R.Einf Go.Proofs.Q27.ctx).call 71 [(.one (.v (.int .i64) p0)), (.one (.pref [(.v (.sl (.sl (.int .i64))) p1)] 0))]
noncomputable def cmp_Compare_int.f (p0 : Int) (p1 : Int) : Option (Int × Unit) := (Go.Proofs.R.Einf Go.Proofs.Q27.ctx).call 75 [(.one (.v (.int .i64) p0)), (.one (.v (.int .i64) p1))]
noncomputable def ancepsref27_letters.l4 (p0 : (List Int)) (p1 : Int) : Option (Int × Unit) := Go.Proofs.R.loopAt Go.Proofs.Q27.ctx (Go.Proofs.R.Einf Go.Proofs.Q27.ctx) 55 4 (.mk [(0, (.one (.v (.sl (.int .i64)) p0))), (3, (.one (.v (.int .i64) p1)))] [])
noncomputable def ancepsref27_Rare.l18 (p0 : (List (List Int))) (p1 : Int) (p2 : Int) (p3 : (List Int)) : Option ((List Int) × (Int × Unit)) := Go.Proofs.R.loopAt Go.Proofs.Q27.ctx (Go.Proofs.R.Einf Go.Proofs.Q27.ctx) 36 18 (.mk [(0, (.one (.v (.sl (.sl (.int .i64))) p0))), (6, (.one (.row 7))), (7, (.one (.v (.int .i64) p1))), (8, (.one (.v (.int .i64) p2)))] [(7, (.row 3 (.int .i64) p3 false))])
noncomputable def caesura_valid_1.f (p0 : Int) : Option (Bool × Unit) := (Go.Proofs.R.Einf Go.Proofs.Q27.ctx).call 91 [(.one (.v (.int .i64) p0))]
noncomputable def caesura_Rare_2.f (p0 : Int) : Option (Bool × Unit) := (Go.Proofs.R.Einf Go.Proofs.Q27.ctx).call 72 [(.one (.v (.int .i64) p0))]
noncomputable def caesura_Rare_1.l3 (p0 : Int) (p1 : Int) (p2 : (List (List Int))) (p3 : Int) (p4 : Int) : Option (Int × Unit) := Go.Proofs.R.loopAt Go.Proofs.Q27.ctx (Go.Proofs.R.Einf Go.Proofs.Q27.ctx) 71 3 (.mk [(0, (.one (.v (.int .i64) p0))), (4, (.one (.v (.int .i64) p1))), (7, (.one (.v (.sl (.sl (.int .i64))) p2))), (8, (.one (.v (.int .i64) p3))), (9, (.one (.v (.int .i64) p4)))] [])
noncomputable def cmp_isNaN_int.f (p0 : Int) : Option (Bool × Unit) := (Go.Proofs.R.Einf Go.Proofs.Q27.ctx).call 96 [(.one (.v (.int .i64) p0))]
noncomputable def ancepsref27_Rare.l22 (p0 : (List (List Int))) (p1 : Int) (p2 : Int) (p3 : Int) (p4 : Int) (p5 : (List Int)) : Option ((List Int) × (Int × Unit)) := Go.Proofs.R.loopAt Go.Proofs.Q27.ctx (Go.Proofs.R.Einf Go.Proofs.Q27.ctx) 36 22 (.mk [(0, (.one (.v (.sl (.sl (.int .i64))) p0))), (6, (.one (.row 7))), (7, (.one (.v (.int .i64) p1))), (8, (.one (.v (.int .i64) p2))), (9, (.one (.v (.int .i64) p3))), (10, (.one (.v (.int .i64) p4)))] [(7, (.row 3 (.int .i64) p5 false))])
noncomputable def ancepsref23_Ends.f (p0 : (List Int)) (p1 : Int) : Option (Bool × Unit) := (Go.Proofs.R.Einf Go.Proofs.Q27.ctx).call 57 [(.one (.v (.sl (.int .i64)) p0)), (.one (.v (.int .i64) p1))]

theorem ancepslaw27_CaesuraRare.f_eq (p0 : (List (List Int))) : ancepslaw27_CaesuraRare.f p0 =
  bindD (ancepslaw27_awake.f) fun t0 =>
  ifB (!t0.1)
   (bindD (ancepslaw27_awake.f) fun t1 =>
   some (t1.1, ()))
  (ifB (decide ((((List.length p0) : Nat) : Int) > (210 : Int)))
    (bindD (ancepslaw27_awake.f) fun t2 =>
    some (t2.1, ()))
   (ancepslaw27_CaesuraRare.l5 p0 (0 : Int) p0 (((List.length p0) : Nat) : Int) (0 : Int))) := (Einf_call Go.Proofs.Q27.ctx 8 _).trans (by kernel_rfl)
theorem ancepslaw27_CaesuraRare.l5_eq (p0 : (List (List Int))) (p1 : Int) (p2 : (List (List Int))) (p3 : Int) (p4 : Int) : ancepslaw27_CaesuraRare.l5 p0 p1 p2 p3 p4 =
  ifB (decide (p4 < p3))
   (bindD ((ixAt p2 p4)) fun t13 =>
   ancepslaw27_CaesuraRare.l5 p0 (Go.IntKind.wrap Go.IntKind.i64 (p1 + (((List.length t13) : Nat) : Int))) p2 p3 (Go.IntKind.wrap Go.IntKind.i64 (p4 + (1 : Int))))
  (ifB (decide (p1 > (1000 : Int)))
    (some (true, ()))
   (bindD (slices_Clone_int_int_34.f p0) fun t14 =>
    ancepslaw27_CaesuraRare.l13 p0 (((List.length t14.1) : Nat) : Int) (0 : Int) t14.1)) := (loopAt_step Go.Proofs.Q27.ctx 8 5 _).trans (by kernel_rfl)
theorem slices_Equal_int_int.f_eq (p0 : (List Int)) (p1 : (List Int)) : slices_Equal_int_int.f p0 p1 =
  ifB ((((List.length p0) : Nat) : Int) != (((List.length p1) : Nat) : Int))
   (some (false, ()))
  (slices_Equal_int_int.l4 p0 p1 (((List.length p0) : Nat) : Int) (0 : Int)) := (Einf_call Go.Proofs.Q27.ctx 17 _).trans (by kernel_rfl)
theorem slices_Clone_int_int_34.f_eq (p0 : (List (List Int))) : slices_Clone_int_int_34.f p0 =
  bindD ((Go.Proofs.R.grow (List.length p0))) fun t19 =>
  some (p0, ()) := (Einf_call Go.Proofs.Q27.ctx 34 _).trans (by kernel_rfl)
theorem ancepslaw27_CaesuraRare.l13_eq (p0 : (List (List Int))) (p1 : Int) (p2 : Int) (p3 : (List (List Int))) : ancepslaw27_CaesuraRare.l13 p0 p1 p2 p3 =
  ifB (decide (p2 < p1))
   (bindD ((ixAt p0 p2)) fun t20 =>
   bindD (slices_Clone_int_int.f t20) fun t21 =>
   bindD ((ixAt p3 p2)) fun t22 =>
   bindD ((ixAt p3 p2)) fun t23 =>
   ancepslaw27_CaesuraRare.l13 p0 p1 (Go.IntKind.wrap Go.IntKind.i64 (p2 + (1 : Int))) (setRow p3 p2 t21.1))
  (bindD (caesura_Rare.f p3) fun t24 =>
   bindD (ancepsref27_Rare.f p0) fun t25 =>
   ifB (t24.2.1 == t25.2.1)
    (bindD (slices_Equal_int_int.f t24.1 t25.1) fun t26 =>
    some (t26.1, ()))
   (some (false, ()))) := (loopAt_step Go.Proofs.Q27.ctx 8 13 _).trans (by kernel_rfl)
theorem caesura_valid.f_eq (p0 : (List Int)) : caesura_valid.f p0 =
  ifB (decide ((((List.length p0) : Nat) : Int) > (40 : Int)))
   (some ((3 : Int), ()))
  (bindD (slices_ContainsFunc_int_int.f p0) fun t27 =>
   ifB t27.1
    (some ((6 : Int), ()))
   (some ((0 : Int), ()))) := (Einf_call Go.Proofs.Q27.ctx 50 _).trans (by kernel_rfl)
theorem slices_Equal_int_int.l4_eq (p0 : (List Int)) (p1 : (List Int)) (p2 : Int) (p3 : Int) : slices_Equal_int_int.l4 p0 p1 p2 p3 =
  ifB (decide (p3 < p2))
   (bindD ((ixAt p0 p3)) fun t37 =>
   bindD ((ixAt p1 p3)) fun t38 =>
   ifB (t37 != t38)
    (some (false, ()))
   (slices_Equal_int_int.l4 p0 p1 p2 (Go.IntKind.wrap Go.IntKind.i64 (p3 + (1 : Int)))))
  (some (true, ())) := (loopAt_step Go.Proofs.Q27.ctx 17 4 _).trans (by kernel_rfl)
theorem slices_Clone_int_int.f_eq (p0 : (List Int)) : slices_Clone_int_int.f p0 =
  bindD ((Go.Proofs.R.grow (List.length p0))) fun t39 =>
  some (p0, ()) := (Einf_call Go.Proofs.Q27.ctx 19 _).trans (by kernel_rfl)
theorem caesura_Rare.f_eq (p0 : (List (List Int))) : caesura_Rare.f p0 =
  ifB ((((List.length p0) : Nat) : Int) == (0 : Int))
   (some (([] : (List Int)), ((7 : Int), ())))
  (ifB (decide ((((List.length p0) : Nat) : Int) > (200 : Int)))
    (some (([] : (List Int)), ((3 : Int), ())))
   (caesura_Rare.l6 p0 (((List.length p0) : Nat) : Int) (0 : Int) p0)) := (Einf_call Go.Proofs.Q27.ctx 35 _).trans (by kernel_rfl)
theorem ancepsref27_Rare.f_eq (p0 : (List (List Int))) : ancepsref27_Rare.f p0 =
  ifB ((((List.length p0) : Nat) : Int) == (0 : Int))
   (some (([] : (List Int)), ((7 : Int), ())))
  (ifB (decide ((((List.length p0) : Nat) : Int) > (200 : Int)))
    (some (([] : (List Int)), ((3 : Int), ())))
   (ancepsref27_Rare.l6 p0 (0 : Int))) := (Einf_call Go.Proofs.Q27.ctx 36 _).trans (by kernel_rfl)
theorem slices_ContainsFunc_int_int.f_eq (p0 : (List Int)) : slices_ContainsFunc_int_int.f p0 =
  bindD (slices_IndexFunc_int_int.f p0) fun t40 =>
  some ((decide (t40.1 ≥ (0 : Int))), ()) := (Einf_call Go.Proofs.Q27.ctx 31 _).trans (by kernel_rfl)
theorem caesura_ends.f_eq (p0 : (List Int)) (p1 : Int) : caesura_ends.f p0 p1 =
  bindD ((ixAt p0 (Go.IntKind.wrap Go.IntKind.i64 (p1 - (1 : Int))))) fun t42 =>
  some ((decide (t42 ≥ (2 : Int))), ()) := (Einf_call Go.Proofs.Q27.ctx 52 _).trans (by kernel_rfl)
theorem caesura_Rare.l6_eq (p0 : (List (List Int))) (p1 : Int) (p2 : Int) (p3 : (List (List Int))) : caesura_Rare.l6 p0 p1 p2 p3 =
  ifB (decide (p2 < p1))
   (bindD ((ixAt p0 p2)) fun t51 =>
   bindD (caesura_valid.f t51) fun t52 =>
   ifB (t52.1 != (0 : Int))
    (some (([] : (List Int)), (t52.1, ())))
   (bindD ((ixAt p3 (0 : Int))) fun t53 =>
    ifB ((((List.length t51) : Nat) : Int) != (((List.length t53) : Nat) : Int))
     (some (([] : (List Int)), ((6 : Int), ())))
    (caesura_Rare.l6 p0 p1 (Go.IntKind.wrap Go.IntKind.i64 (p2 + (1 : Int))) p3)))
  (bindD ((ixAt p3 (0 : Int))) fun t54 =>
   bindD (caesura_inner.f (((List.length t54) : Nat) : Int)) fun t55 =>
   bindD ((Go.Proofs.R.grow (List.length t55.1))) fun t56 =>
   bindD (sortB true (fun t57 t58 => bindD (caesura_Rare_3.f t57 t58 p3) fun t59 =>
    some t59.1) t55.1) fun t60 =>
   some (t60, ((0 : Int), ()))) := (loopAt_step Go.Proofs.Q27.ctx 35 6 _).trans (by kernel_rfl)
theorem ancepsref27_Rare.l6_eq (p0 : (List (List Int))) (p1 : Int) : ancepsref27_Rare.l6 p0 p1 =
  ifB (decide (p1 < (((List.length p0) : Nat) : Int)))
   (bindD ((ixAt p0 p1)) fun t61 =>
   bindD (ancepsref27_letters.f t61) fun t62 =>
   ifB (t62.1 != (0 : Int))
    (some (([] : (List Int)), (t62.1, ())))
   (bindD ((ixAt p0 p1)) fun t63 =>
    bindD ((ixAt p0 (0 : Int))) fun t64 =>
    ifB ((((List.length t63) : Nat) : Int) != (((List.length t64) : Nat) : Int))
     (some (([] : (List Int)), ((6 : Int), ())))
    (ancepsref27_Rare.l6 p0 (Go.IntKind.wrap Go.IntKind.i64 (p1 + (1 : Int))))))
  (ancepsref27_Rare.l15 p0 (0 : Int) ([] : (List Int))) := (loopAt_step Go.Proofs.Q27.ctx 36 6 _).trans (by kernel_rfl)
theorem slices_IndexFunc_int_int.f_eq (p0 : (List Int)) : slices_IndexFunc_int_int.f p0 =
  slices_IndexFunc_int_int.l2 p0 (((List.length p0) : Nat) : Int) (0 : Int) := (Einf_call Go.Proofs.Q27.ctx 69 _).trans (by kernel_rfl)
theorem caesura_inner.f_eq (p0 : Int) : caesura_inner.f p0 =
  caesura_inner.l3 p0 (1 : Int) ([] : (List Int)) := (Einf_call Go.Proofs.Q27.ctx 62 _).trans (by kernel_rfl)
theorem caesura_Rare_3.f_eq (p0 : Int) (p1 : Int) (p2 : (List (List Int))) : caesura_Rare_3.f p0 p1 p2 =
  bindD (caesura_Rare_1.f p0 p2) fun t72 =>
  bindD (caesura_Rare_1.f p1 p2) fun t73 =>
  bindD (cmp_Compare_int.f t72.1 t73.1) fun t74 =>
  some (t74.1, ()) := (Einf_call Go.Proofs.Q27.ctx 74 _).trans (by kernel_rfl)
theorem ancepsref27_letters.f_eq (p0 : (List Int)) : ancepsref27_letters.f p0 =
  ifB (decide ((((List.length p0) : Nat) : Int) > (40 : Int)))
   (some ((3 : Int), ()))
  (ancepsref27_letters.l4 p0 (0 : Int)) := (Einf_call Go.Proofs.Q27.ctx 55 _).trans (by kernel_rfl)
theorem ancepsref27_Rare.l15_eq (p0 : (List (List Int))) (p1 : Int) (p2 : (List Int)) : ancepsref27_Rare.l15 p0 p1 p2 =
  ifB (decide (p1 ≤ (((List.length p0) : Nat) : Int)))
   (ancepsref27_Rare.l18 p0 p1 (1 : Int) p2)
  (some (p2, ((0 : Int), ()))) := (loopAt_step Go.Proofs.Q27.ctx 36 15 _).trans (by kernel_rfl)
theorem slices_IndexFunc_int_int.l2_eq (p0 : (List Int)) (p1 : Int) (p2 : Int) : slices_IndexFunc_int_int.l2 p0 p1 p2 =
  ifB (decide (p2 < p1))
   (bindD ((ixAt p0 p2)) fun t75 =>
   bindD (caesura_valid_1.f t75) fun t76 =>
   ifB t76.1
    (some (p2, ()))
   (slices_IndexFunc_int_int.l2 p0 p1 (Go.IntKind.wrap Go.IntKind.i64 (p2 + (1 : Int)))))
  (some ((-(1 : Int)), ())) := (loopAt_step Go.Proofs.Q27.ctx 69 2 _).trans (by kernel_rfl)
theorem caesura_inner.l3_eq (p0 : Int) (p1 : Int) (p2 : (List Int)) : caesura_inner.l3 p0 p1 p2 =
  ifB (decide (p1 < p0))
   (bindD (caesura_Rare_2.f p1) fun t77 =>
   ifB t77.1
    (bindD ((Go.Proofs.R.grow ((List.length p2) + (List.length (p1 :: ([] : (List Int))))))) fun t78 =>
    caesura_inner.l3 p0 (Go.IntKind.wrap Go.IntKind.i64 (p1 + (1 : Int))) (p2 ++ (p1 :: ([] : (List Int)))))
   (caesura_inner.l3 p0 (Go.IntKind.wrap Go.IntKind.i64 (p1 + (1 : Int))) p2))
  (some (p2, ())) := (loopAt_step Go.Proofs.Q27.ctx 62 3 _).trans (by kernel_rfl)
theorem caesura_Rare_1.f_eq (p0 : Int) (p1 : (List (List Int))) : caesura_Rare_1.f p0 p1 =
  caesura_Rare_1.l3 p0 (0 : Int) p1 (((List.length p1) : Nat) : Int) (0 : Int) := (Einf_call Go.Proofs.Q27.ctx 71 _).trans (by kernel_rfl)
theorem cmp_Compare_int.f_eq (p0 : Int) (p1 : Int) : cmp_Compare_int.f p0 p1 =
  bindD (cmp_isNaN_int.f p0) fun t79 =>
  bindD (cmp_isNaN_int.f p1) fun t80 =>
  ifB t79.1
   (ifB t80.1
    (some ((0 : Int), ()))
   (some ((-(1 : Int)), ())))
  (ifB t80.1
    (some ((1 : Int), ()))
   (ifB (decide (p0 < p1))
     (some ((-(1 : Int)), ()))
    (ifB (decide (p0 > p1))
      (some ((1 : Int), ()))
     (some ((0 : Int), ()))))) := (Einf_call Go.Proofs.Q27.ctx 75 _).trans (by kernel_rfl)
theorem ancepsref27_letters.l4_eq (p0 : (List Int)) (p1 : Int) : ancepsref27_letters.l4 p0 p1 =
  ifB (decide (p1 < (((List.length p0) : Nat) : Int)))
   (bindD ((ixAt p0 p1)) fun t81 =>
   ifB (decide (t81 < (0 : Int)))
    (some ((6 : Int), ()))
   (bindD ((ixAt p0 p1)) fun t82 =>
    ifB (decide (t82 > (3 : Int)))
     (some ((6 : Int), ()))
    (ancepsref27_letters.l4 p0 (Go.IntKind.wrap Go.IntKind.i64 (p1 + (1 : Int))))))
  (some ((0 : Int), ())) := (loopAt_step Go.Proofs.Q27.ctx 55 4 _).trans (by kernel_rfl)
theorem ancepsref27_Rare.l18_eq (p0 : (List (List Int))) (p1 : Int) (p2 : Int) (p3 : (List Int)) : ancepsref27_Rare.l18 p0 p1 p2 p3 =
  bindD ((ixAt p0 (0 : Int))) fun t83 =>
  ifB (decide (p2 < (((List.length t83) : Nat) : Int)))
   (ancepsref27_Rare.l22 p0 p1 p2 (0 : Int) (0 : Int) p3)
  (ancepsref27_Rare.l15 p0 (Go.IntKind.wrap Go.IntKind.i64 (p1 + (1 : Int))) p3) := (loopAt_step Go.Proofs.Q27.ctx 36 18 _).trans (by kernel_rfl)
theorem caesura_valid_1.f_eq (p0 : Int) : caesura_valid_1.f p0 =
  ifB (decide (p0 < (0 : Int)))
   (some (true, ()))
  (some ((decide (p0 > (3 : Int))), ())) := (Einf_call Go.Proofs.Q27.ctx 91 _).trans (by kernel_rfl)
theorem caesura_Rare_2.f_eq (p0 : Int) : caesura_Rare_2.f p0 =
  some (true, ()) := (Einf_call Go.Proofs.Q27.ctx 72 _).trans (by kernel_rfl)
theorem caesura_Rare_1.l3_eq (p0 : Int) (p1 : Int) (p2 : (List (List Int))) (p3 : Int) (p4 : Int) : caesura_Rare_1.l3 p0 p1 p2 p3 p4 =
  ifB (decide (p4 < p3))
   (bindD ((ixAt p2 p4)) fun t84 =>
   bindD (caesura_ends.f t84 p0) fun t85 =>
   ifB t85.1
    (caesura_Rare_1.l3 p0 (Go.IntKind.wrap Go.IntKind.i64 (p1 + (1 : Int))) p2 p3 (Go.IntKind.wrap Go.IntKind.i64 (p4 + (1 : Int))))
   (caesura_Rare_1.l3 p0 p1 p2 p3 (Go.IntKind.wrap Go.IntKind.i64 (p4 + (1 : Int)))))
  (some (p1, ())) := (loopAt_step Go.Proofs.Q27.ctx 71 3 _).trans (by kernel_rfl)
theorem cmp_isNaN_int.f_eq (p0 : Int) : cmp_isNaN_int.f p0 =
  some ((p0 != p0), ()) := (Einf_call Go.Proofs.Q27.ctx 96 _).trans (by kernel_rfl)
theorem ancepsref27_Rare.l22_eq (p0 : (List (List Int))) (p1 : Int) (p2 : Int) (p3 : Int) (p4 : Int) (p5 : (List Int)) : ancepsref27_Rare.l22 p0 p1 p2 p3 p4 p5 =
  ifB (decide (p4 < (((List.length p0) : Nat) : Int)))
   (bindD ((ixAt p0 p4)) fun t86 =>
   bindD (ancepsref23_Ends.f t86 p2) fun t87 =>
   ifB t87.1
    (ancepsref27_Rare.l22 p0 p1 p2 (Go.IntKind.wrap Go.IntKind.i64 (p3 + (1 : Int))) (Go.IntKind.wrap Go.IntKind.i64 (p4 + (1 : Int))) p5)
   (ancepsref27_Rare.l22 p0 p1 p2 p3 (Go.IntKind.wrap Go.IntKind.i64 (p4 + (1 : Int))) p5))
  (ifB (p3 == p1)
    (bindD ((Go.Proofs.R.grow ((List.length p5) + (List.length (p2 :: ([] : (List Int))))))) fun t88 =>
    ancepsref27_Rare.l18 p0 p1 (Go.IntKind.wrap Go.IntKind.i64 (p2 + (1 : Int))) (p5 ++ (p2 :: ([] : (List Int)))))
   (ancepsref27_Rare.l18 p0 p1 (Go.IntKind.wrap Go.IntKind.i64 (p2 + (1 : Int))) p5)) := (loopAt_step Go.Proofs.Q27.ctx 36 22 _).trans (by kernel_rfl)
theorem ancepsref23_Ends.f_eq (p0 : (List Int)) (p1 : Int) : ancepsref23_Ends.f p0 p1 =
  ifB (p1 == (0 : Int))
   (some (true, ()))
  (bindD ((ixAt p0 (Go.IntKind.wrap Go.IntKind.i64 (p1 - (1 : Int))))) fun t89 =>
   some ((decide (t89 ≥ (2 : Int))), ())) := (Einf_call Go.Proofs.Q27.ctx 57 _).trans (by kernel_rfl)
end Go.Proofs.Q27
