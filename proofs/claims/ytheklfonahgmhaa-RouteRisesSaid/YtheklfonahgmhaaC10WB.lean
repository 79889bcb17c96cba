/- C10WB: what the row's functions are, as the evaluator tells them. No condition. -/
import Derived.Test.YtheklfonahgmhaaC10W
set_option linter.unusedVariables false
set_option linter.unusedSimpArgs false
set_option maxRecDepth 100000
set_option linter.unusedVariables false
namespace Go.Proofs.C10W
open Go Go.Proofs.R
noncomputable def dag_ways.f (p0 : Int) (p1 : (List (Int × (Int × Int)))) : Option ((List Int) × Unit) := (Go.Proofs.R.Einf Go.Proofs.C10W.ctx).call 67 [(.agg [(.v (.int .i64) p0), (.v (.sl (.pair (.int .i64) (.pair (.int .i64) (.int .i64)))) p1)])]
noncomputable def dag_capped.f (p0 : Int) (p1 : Int) : Option (Int × Unit) := (Go.Proofs.R.Einf Go.Proofs.C10W.ctx).call 78 [(.one (.v (.int .i64) p0)), (.one (.v (.int .i64) p1))]
noncomputable def dag_byFrom.f (p0 : Int) (p1 : (List (Int × (Int × Int)))) : Option ((List (List Int)) × Unit) := (Go.Proofs.R.Einf Go.Proofs.C10W.ctx).call 68 [(.agg [(.v (.int .i64) p0), (.v (.sl (.pair (.int .i64) (.pair (.int .i64) (.int .i64)))) p1)])]
noncomputable def slices_Backward_int_int.f (p0 : (List (List Int))) : Option (Unit × Unit) := (Go.Proofs.R.Einf Go.Proofs.C10W.ctx).call 77 [(.one (.v (.sl (.sl (.int .i64))) p0))]
noncomputable def dag_byFrom.l3 (p0 : (List (Int × (Int × Int)))) (p1 : Int) (p2 : Int) (p3 : (List (List Int))) : Option ((List (List Int)) × Unit) := Go.Proofs.R.loopAt Go.Proofs.C10W.ctx (Go.Proofs.R.Einf Go.Proofs.C10W.ctx) 68 3 (.mk [(3, (.one (.row 7))), (10, (.one (.v (.sl (.pair (.int .i64) (.pair (.int .i64) (.int .i64)))) p0))), (11, (.one (.v (.int .i64) p1))), (12, (.one (.v (.int .i64) p2)))] [(7, (.rows 27 3 (.int .i64) p3 .full))])
theorem dag_ways.f_eq (p0 : Int) (p1 : (List (Int × (Int × Int)))) : dag_ways.f p0 p1 =
 bindD ((Go.Proofs.R.mkLen p0 p0)) fun t0 =>
 bindD ((ixAt (List.replicate t0 (0 : Int)) (Go.IntKind.wrap Go.IntKind.i64 (p0 - (1 : Int))))) fun t1 =>
 bindD ((ixAt (List.replicate t0 (0 : Int)) (Go.IntKind.wrap Go.IntKind.i64 (p0 - (1 : Int))))) fun t2 =>
 bindD (dag_byFrom.f p0 p1) fun t3 =>
 bindD (slices_Backward_int_int.f t3.1) fun t4 =>
 none := (Einf_call Go.Proofs.C10W.ctx 67 _).trans (by kernel_rfl)
theorem dag_capped.f_eq (p0 : Int) (p1 : Int) : dag_capped.f p0 p1 =
 ifB (decide (p0 > (Go.IntKind.wrap Go.IntKind.i64 ((4611686018427387904 : Int) - p1))))
  (some ((4611686018427387905 : Int), ()))
 (some ((Go.IntKind.wrap Go.IntKind.i64 (p0 + p1)), ())) := (Einf_call Go.Proofs.C10W.ctx 78 _).trans (by kernel_rfl)
theorem dag_byFrom.f_eq (p0 : Int) (p1 : (List (Int × (Int × Int)))) : dag_byFrom.f p0 p1 =
 bindD ((Go.Proofs.R.mkLen p0 p0)) fun t5 =>
 dag_byFrom.l3 p1 (((List.length p1) : Nat) : Int) (0 : Int) (List.replicate t5 ([] : (List Int))) := (Einf_call Go.Proofs.C10W.ctx 68 _).trans (by kernel_rfl)
theorem slices_Backward_int_int.f_eq (p0 : (List (List Int))) : slices_Backward_int_int.f p0 =
 none := (Einf_call Go.Proofs.C10W.ctx 77 _).trans (by kernel_rfl)
theorem dag_byFrom.l3_eq (p0 : (List (Int × (Int × Int)))) (p1 : Int) (p2 : Int) (p3 : (List (List Int))) : dag_byFrom.l3 p0 p1 p2 p3 =
 ifB (decide (p2 < p1))
  (bindD ((ixAt p0 p2)) fun t6 =>
  bindD ((ixAt p3 t6.1)) fun t7 =>
  bindD ((ixAt p3 t6.1)) fun t8 =>
  bindD ((ixAt p3 t6.1)) fun t9 =>
  bindD ((Go.Proofs.R.grow ((List.length t9) + (List.length (p2 :: ([] : (List Int))))))) fun t10 =>
  bindD ((ixAt p3 t6.1)) fun t11 =>
  ifB (decide (t6.1 = t6.1))
  (dag_byFrom.l3 p0 p1 (Go.IntKind.wrap Go.IntKind.i64 (p2 + (1 : Int))) (setRow p3 t6.1 (t9 ++ (p2 :: ([] : (List Int))))))
  (none))
 (some (p3, ())) := (loopAt_step Go.Proofs.C10W.ctx 68 3 _).trans (by kernel_rfl)
end Go.Proofs.C10W
