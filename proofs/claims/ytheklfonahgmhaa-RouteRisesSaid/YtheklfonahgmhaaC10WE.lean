/- C10WE: what the row's functions are, as the evaluator tells them. No condition. -/
import Derived.Test.YtheklfonahgmhaaC10W
import Derived.Test.YtheklfonahgmhaaMachine4
set_option linter.unusedVariables false
set_option linter.unusedSimpArgs false
namespace Go.Proofs.C10W
open Go Go.Proofs.R
set_option maxRecDepth 100000
theorem te_ok : (ctx.te.all fun p => typeB Try.prog p.1 p.2) = true := by kernel_rfl
theorem fn_ok : ∀ p ∈ ctx.fn, Try.prog.funcs[p.1]? = some p.2 := by
 intro p hp
 have hp : p ∈ fnTab := hp
 simp only [fnTab, List.mem_cons, List.not_mem_nil, or_false] at hp
 rcases hp with rfl | rfl | rfl | rfl | rfl
 ·exact Try.func67
 ·exact Try.func68
 ·exact Try.func77
 ·exact Try.func78
 ·exact Try.func91
theorem fnB_ok : (ctx.fn.all fnB) = true := by kernel_rfl
theorem env1 : EnvOk Try.prog ctx := env1_ok (fun f k h => by cases h) (by kernel_rfl) te_ok fn_ok fnB_ok
theorem env : EnvOk2 Try.prog ctx := by
 refine env_ok env1 fnB_ok ?_
 intro f g args r hg h
 have hm : (f, g) ∈ givenTab := lkpG_mem hg
 exact absurd hm (by simp [givenTab])
end Go.Proofs.C10W
