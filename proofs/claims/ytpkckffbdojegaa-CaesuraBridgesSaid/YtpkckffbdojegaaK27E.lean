/- K27E: what the row's functions are, as the evaluator tells them. No condition. -/
import Derived.Test.YtpkckffbdojegaaK27
import Derived.Test.YtpkckffbdojegaaMachine4
import Derived.Test.YtpkckffbdojegaaI27k
set_option linter.unusedVariables false
set_option linter.unusedSimpArgs false
namespace Go.Proofs.K27
open Go Go.Proofs.R
set_option maxRecDepth 100000

theorem te_ok : (ctx.te.all fun p => typeB Try.prog p.1 p.2) = true := by kernel_rfl
theorem fn_ok : ∀ p ∈ ctx.fn, Try.prog.funcs[p.1]? = some p.2 := by
  intro p hp
  have hp : p ∈ fnTab := hp
  simp only [fnTab, List.mem_cons, List.not_mem_nil, or_false] at hp
  rcases hp with rfl | rfl | rfl | rfl | rfl | rfl | rfl | rfl | rfl | rfl | rfl | rfl | rfl | rfl | rfl | rfl | rfl | rfl | rfl | rfl | rfl | rfl | rfl | rfl | rfl | rfl | rfl | rfl | rfl | rfl | rfl | rfl | rfl | rfl
  · exact Try.func7
  · exact Try.func11
  · exact Try.func15
  · exact Try.func16
  · exact Try.func17
  · exact Try.func23
  · exact Try.func26
  · exact Try.func27
  · exact Try.func28
  · exact Try.func29
  · exact Try.func30
  · exact Try.func31
  · exact Try.func32
  · exact Try.func33
  · exact Try.func50
  · exact Try.func51
  · exact Try.func52
  · exact Try.func53
  · exact Try.func54
  · exact Try.func61
  · exact Try.func62
  · exact Try.func63
  · exact Try.func64
  · exact Try.func65
  · exact Try.func66
  · exact Try.func67
  · exact Try.func68
  · exact Try.func69
  · exact Try.func70
  · exact Try.func91
  · exact Try.func93
  · exact Try.func94
  · exact Try.func116
  · exact Try.func146
theorem fnB_ok : (ctx.fn.all fnB) = true := by kernel_rfl
theorem env1 : EnvOk Try.prog ctx := env1_ok intr_ok (by kernel_rfl) te_ok fn_ok fnB_ok
theorem env : EnvOk2 Try.prog ctx := by
  refine env_ok env1 fnB_ok ?_
  intro f g args r hg h
  have hm : (f, g) ∈ givenTab := lkpG_mem hg
  exact absurd hm (by simp [givenTab])
end Go.Proofs.K27
