/- Q27E: what the row's functions are, as the evaluator tells them. No condition. -/
import Derived.Test.YtpkckffbdojegaaQ27
import Derived.Test.YtpkckffbdojegaaMachine3
import Derived.Test.YtpkckffbdojegaaI27q
set_option linter.unusedVariables false
set_option linter.unusedSimpArgs false
namespace Go.Proofs.Q27
open Go Go.Proofs.R
set_option maxRecDepth 100000

theorem te_ok : (ctx.te.all fun p => typeB Try.prog p.1 p.2) = true := by kernel_rfl
theorem fn_ok : ∀ p ∈ ctx.fn, Try.prog.funcs[p.1]? = some p.2 := by
  intro p hp
  have hp : p ∈ fnTab := hp
  simp only [fnTab, List.mem_cons, List.not_mem_nil, or_false] at hp
  rcases hp with rfl | rfl | rfl | rfl | rfl | rfl | rfl | rfl | rfl | rfl | rfl | rfl | rfl | rfl | rfl | rfl | rfl | rfl | rfl | rfl | rfl | rfl | rfl | rfl | rfl | rfl
  · exact Try.func8
  · exact Try.func11
  · exact Try.func15
  · exact Try.func16
  · exact Try.func17
  · exact Try.func19
  · exact Try.func23
  · exact Try.func31
  · exact Try.func34
  · exact Try.func35
  · exact Try.func36
  · exact Try.func50
  · exact Try.func51
  · exact Try.func52
  · exact Try.func53
  · exact Try.func54
  · exact Try.func55
  · exact Try.func57
  · exact Try.func62
  · exact Try.func69
  · exact Try.func71
  · exact Try.func72
  · exact Try.func74
  · exact Try.func75
  · exact Try.func91
  · exact Try.func96
theorem fnB_ok : (ctx.fn.all fnB) = true := by kernel_rfl
theorem env1 : EnvOk Try.prog ctx := env1_ok intr_ok (by kernel_rfl) te_ok fn_ok fnB_ok
theorem gv19 {args : List AV} {r : HV (rsTys ((ctx.ret 19).flatMap (·.2)))} (h : cloneG.run args (castHV _) = some r) : CallOk Try.prog ctx 19 args r :=
  clone_ok env1 (fn := Try.f19) (T := 38) (e := 3) (t := (.int .i64)) (by kernel_rfl) Try.underlying38 (by kernel_rfl) (by kernel_rfl) (fun xs => by kernel_rfl) (by kernel_rfl) (fun xs => by kernel_rfl) h
theorem gv34 {args : List AV} {r : HV (rsTys ((ctx.ret 34).flatMap (·.2)))} (h : cloneG.run args (castHV _) = some r) : CallOk Try.prog ctx 34 args r :=
  clone_ok env1 (fn := Try.f34) (T := 68) (e := 38) (t := (.sl (.int .i64))) (by kernel_rfl) Try.underlying68 (by kernel_rfl) (by kernel_rfl) (fun xs => by kernel_rfl) (by kernel_rfl) (fun xs => by kernel_rfl) h
theorem env : EnvOk2 Try.prog ctx := by
  refine env_ok env1 fnB_ok ?_
  intro f g args r hg h
  have hm : (f, g) ∈ givenTab := lkpG_mem hg
  simp only [givenTab, List.mem_cons, List.not_mem_nil, or_false, Prod.mk.injEq] at hm
  rcases hm with ⟨rfl, rfl⟩ | ⟨rfl, rfl⟩
  · exact gv19 h
  · exact gv34 h
end Go.Proofs.Q27
