/- C06E: what the row's functions are, as the evaluator tells them. No condition. -/
import Derived.Test.YtbbikmikiefcoaaC06
import Derived.Test.YtbbikmikiefcoaaMachine4
import Derived.Test.YtbbikmikiefcoaaI06
set_option linter.unusedVariables false
set_option linter.unusedSimpArgs false
namespace Go.Proofs.C06
open Go Go.Proofs.R
set_option maxRecDepth 100000

theorem te_ok : (ctx.te.all fun p => typeB Try.prog p.1 p.2) = true := by kernel_rfl
theorem fn_ok : ∀ p ∈ ctx.fn, Try.prog.funcs[p.1]? = some p.2 := by
  intro p hp
  have hp : p ∈ fnTab := hp
  simp only [fnTab, List.mem_cons, List.not_mem_nil, or_false] at hp
  rcases hp with rfl | rfl | rfl | rfl | rfl | rfl | rfl | rfl | rfl | rfl | rfl | rfl | rfl | rfl | rfl | rfl | rfl | rfl | rfl | rfl | rfl | rfl | rfl | rfl | rfl | rfl | rfl | rfl | rfl | rfl | rfl | rfl | rfl | rfl | rfl | rfl | rfl | rfl | rfl | rfl | rfl | rfl | rfl | rfl | rfl | rfl | rfl | rfl | rfl | rfl | rfl | rfl | rfl | rfl | rfl | rfl | rfl | rfl | rfl | rfl | rfl | rfl | rfl | rfl | rfl | rfl | rfl | rfl | rfl | rfl | rfl | rfl | rfl
  · exact Try.func3
  · exact Try.func4
  · exact Try.func5
  · exact Try.func6
  · exact Try.func7
  · exact Try.func8
  · exact Try.func9
  · exact Try.func10
  · exact Try.func11
  · exact Try.func12
  · exact Try.func13
  · exact Try.func14
  · exact Try.func15
  · exact Try.func16
  · exact Try.func17
  · exact Try.func18
  · exact Try.func19
  · exact Try.func20
  · exact Try.func21
  · exact Try.func22
  · exact Try.func23
  · exact Try.func24
  · exact Try.func25
  · exact Try.func26
  · exact Try.func27
  · exact Try.func28
  · exact Try.func29
  · exact Try.func30
  · exact Try.func31
  · exact Try.func32
  · exact Try.func33
  · exact Try.func34
  · exact Try.func35
  · exact Try.func36
  · exact Try.func37
  · exact Try.func38
  · exact Try.func39
  · exact Try.func40
  · exact Try.func41
  · exact Try.func42
  · exact Try.func43
  · exact Try.func44
  · exact Try.func45
  · exact Try.func46
  · exact Try.func47
  · exact Try.func48
  · exact Try.func49
  · exact Try.func50
  · exact Try.func51
  · exact Try.func52
  · exact Try.func53
  · exact Try.func54
  · exact Try.func55
  · exact Try.func56
  · exact Try.func57
  · exact Try.func58
  · exact Try.func59
  · exact Try.func60
  · exact Try.func61
  · exact Try.func62
  · exact Try.func63
  · exact Try.func64
  · exact Try.func66
  · exact Try.func67
  · exact Try.func68
  · exact Try.func69
  · exact Try.func70
  · exact Try.func72
  · exact Try.func73
  · exact Try.func76
  · exact Try.func77
  · exact Try.func78
  · exact Try.func79
theorem fnB_ok : (ctx.fn.all fnB) = true := by kernel_rfl
theorem env1 : EnvOk Try.prog ctx := env1_ok intr_ok (by kernel_rfl) te_ok fn_ok fnB_ok
theorem gv22 {args : List AV} {r : HV (rsTys ((ctx.ret 22).flatMap (·.2)))} (h : cloneG.run args (castHV _) = some r) : CallOk Try.prog ctx 22 args r :=
  clone_ok env1 (fn := Try.f22) (T := 40) (e := 3) (t := (.int .i64)) (by kernel_rfl) Try.underlying40 (by kernel_rfl) (by kernel_rfl) (fun xs => by kernel_rfl) (by kernel_rfl) (fun xs => by kernel_rfl) h
theorem gv37 {args : List AV} {r : HV (rsTys ((ctx.ret 37).flatMap (·.2)))} (h : cloneG.run args (castHV _) = some r) : CallOk Try.prog ctx 37 args r :=
  clone_ok env1 (fn := Try.f37) (T := 56) (e := 60) (t := (.pair (.int .i64) (.int .i64))) (by kernel_rfl) Try.underlying56 (by kernel_rfl) (by kernel_rfl) (fun xs => by kernel_rfl) (by kernel_rfl) (fun xs => by kernel_rfl) h
theorem gv50 {args : List AV} {r : HV (rsTys ((ctx.ret 50).flatMap (·.2)))} (h : cloneG.run args (castHV _) = some r) : CallOk Try.prog ctx 50 args r :=
  clone_ok env1 (fn := Try.f50) (T := 27) (e := 4) (t := .bool) (by kernel_rfl) Try.underlying27 (by kernel_rfl) (by kernel_rfl) (fun xs => by kernel_rfl) (by kernel_rfl) (fun xs => by kernel_rfl) h
theorem env : EnvOk2 Try.prog ctx := by
  refine env_ok env1 fnB_ok ?_
  intro f g args r hg h
  have hm : (f, g) ∈ givenTab := lkpG_mem hg
  simp only [givenTab, List.mem_cons, List.not_mem_nil, or_false, Prod.mk.injEq] at hm
  rcases hm with ⟨rfl, rfl⟩ | ⟨rfl, rfl⟩ | ⟨rfl, rfl⟩
  · exact gv22 h
  · exact gv37 h
  · exact gv50 h
end Go.Proofs.C06
