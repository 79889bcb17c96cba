/- Chapter 10's given functions do what is told of them. -/
import Derived.Test.YtheklfonahgmhaaG10
import Derived.Test.YtheklfonahgmhaaWays
import Derived.Test.YtheklfonahgmhaaC10XE
set_option linter.unusedVariables false
set_option linter.unusedSimpArgs false
namespace Go.Proofs.C10X
open Go Go.Proofs.R
theorem waysX_ok {args : List AV} {r : HV (rsTys ((ctx.ret 32).flatMap (·.2)))} (h : waysXG.run args (castHV _) = some r) : CallOk Try.prog ctx 32 args r := by
 have h : waysXR args (castHV _) = some r := h
 unfold waysXR at h
 split at h
 ·rename_i n t xs c
  simp only [Option.bind_eq_some_iff] at h
  obtain ⟨arcs, h1, h3⟩ := h
  obtain ⟨e, h4⟩ := castV_eq h1
  subst e
  simp only at h4
  subst h4
  split at h3
  ·rename_i hh
   obtain ⟨rfl, rfl, rfl⟩ := hh
   have h6 : r = ((0 : Int), ((0 : Int), ())) := by
    have h3 : castHV [.int .i64, .int .i64] [⟨.int .i64, (0 : Int)⟩, ⟨.int .i64, (0 : Int)⟩] = some r := h3
    simp only [castHV, castV_same, Option.bind_some] at h3
    exact (Option.some.inj h3).symm
   rw [h6]
   exact Einf_ok env (show (Einf ctx).call 32 _ = some ((0 : Int), ((0 : Int), ())) from ways_ex)
  ·cases h3
 ·cases h
end Go.Proofs.C10X
