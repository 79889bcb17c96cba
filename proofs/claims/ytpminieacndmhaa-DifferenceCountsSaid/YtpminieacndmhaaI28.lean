/- What slices.Reverse does with a row of numbers. No condition. -/
import Derived.Test.YtpminieacndmhaaProg
import Derived.Test.YtpminieacndmhaaC28
import Derived.Test.YtpminieacndmhaaMachine3
import Derived.Test.YtpminieacndmhaaRRev
set_option linter.unusedVariables false
set_option linter.unusedSimpArgs false
namespace Go.Proofs.C28
open Go Go.Proofs.R
open Go.Shelf

def revRen : Ren := ⟨fun | 35 => 67 | n => n, fun | 22 => 28 | 23 => 3 | n => n, fun n => n⟩
theorem laysRev : SlLaysE.n35 Try.prog revRen := {
  mixed := by kernel_rfl
  f35 := ⟨Try.f67.name, by decide, Try.func67.trans (congrArg some (by kernel_rfl))⟩
  t0 := Try.underlying0
  a0 := Try.isAgg0
  z0 := Try.sizeOf0
  v0 := Try.zeroValue0
  t3 := Try.underlying3
  a3 := Try.isAgg3
  z3 := Try.sizeOf3
  v3 := Try.zeroValue3
  t4 := Try.underlying4
  a4 := Try.isAgg4
  z4 := Try.sizeOf4
  v4 := Try.zeroValue4
  t22 := Try.underlying28
  a22 := Try.isAgg28
  z22 := Try.sizeOf28
  v22 := Try.zeroValue28
  a23 := Try.isAgg3
  z23 := Try.sizeOf3 }

theorem rev_ok : IntrOk Try.prog 67 (.rev 28) := rev_intr laysRev 28

theorem intr_ok : ∀ f k, ctx.intr f = some k → (∀ args w, (callFunc f args).run Try.prog w = .ok (.enter f args) w) ∧ IntrOk Try.prog f k := by
  intro f k h
  have hm : (f, k) ∈ intrTab := lkpI_mem h
  simp only [intrTab, List.mem_cons, List.not_mem_nil, or_false, Prod.mk.injEq] at hm
  obtain ⟨rfl, rfl⟩ := hm
  exact ⟨enters_of Try.func67 (by kernel_rfl) rfl, rev_ok⟩
end Go.Proofs.C28
