/- CaesuraBridges: the law returns true for every input, and its arguments read as before. No condition. -/
import Derived.Test.YtpkckffbdojegaaRows
import Derived.Test.YtpkckffbdojegaaK27E
import Derived.Test.YtpkckffbdojegaaP27y
import Derived.Test.YtpkckffbdojegaaROpenW
import Derived.WalkKit
import Derived.ProofKit
import Derived.OpenShut
import Derived.ShutString
import Derived.ChangeOld
import Derived.Below
import Derived.SizedLaws
set_option linter.unusedVariables false
set_option linter.unusedSimpArgs false
namespace Go.Proofs.Ytpkckffbdojegaa.caesuraBridges
open Go.ChangeShapes Go.WideShapes Go.ChangeAt Go.RowKit
open Go.ChangeMaps (open_string shut_string)
set_option linter.unusedVariables false
theorem own : ownKnob Try.prog.godebug = none := by kernel_rfl
theorem laidOut : laidOutB Try.prog = true := by kernel_rfl
set_option maxRecDepth 100000 in
theorem lifted (os : Os) (started : os.Started) (H : Type) (enc : TypeId × Value → H) :
    ReturnsInHanded {} Try.checked os 7 .any (Rows.caesuraBridgesSpec.pre6 enc Try.prog Try.f7 Rows.caesuraBridgesRow.domain false) (Rows.caesuraBridgesSpec.post enc Try.prog Try.f7 false true false false) := by
  refine returnsInHanded_of_change_sized (C := Try.checked) own started (by kernel_rfl) Try.func7
    (ChangeSpec.witness6 (enc := enc) (C := Try.checked) false ⟨#[], #[.agg #[(.int .i64 0), (.int .i64 0), (.slice none 0 0), (.slice none 0 0)], (.int .i64 0)], []⟩ 8 (by kernel_rfl) (by kernel_rfl) (by kernel_rfl) (by kernel_rfl)) ?_
  intro W base args ds gs before hval0 hW hcnd hsz0 _
  have hval : ∀ (j : Nat) t v, Try.f7.params[j]? = some t → args[j]? = some v → Value.okWide Try.prog W .any base t v := hval0
  have hW' := hW
  obtain ⟨p, q, hA0, hV, rfl, hfz, hnd⟩ := hW
  have hA : DataW.TrodAll enc Try.prog W 0 (fun _ => true) true Try.f7.params.toList args.toList ds p := hA0
  rw [Try.params7] at hA hval
  obtain ⟨v0, vs0, d0, ds0, p0, q0, hargs, rfl, rfl, h0, r0⟩ := trodAll_cons hA
  obtain ⟨v1, vs1, d1, ds1, p1, q1, rfl, rfl, rfl, h1, r1⟩ := trodAll_cons r0
  obtain ⟨rfl, rfl, rfl⟩ := trodAll_nil r1
  obtain rfl : args = #[v0, v1] := by cases args; simp_all
  obtain ⟨rfl, rfl⟩ := trodVars_none hV
  have k0 := h0
  have lt0 : ∀ x ∈ p0, x.block < W.heap.size := by obtain ⟨m, hm⟩ := k0; exact DataW.trod_lt m _ _ _ hm
  have z0 : ∀ n ∈ d0.weights Try.prog 71, n ≤ reachBytes := R.weights_at hsz0 (j := 0) (by kernel_rfl) rfl
  obtain ⟨x0, w0, y0⟩ := R.arg_structW (k := 12) (t := (.pair (.int .i64) (.pair (.int .i64) (.pair (.sl (.sl (.int .i64))) (.sl .bool))))) (by kernel_rfl) (by kernel_rfl) (by kernel_rfl) (hval 0 71 v0 rfl rfl) h0 z0
  have k1 := h1
  have lt1 : ∀ x ∈ p1, x.block < W.heap.size := by obtain ⟨m, hm⟩ := k1; exact DataW.trod_lt m _ _ _ hm
  have z1 : ∀ n ∈ d1.weights Try.prog 3, n ≤ reachBytes := R.weights_at hsz0 (j := 1) (by kernel_rfl) rfl
  obtain ⟨x1, w1, y1⟩ := R.arg_plainW (k := 12) (t := (.int .i64)) (by kernel_rfl) (by kernel_rfl) (by kernel_rfl) (hval 1 3 v1 rfl rfl) h1 z1 (fun x => ⟨_, rfl⟩)
  clear hA0 hval0 hsz0
  have hpure := K27.bridges_law x0.1 x0.2.1 x0.2.2.1 x0.2.2.2 x1 (fun r hr => (y0.2.2.2.1.2 r hr).1)
  refine (R.law_walk (R.Einf_ok K27.env hpure) (vs := #[v0, v1]) (w := W) ⟨_, _, rfl, w0, _, [], rfl, w1, rfl⟩ (fun p sh cs ws ns h1 h2 => R.bool_ret h1 h2)).mono fun E W' ⟨he, bel⟩ => ?_
  subst he
  exact ⟨_, rfl, _, _, _, [], _, [], hW', trodAll_mk1 (shut_bool Try.underlying4 _), (trodAll_cons_mk (Below.trod laidOut (by kernel_rfl) (of_decide_eq_true (by kernel_rfl)) k0 bel lt0) (trodAll_cons_mk (Below.trod laidOut (by kernel_rfl) (of_decide_eq_true (by kernel_rfl)) k1 bel lt1) trodAll_mk0)), rfl, bel.frame _, fun h => by cases h⟩
theorem over : Rows.caesuraBridgesRow.holds Try.pinned (OpenSpec.ofChange Rows.caesuraBridgesSpec) :=
  OpenClaim.holds_of_wide 7 Try.f7 rfl rfl rfl rfl rfl rfl rfl ⟨rfl, rfl, rfl, rfl, rfl⟩ rfl rfl rfl rfl rfl (by kernel_rfl) Try.func7 (by kernel_rfl)
    (of_decide_eq_true (by kernel_rfl)) (by unfold Func.isWrapper; first | (rw [if_pos (by decide +kernel)]; kernel_rfl) | (rw [if_neg (by decide +kernel)]; exact ⟨rfl, rfl⟩))
    (fun os started H enc _ => lifted os started H enc)
theorem proved : Rows.CaesuraBridgesSaid := over
end Go.Proofs.Ytpkckffbdojegaa.caesuraBridges
