/- RouteRises: the law returns true for every input, and its arguments read as before. No condition. -/
import Derived.Test.YtheklfonahgmhaaRows
import Derived.Test.YtheklfonahgmhaaC10E
import Derived.Test.YtheklfonahgmhaaP10w
import Derived.Test.YtheklfonahgmhaaMachine4
import Derived.WalkKit
import Derived.ProofKit
import Derived.OpenShut
import Derived.ShutString
import Derived.ChangeOld
import Derived.Below
import Derived.SizedLaws
set_option linter.unusedVariables false
set_option linter.unusedSimpArgs false
namespace Go.Proofs.Ytheklfonahgmhaa.routeRises
open Go.ChangeShapes Go.WideShapes Go.ChangeAt Go.RowKit
open Go.ChangeMaps (open_string shut_string)
set_option linter.unusedVariables false
theorem own : ownKnob Try.prog.godebug = none := by kernel_rfl
theorem laidOut : laidOutB Try.prog = true := by kernel_rfl
set_option maxRecDepth 100000 in
theorem lifted (os : Os) (started : os.Started) (H : Type) (enc : TypeId × Value → H) :
  ReturnsInHanded {} Try.checked os 8 .any (Rows.routeRisesSpec.pre6 enc Try.prog Try.f8 Rows.routeRisesRow.domain false) (Rows.routeRisesSpec.post enc Try.prog Try.f8 false true false false) := by
 refine returnsInHanded_of_change_sized (C := Try.checked) own started (by kernel_rfl) Try.func8
  (ChangeSpec.witness6 (enc := enc) (C := Try.checked) false ⟨#[], #[(.int .u8 0), (.slice none 0 0), .agg #[(.int .u8 0), (.int .u8 0)]], []⟩ 8 (by kernel_rfl) (by kernel_rfl) (by kernel_rfl) (by kernel_rfl)) ?_
 intro W base args ds gs before hval0 hW hcnd hsz0 _
 have hval : ∀ (j : Nat) t v, Try.f8.params[j]? = some t → args[j]? = some v → Value.okWide Try.prog W .any base t v := hval0
 have hW' := hW
 obtain ⟨p, q, hA0, hV, rfl, hfz, hnd⟩ := hW
 have hA : DataW.TrodAll enc Try.prog W 0 (fun _ => true) true Try.f8.params.toList args.toList ds p := hA0
 rw [Try.params8] at hA hval
 obtain ⟨v0, vs0, d0, ds0, p0, q0, hargs, rfl, rfl, h0, r0⟩ := trodAll_cons hA
 obtain ⟨v1, vs1, d1, ds1, p1, q1, rfl, rfl, rfl, h1, r1⟩ := trodAll_cons r0
 obtain ⟨v2, vs2, d2, ds2, p2, q2, rfl, rfl, rfl, h2, r2⟩ := trodAll_cons r1
 obtain ⟨rfl, rfl, rfl⟩ := trodAll_nil r2
 obtain rfl : args = #[v0, v1, v2] := by cases args; simp_all
 obtain ⟨rfl, rfl⟩ := trodVars_none hV
 have k0 := h0
 have lt0 : ∀ x ∈ p0, x.block < W.heap.size := by obtain ⟨m, hm⟩ := k0; exact DataW.trod_lt m _ _ _ hm
 obtain ⟨x0, w0, y0⟩ := R.arg_plain (k := 12) (t := (.int .u8)) (by kernel_rfl) (by kernel_rfl) (hval 0 5 v0 rfl rfl) h0 (fun x => ⟨_, rfl⟩)
 have k1 := h1
 have lt1 : ∀ x ∈ p1, x.block < W.heap.size := by obtain ⟨m, hm⟩ := k1; exact DataW.trod_lt m _ _ _ hm
 obtain ⟨x1, w1, y1⟩ := R.arg_plain (k := 12) (t := (.sl (.int .u16))) (by kernel_rfl) (by kernel_rfl) (hval 1 45 v1 rfl rfl) h1 (fun x => ⟨_, rfl⟩)
 have k2 := h2
 have lt2 : ∀ x ∈ p2, x.block < W.heap.size := by obtain ⟨m, hm⟩ := k2; exact DataW.trod_lt m _ _ _ hm
 obtain ⟨x2, w2, y2⟩ := R.arg_arr (k := 12) (t := (.arr 2 (.int .u8))) (by kernel_rfl) (by kernel_rfl) (hval 2 50 v2 rfl rfl) h2
 clear hA0 hval0 hsz0
 have hpure := C10.law_rises x0 x1 x2 (C10.fits_u8 y0) (fun c hc => C10.fits_u16 (y1.2 c hc)) y2.1 (fun c hc => C10.fits_u8 (y2.2 c hc))
 refine (R.law_walk (R.Einf_ok C10.env hpure) (vs := #[v0, v1, v2]) (w := W) ⟨_, _, rfl, w0, _, _, rfl, w1, _, [], rfl, w2, rfl⟩ (fun p sh cs ws ns h1 h2 => R.bool_ret h1 h2)).mono fun E W' ⟨he, bel⟩ => ?_
 subst he
 exact ⟨_, rfl, _, _, _, [], _, [], hW', trodAll_mk1 (shut_bool Try.underlying4 _), (trodAll_cons_mk (Below.trod laidOut (by kernel_rfl) (of_decide_eq_true (by kernel_rfl)) k0 bel lt0) (trodAll_cons_mk (Below.trod laidOut (by kernel_rfl) (of_decide_eq_true (by kernel_rfl)) k1 bel lt1) (trodAll_cons_mk (Below.trod laidOut (by kernel_rfl) (of_decide_eq_true (by kernel_rfl)) k2 bel lt2) trodAll_mk0))), rfl, bel.frame _, fun h => by cases h⟩
theorem over : Rows.routeRisesRow.holds Try.pinned (OpenSpec.ofChange Rows.routeRisesSpec) :=
 OpenClaim.holds_of_wide 8 Try.f8 rfl rfl rfl rfl rfl rfl rfl ⟨rfl, rfl, rfl, rfl, rfl⟩ rfl rfl rfl rfl rfl (by kernel_rfl) Try.func8 (by kernel_rfl)
  (of_decide_eq_true (by kernel_rfl)) (by unfold Func.isWrapper; first | (rw [if_pos (by decide +kernel)]; kernel_rfl) | (rw [if_neg (by decide +kernel)]; exact ⟨rfl, rfl⟩))
  (fun os started H enc _ => lifted os started H enc)
theorem proved : Rows.RouteRisesSaid := over
end Go.Proofs.Ytheklfonahgmhaa.routeRises
