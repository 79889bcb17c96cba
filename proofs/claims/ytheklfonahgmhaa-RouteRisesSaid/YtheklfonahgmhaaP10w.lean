/- An argument that is an array. -/
import Derived.Test.YtheklfonahgmhaaP10v
import Derived.Test.YtheklfonahgmhaaMachine4
set_option linter.unusedVariables false
set_option linter.unusedSimpArgs false
namespace Go.Proofs.R
open Go Go.RowKit
section
variable {H : Type} {enc : TypeId × Value → H} {P : Program} {w : World} {spare : Nat → Bool} {held : Bool}
def arrU : Option TypeDesc → Bool
 | some (.array _ _) => true
 | _ => false
theorem arg_arr {r : Reach} {base k : Nat} {T : TypeId} {t : Ty} (hu : arrU (P.underlying T) = true) (h : isTy P k T t = true) {v : Value} (hok : Value.okWide P w r base T v) {d : DataW H} {ps : List MemPlace} (hd : DataW.Trod enc P w 0 spare held T v d ps) :
  ∃ x : t.V, RelAV (rowRP w) (.agg (leaves t x)) v ∧ Fits t x := by
 unfold Value.okWide at hok
 split at hok
 ·obtain ⟨cs, rfl, _⟩ := hok; exact arg_agg h hd
 ·obtain ⟨cs, rfl, _⟩ := hok; exact arg_agg h hd
 ·rename_i _ hne
  unfold arrU at hu
  split at hu
  ·rename_i a b hf; exact absurd hf (hne _ _)
  ·cases hu
end
end Go.Proofs.R
