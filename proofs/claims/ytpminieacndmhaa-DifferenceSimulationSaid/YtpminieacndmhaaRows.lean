/-
  No cell of these rows narrows 'for every input' (looked for: loops, veiled, ifaces, maps, wideKeys, modest, calm, conditions, laid).
  DERIVED. THE GIVEN ROWS OF THIS SEAT. 8 by the template 'for every input the law returns true; each argument reads behind the call as it read before'; 0 by the template 'total and deterministic' (their statements: YtpminieacndmhaaTotals.lean).
  GIVEN WITH THE SEED: the statements are not yours to turn. If you find one false, say at which input.
  Laid BY PROGRAM, IN A SANDBOX (cutbox-rows.mjs): the forced cells as the released guide's own fill.sh prints them over the translation a15517b0f67d22a9… (all of the seat's roots in one cut). By AI agents, Wed Nov 11 2026. No macro, syntax, notation, axiom, sorry.
-/
import Derived.Test.YtpminieacndmhaaChecked
import GoSem.Claim
import GoSem.ClaimJoined
import GoSem.ClaimMapViews
import Derived.JoinedTies
import Derived.KernelRfl
namespace Go.Proofs.Ytpminieacndmhaa
/- THE CELL 'sum', in the pinned program and in every row, IS THE sha256 OF THE DUMP (.gsa) THAT YtpminieacndmhaaProg.lean LOADS. Nothing in Lean hashes anything: it is a label: what it is worth is what the hold of that sum in a sandbox is worth. -/
noncomputable def Try.pinned : Pinned := { name := "ytpminieacndmhaa", sum := "a15517b0f67d22a94592fdf7a3ec575696baee3a6f6e10a1768d436459d5f77b", checked := Try.checked }
namespace Rows
def none {H : Type} : Left H := { results := [], args := [] }

/-- 'ancepslaw28.DifferenceCompare': WHATEVER THE INPUT: true; the input reads as it did. -/
def differenceCompareSpec : ChangeSpec := { name := "differenceCompare", fn := fun _ => fun
  | [d1, d2, d3] => { results := [.lit (.bool true)], args := [d1, d2, d3] }
  | _ => none }
def differenceCompareRow : OpenClaim := { program := "ytpminieacndmhaa", sum := "a15517b0f67d22a94592fdf7a3ec575696baee3a6f6e10a1768d436459d5f77b", func := "anceps/ancepslaw28.DifferenceCompare", spec := "differenceCompare", unfollowed := true, recurses := true, plainKeys := false, apart := false }
def DifferenceCompareSaid : Prop := differenceCompareRow.holds Try.pinned (OpenSpec.ofChange differenceCompareSpec)

/-- ITS FALSE NEIGHBOUR: 'it returns false'. Refute it at one input. -/
def differenceCompareWrong : ChangeSpec := { name := "differenceCompare", fn := fun _ => fun
  | [d1, d2, d3] => { results := [.lit (.bool false)], args := [d1, d2, d3] }
  | _ => none }
def DifferenceCompareWrongFalsely : Prop := differenceCompareRow.holds Try.pinned (OpenSpec.ofChange differenceCompareWrong)

/-- 'ancepslaw28.DifferenceOrder': WHATEVER THE INPUT: true; the input reads as it did. -/
def differenceOrderSpec : ChangeSpec := { name := "differenceOrder", fn := fun _ => fun
  | [d1, d2, d3] => { results := [.lit (.bool true)], args := [d1, d2, d3] }
  | _ => none }
def differenceOrderRow : OpenClaim := { program := "ytpminieacndmhaa", sum := "a15517b0f67d22a94592fdf7a3ec575696baee3a6f6e10a1768d436459d5f77b", func := "anceps/ancepslaw28.DifferenceOrder", spec := "differenceOrder", unfollowed := true, recurses := true, plainKeys := false, apart := false }
def DifferenceOrderSaid : Prop := differenceOrderRow.holds Try.pinned (OpenSpec.ofChange differenceOrderSpec)

/-- ITS FALSE NEIGHBOUR: 'it returns false'. Refute it at one input. -/
def differenceOrderWrong : ChangeSpec := { name := "differenceOrder", fn := fun _ => fun
  | [d1, d2, d3] => { results := [.lit (.bool false)], args := [d1, d2, d3] }
  | _ => none }
def DifferenceOrderWrongFalsely : Prop := differenceOrderRow.holds Try.pinned (OpenSpec.ofChange differenceOrderWrong)

/-- 'ancepslaw28.DifferenceSame': WHATEVER THE INPUT: true; the input reads as it did. -/
def differenceSameSpec : ChangeSpec := { name := "differenceSame", fn := fun _ => fun
  | [d1, d2] => { results := [.lit (.bool true)], args := [d1, d2] }
  | _ => none }
def differenceSameRow : OpenClaim := { program := "ytpminieacndmhaa", sum := "a15517b0f67d22a94592fdf7a3ec575696baee3a6f6e10a1768d436459d5f77b", func := "anceps/ancepslaw28.DifferenceSame", spec := "differenceSame", unfollowed := true, recurses := true, plainKeys := false, apart := false }
def DifferenceSameSaid : Prop := differenceSameRow.holds Try.pinned (OpenSpec.ofChange differenceSameSpec)

/-- ITS FALSE NEIGHBOUR: 'it returns false'. Refute it at one input. -/
def differenceSameWrong : ChangeSpec := { name := "differenceSame", fn := fun _ => fun
  | [d1, d2] => { results := [.lit (.bool false)], args := [d1, d2] }
  | _ => none }
def DifferenceSameWrongFalsely : Prop := differenceSameRow.holds Try.pinned (OpenSpec.ofChange differenceSameWrong)

/-- 'ancepslaw28.DifferenceTells': WHATEVER THE INPUT: true; the input reads as it did. -/
def differenceTellsSpec : ChangeSpec := { name := "differenceTells", fn := fun _ => fun
  | [d1, d2] => { results := [.lit (.bool true)], args := [d1, d2] }
  | _ => none }
def differenceTellsRow : OpenClaim := { program := "ytpminieacndmhaa", sum := "a15517b0f67d22a94592fdf7a3ec575696baee3a6f6e10a1768d436459d5f77b", func := "anceps/ancepslaw28.DifferenceTells", spec := "differenceTells", unfollowed := true, recurses := true, plainKeys := false, apart := false }
def DifferenceTellsSaid : Prop := differenceTellsRow.holds Try.pinned (OpenSpec.ofChange differenceTellsSpec)

/-- ITS FALSE NEIGHBOUR: 'it returns false'. Refute it at one input. -/
def differenceTellsWrong : ChangeSpec := { name := "differenceTells", fn := fun _ => fun
  | [d1, d2] => { results := [.lit (.bool false)], args := [d1, d2] }
  | _ => none }
def DifferenceTellsWrongFalsely : Prop := differenceTellsRow.holds Try.pinned (OpenSpec.ofChange differenceTellsWrong)

/-- 'ancepslaw28.DifferenceCheck': WHATEVER THE INPUT: true; the input reads as it did. -/
def differenceCheckSpec : ChangeSpec := { name := "differenceCheck", fn := fun _ => fun
  | [d1, d2, d3] => { results := [.lit (.bool true)], args := [d1, d2, d3] }
  | _ => none }
def differenceCheckRow : OpenClaim := { program := "ytpminieacndmhaa", sum := "a15517b0f67d22a94592fdf7a3ec575696baee3a6f6e10a1768d436459d5f77b", func := "anceps/ancepslaw28.DifferenceCheck", spec := "differenceCheck", unfollowed := true, recurses := true, plainKeys := false, apart := false }
def DifferenceCheckSaid : Prop := differenceCheckRow.holds Try.pinned (OpenSpec.ofChange differenceCheckSpec)

/-- ITS FALSE NEIGHBOUR: 'it returns false'. Refute it at one input. -/
def differenceCheckWrong : ChangeSpec := { name := "differenceCheck", fn := fun _ => fun
  | [d1, d2, d3] => { results := [.lit (.bool false)], args := [d1, d2, d3] }
  | _ => none }
def DifferenceCheckWrongFalsely : Prop := differenceCheckRow.holds Try.pinned (OpenSpec.ofChange differenceCheckWrong)

/-- 'ancepslaw28.DifferenceCommon': WHATEVER THE INPUT: true; the input reads as it did. -/
def differenceCommonSpec : ChangeSpec := { name := "differenceCommon", fn := fun _ => fun
  | [d1, d2, d3] => { results := [.lit (.bool true)], args := [d1, d2, d3] }
  | _ => none }
def differenceCommonRow : OpenClaim := { program := "ytpminieacndmhaa", sum := "a15517b0f67d22a94592fdf7a3ec575696baee3a6f6e10a1768d436459d5f77b", func := "anceps/ancepslaw28.DifferenceCommon", spec := "differenceCommon", unfollowed := true, recurses := true, plainKeys := false, apart := false }
def DifferenceCommonSaid : Prop := differenceCommonRow.holds Try.pinned (OpenSpec.ofChange differenceCommonSpec)

/-- ITS FALSE NEIGHBOUR: 'it returns false'. Refute it at one input. -/
def differenceCommonWrong : ChangeSpec := { name := "differenceCommon", fn := fun _ => fun
  | [d1, d2, d3] => { results := [.lit (.bool false)], args := [d1, d2, d3] }
  | _ => none }
def DifferenceCommonWrongFalsely : Prop := differenceCommonRow.holds Try.pinned (OpenSpec.ofChange differenceCommonWrong)

/-- 'ancepslaw28.DifferenceCounts': WHATEVER THE INPUT: true; the input reads as it did. -/
def differenceCountsSpec : ChangeSpec := { name := "differenceCounts", fn := fun _ => fun
  | [d1, d2, d3] => { results := [.lit (.bool true)], args := [d1, d2, d3] }
  | _ => none }
def differenceCountsRow : OpenClaim := { program := "ytpminieacndmhaa", sum := "a15517b0f67d22a94592fdf7a3ec575696baee3a6f6e10a1768d436459d5f77b", func := "anceps/ancepslaw28.DifferenceCounts", spec := "differenceCounts", unfollowed := true, recurses := true, plainKeys := false, apart := false }
def DifferenceCountsSaid : Prop := differenceCountsRow.holds Try.pinned (OpenSpec.ofChange differenceCountsSpec)

/-- ITS FALSE NEIGHBOUR: 'it returns false'. Refute it at one input. -/
def differenceCountsWrong : ChangeSpec := { name := "differenceCounts", fn := fun _ => fun
  | [d1, d2, d3] => { results := [.lit (.bool false)], args := [d1, d2, d3] }
  | _ => none }
def DifferenceCountsWrongFalsely : Prop := differenceCountsRow.holds Try.pinned (OpenSpec.ofChange differenceCountsWrong)

/-- 'ancepslaw28.DifferenceSimulation': WHATEVER THE INPUT: true; the input reads as it did. -/
def differenceSimulationSpec : ChangeSpec := { name := "differenceSimulation", fn := fun _ => fun
  | [d1, d2] => { results := [.lit (.bool true)], args := [d1, d2] }
  | _ => none }
def differenceSimulationRow : OpenClaim := { program := "ytpminieacndmhaa", sum := "a15517b0f67d22a94592fdf7a3ec575696baee3a6f6e10a1768d436459d5f77b", func := "anceps/ancepslaw28.DifferenceSimulation", spec := "differenceSimulation", unfollowed := true, recurses := true, plainKeys := false, apart := false }
def DifferenceSimulationSaid : Prop := differenceSimulationRow.holds Try.pinned (OpenSpec.ofChange differenceSimulationSpec)

/-- ITS FALSE NEIGHBOUR: 'it returns false'. Refute it at one input. -/
def differenceSimulationWrong : ChangeSpec := { name := "differenceSimulation", fn := fun _ => fun
  | [d1, d2] => { results := [.lit (.bool false)], args := [d1, d2] }
  | _ => none }
def DifferenceSimulationWrongFalsely : Prop := differenceSimulationRow.holds Try.pinned (OpenSpec.ofChange differenceSimulationWrong)

/- THE SECOND FORM. 'bulk': how many values and letters a reading holds, each counted each time it is reached (what is shared counts as often as it is met; a slice's spare places count too). A statement '..UptoSaid' is the law's where the arguments, and the package variables that the reading takes, are together of bulk at most 1048576: NARROWER than '..Said'. Prove '..Said' where nothing that the law and all that it calls make is longer than what came in: it says more and counts as full. Else prove '..UptoSaid'. A law counts once. -/
mutual
def uptoBulk {H : Type} : DataW H → Nat
  | .lit (.string bytes) => bytes.length + 1
  | .lit _ => 1
  | .nil => 1
  | .ptr d => uptoBulk d + 1
  | .slice elems spare => uptoBulkAll elems + uptoBulkAll spare + 1
  | .agg parts => uptoBulkAll parts + 1
  | .iface _ d => uptoBulk d + 1
  | .map entries => uptoBulkEntries entries + 1
  | .held _ => 1
def uptoBulkAll {H : Type} : List (DataW H) → Nat
  | [] => 0
  | d :: r => uptoBulk d + uptoBulkAll r
def uptoBulkEntries {H : Type} : List (Lit × DataW H) → Nat
  | [] => 0
  | x :: r => uptoBulkEntry x + uptoBulkEntries r
def uptoBulkEntry {H : Type} : Lit × DataW H → Nat
  | (.string bytes, d) => bytes.length + uptoBulk d + 1
  | (_, d) => uptoBulk d + 1
 end
def uptoSmall : (H : Type) → List (DataW H) → Bool := fun _ ds => decide (uptoBulkAll ds ≤ 1048576)
def OpenSpec.upto (s : _root_.Go.ChangeSpec) : _root_.Go.OpenSpec := { _root_.Go.OpenSpec.ofChange s with cond := some uptoSmall }

/-- 'ancepslaw28.DifferenceCompare', WHERE WHAT IT READS IS OF BULK AT MOST 1048576: true; the input reads as it did. -/
def differenceCompareUptoRow : OpenClaim := { program := "ytpminieacndmhaa", sum := "a15517b0f67d22a94592fdf7a3ec575696baee3a6f6e10a1768d436459d5f77b", func := "anceps/ancepslaw28.DifferenceCompare", spec := "differenceCompare", unfollowed := true, recurses := true, plainKeys := false, apart := false, narrowed := true }
def DifferenceCompareUptoSaid : Prop := differenceCompareUptoRow.holds Try.pinned (OpenSpec.upto differenceCompareSpec)

/-- 'ancepslaw28.DifferenceOrder', WHERE WHAT IT READS IS OF BULK AT MOST 1048576: true; the input reads as it did. -/
def differenceOrderUptoRow : OpenClaim := { program := "ytpminieacndmhaa", sum := "a15517b0f67d22a94592fdf7a3ec575696baee3a6f6e10a1768d436459d5f77b", func := "anceps/ancepslaw28.DifferenceOrder", spec := "differenceOrder", unfollowed := true, recurses := true, plainKeys := false, apart := false, narrowed := true }
def DifferenceOrderUptoSaid : Prop := differenceOrderUptoRow.holds Try.pinned (OpenSpec.upto differenceOrderSpec)

/-- 'ancepslaw28.DifferenceSame', WHERE WHAT IT READS IS OF BULK AT MOST 1048576: true; the input reads as it did. -/
def differenceSameUptoRow : OpenClaim := { program := "ytpminieacndmhaa", sum := "a15517b0f67d22a94592fdf7a3ec575696baee3a6f6e10a1768d436459d5f77b", func := "anceps/ancepslaw28.DifferenceSame", spec := "differenceSame", unfollowed := true, recurses := true, plainKeys := false, apart := false, narrowed := true }
def DifferenceSameUptoSaid : Prop := differenceSameUptoRow.holds Try.pinned (OpenSpec.upto differenceSameSpec)

/-- 'ancepslaw28.DifferenceTells', WHERE WHAT IT READS IS OF BULK AT MOST 1048576: true; the input reads as it did. -/
def differenceTellsUptoRow : OpenClaim := { program := "ytpminieacndmhaa", sum := "a15517b0f67d22a94592fdf7a3ec575696baee3a6f6e10a1768d436459d5f77b", func := "anceps/ancepslaw28.DifferenceTells", spec := "differenceTells", unfollowed := true, recurses := true, plainKeys := false, apart := false, narrowed := true }
def DifferenceTellsUptoSaid : Prop := differenceTellsUptoRow.holds Try.pinned (OpenSpec.upto differenceTellsSpec)

/-- 'ancepslaw28.DifferenceCheck', WHERE WHAT IT READS IS OF BULK AT MOST 1048576: true; the input reads as it did. -/
def differenceCheckUptoRow : OpenClaim := { program := "ytpminieacndmhaa", sum := "a15517b0f67d22a94592fdf7a3ec575696baee3a6f6e10a1768d436459d5f77b", func := "anceps/ancepslaw28.DifferenceCheck", spec := "differenceCheck", unfollowed := true, recurses := true, plainKeys := false, apart := false, narrowed := true }
def DifferenceCheckUptoSaid : Prop := differenceCheckUptoRow.holds Try.pinned (OpenSpec.upto differenceCheckSpec)

/-- 'ancepslaw28.DifferenceCommon', WHERE WHAT IT READS IS OF BULK AT MOST 1048576: true; the input reads as it did. -/
def differenceCommonUptoRow : OpenClaim := { program := "ytpminieacndmhaa", sum := "a15517b0f67d22a94592fdf7a3ec575696baee3a6f6e10a1768d436459d5f77b", func := "anceps/ancepslaw28.DifferenceCommon", spec := "differenceCommon", unfollowed := true, recurses := true, plainKeys := false, apart := false, narrowed := true }
def DifferenceCommonUptoSaid : Prop := differenceCommonUptoRow.holds Try.pinned (OpenSpec.upto differenceCommonSpec)

/-- 'ancepslaw28.DifferenceCounts', WHERE WHAT IT READS IS OF BULK AT MOST 1048576: true; the input reads as it did. -/
def differenceCountsUptoRow : OpenClaim := { program := "ytpminieacndmhaa", sum := "a15517b0f67d22a94592fdf7a3ec575696baee3a6f6e10a1768d436459d5f77b", func := "anceps/ancepslaw28.DifferenceCounts", spec := "differenceCounts", unfollowed := true, recurses := true, plainKeys := false, apart := false, narrowed := true }
def DifferenceCountsUptoSaid : Prop := differenceCountsUptoRow.holds Try.pinned (OpenSpec.upto differenceCountsSpec)

/-- 'ancepslaw28.DifferenceSimulation', WHERE WHAT IT READS IS OF BULK AT MOST 1048576: true; the input reads as it did. -/
def differenceSimulationUptoRow : OpenClaim := { program := "ytpminieacndmhaa", sum := "a15517b0f67d22a94592fdf7a3ec575696baee3a6f6e10a1768d436459d5f77b", func := "anceps/ancepslaw28.DifferenceSimulation", spec := "differenceSimulation", unfollowed := true, recurses := true, plainKeys := false, apart := false, narrowed := true }
def DifferenceSimulationUptoSaid : Prop := differenceSimulationUptoRow.holds Try.pinned (OpenSpec.upto differenceSimulationSpec)

end Rows
end Go.Proofs.Ytpminieacndmhaa
