/-
  No cell of these rows narrows 'for every input' (looked for: loops, veiled, ifaces, maps, wideKeys, modest, calm, conditions, laid).
  DERIVED. THE GIVEN ROWS OF THIS SEAT. 8 by the template 'for every input the law returns true; each argument reads behind the call as it read before'; 0 by the template 'total and deterministic' (their statements: YtbbikmikiefcoaaTotals.lean).
  GIVEN WITH THE SEED: the statements are not yours to turn. If you find one false, say at which input.
  Laid BY PROGRAM, IN A SANDBOX (cutbox-rows.mjs): the forced cells as the released guide's own fill.sh prints them over the translation 0b45884637dd31ac… (all of the seat's roots in one cut). By AI agents, Wed Nov 11 2026. No macro, syntax, notation, axiom, sorry.
-/
import Derived.Test.YtbbikmikiefcoaaChecked
import GoSem.Claim
import GoSem.ClaimJoined
import GoSem.ClaimMapViews
import Derived.JoinedTies
import Derived.KernelRfl
namespace Go.Proofs.Ytbbikmikiefcoaa
/- THE CELL 'sum', in the pinned program and in every row, IS THE sha256 OF THE DUMP (.gsa) THAT YtbbikmikiefcoaaProg.lean LOADS. Nothing in Lean hashes anything: it is a label: what it is worth is what the hold of that sum in a sandbox is worth. -/
noncomputable def Try.pinned : Pinned := { name := "ytbbikmikiefcoaa", sum := "0b45884637dd31ac00cc12837673e90e26363f67ac0d0365e1cbe9f06da5af1c", checked := Try.checked }
namespace Rows
def none {H : Type} : Left H := { results := [], args := [] }

/-- 'ancepslaw06.AutomatonParts': WHATEVER THE INPUT: true; the input reads as it did. -/
def automatonPartsSpec : ChangeSpec := { name := "automatonParts", fn := fun _ => fun
  | [d1, d2, d3] => { results := [.lit (.bool true)], args := [d1, d2, d3] }
  | _ => none }
def automatonPartsRow : OpenClaim := { program := "ytbbikmikiefcoaa", sum := "0b45884637dd31ac00cc12837673e90e26363f67ac0d0365e1cbe9f06da5af1c", func := "anceps/ancepslaw06.AutomatonParts", spec := "automatonParts", unfollowed := true, recurses := true, plainKeys := false, apart := false }
def AutomatonPartsSaid : Prop := automatonPartsRow.holds Try.pinned (OpenSpec.ofChange automatonPartsSpec)

/-- ITS FALSE NEIGHBOUR: 'it returns false'. Refute it at one input. -/
def automatonPartsWrong : ChangeSpec := { name := "automatonParts", fn := fun _ => fun
  | [d1, d2, d3] => { results := [.lit (.bool false)], args := [d1, d2, d3] }
  | _ => none }
def AutomatonPartsWrongFalsely : Prop := automatonPartsRow.holds Try.pinned (OpenSpec.ofChange automatonPartsWrong)

/-- 'ancepslaw06.AutomatonRuns': WHATEVER THE INPUT: true; the input reads as it did. -/
def automatonRunsSpec : ChangeSpec := { name := "automatonRuns", fn := fun _ => fun
  | [d1, d2] => { results := [.lit (.bool true)], args := [d1, d2] }
  | _ => none }
def automatonRunsRow : OpenClaim := { program := "ytbbikmikiefcoaa", sum := "0b45884637dd31ac00cc12837673e90e26363f67ac0d0365e1cbe9f06da5af1c", func := "anceps/ancepslaw06.AutomatonRuns", spec := "automatonRuns", unfollowed := true, recurses := true, plainKeys := false, apart := false }
def AutomatonRunsSaid : Prop := automatonRunsRow.holds Try.pinned (OpenSpec.ofChange automatonRunsSpec)

/-- ITS FALSE NEIGHBOUR: 'it returns false'. Refute it at one input. -/
def automatonRunsWrong : ChangeSpec := { name := "automatonRuns", fn := fun _ => fun
  | [d1, d2] => { results := [.lit (.bool false)], args := [d1, d2] }
  | _ => none }
def AutomatonRunsWrongFalsely : Prop := automatonRunsRow.holds Try.pinned (OpenSpec.ofChange automatonRunsWrong)

/-- 'ancepslaw06.AutomatonMinimal': WHATEVER THE INPUT: true; the input reads as it did. -/
def automatonMinimalSpec : ChangeSpec := { name := "automatonMinimal", fn := fun _ => fun
  | [d1, d2] => { results := [.lit (.bool true)], args := [d1, d2] }
  | _ => none }
def automatonMinimalRow : OpenClaim := { program := "ytbbikmikiefcoaa", sum := "0b45884637dd31ac00cc12837673e90e26363f67ac0d0365e1cbe9f06da5af1c", func := "anceps/ancepslaw06.AutomatonMinimal", spec := "automatonMinimal", unfollowed := true, recurses := true, plainKeys := false, apart := false }
def AutomatonMinimalSaid : Prop := automatonMinimalRow.holds Try.pinned (OpenSpec.ofChange automatonMinimalSpec)

/-- ITS FALSE NEIGHBOUR: 'it returns false'. Refute it at one input. -/
def automatonMinimalWrong : ChangeSpec := { name := "automatonMinimal", fn := fun _ => fun
  | [d1, d2] => { results := [.lit (.bool false)], args := [d1, d2] }
  | _ => none }
def AutomatonMinimalWrongFalsely : Prop := automatonMinimalRow.holds Try.pinned (OpenSpec.ofChange automatonMinimalWrong)

/-- 'ancepslaw06.AutomatonProduct': WHATEVER THE INPUT: true; the input reads as it did. -/
def automatonProductSpec : ChangeSpec := { name := "automatonProduct", fn := fun _ => fun
  | [d] => { results := [.lit (.bool true)], args := [d] }
  | _ => none }
def automatonProductRow : OpenClaim := { program := "ytbbikmikiefcoaa", sum := "0b45884637dd31ac00cc12837673e90e26363f67ac0d0365e1cbe9f06da5af1c", func := "anceps/ancepslaw06.AutomatonProduct", spec := "automatonProduct", unfollowed := true, recurses := true, plainKeys := false, apart := false }
def AutomatonProductSaid : Prop := automatonProductRow.holds Try.pinned (OpenSpec.ofChange automatonProductSpec)

/-- ITS FALSE NEIGHBOUR: 'it returns false'. Refute it at one input. -/
def automatonProductWrong : ChangeSpec := { name := "automatonProduct", fn := fun _ => fun
  | [d] => { results := [.lit (.bool false)], args := [d] }
  | _ => none }
def AutomatonProductWrongFalsely : Prop := automatonProductRow.holds Try.pinned (OpenSpec.ofChange automatonProductWrong)

/-- 'ancepslaw06.AutomatonShortest': WHATEVER THE INPUT: true; the input reads as it did. -/
def automatonShortestSpec : ChangeSpec := { name := "automatonShortest", fn := fun _ => fun
  | [d] => { results := [.lit (.bool true)], args := [d] }
  | _ => none }
def automatonShortestRow : OpenClaim := { program := "ytbbikmikiefcoaa", sum := "0b45884637dd31ac00cc12837673e90e26363f67ac0d0365e1cbe9f06da5af1c", func := "anceps/ancepslaw06.AutomatonShortest", spec := "automatonShortest", unfollowed := true, recurses := true, plainKeys := false, apart := false }
def AutomatonShortestSaid : Prop := automatonShortestRow.holds Try.pinned (OpenSpec.ofChange automatonShortestSpec)

/-- ITS FALSE NEIGHBOUR: 'it returns false'. Refute it at one input. -/
def automatonShortestWrong : ChangeSpec := { name := "automatonShortest", fn := fun _ => fun
  | [d] => { results := [.lit (.bool false)], args := [d] }
  | _ => none }
def AutomatonShortestWrongFalsely : Prop := automatonShortestRow.holds Try.pinned (OpenSpec.ofChange automatonShortestWrong)

/-- 'ancepslaw06.AutomatonSame': WHATEVER THE INPUT: true; the input reads as it did. -/
def automatonSameSpec : ChangeSpec := { name := "automatonSame", fn := fun _ => fun
  | [d1, d2] => { results := [.lit (.bool true)], args := [d1, d2] }
  | _ => none }
def automatonSameRow : OpenClaim := { program := "ytbbikmikiefcoaa", sum := "0b45884637dd31ac00cc12837673e90e26363f67ac0d0365e1cbe9f06da5af1c", func := "anceps/ancepslaw06.AutomatonSame", spec := "automatonSame", unfollowed := true, recurses := true, plainKeys := false, apart := false }
def AutomatonSameSaid : Prop := automatonSameRow.holds Try.pinned (OpenSpec.ofChange automatonSameSpec)

/-- ITS FALSE NEIGHBOUR: 'it returns false'. Refute it at one input. -/
def automatonSameWrong : ChangeSpec := { name := "automatonSame", fn := fun _ => fun
  | [d1, d2] => { results := [.lit (.bool false)], args := [d1, d2] }
  | _ => none }
def AutomatonSameWrongFalsely : Prop := automatonSameRow.holds Try.pinned (OpenSpec.ofChange automatonSameWrong)

/-- 'ancepslaw06.AutomatonChecks': WHATEVER THE INPUT: true; the input reads as it did. -/
def automatonChecksSpec : ChangeSpec := { name := "automatonChecks", fn := fun _ => fun
  | [d1, d2, d3] => { results := [.lit (.bool true)], args := [d1, d2, d3] }
  | _ => none }
def automatonChecksRow : OpenClaim := { program := "ytbbikmikiefcoaa", sum := "0b45884637dd31ac00cc12837673e90e26363f67ac0d0365e1cbe9f06da5af1c", func := "anceps/ancepslaw06.AutomatonChecks", spec := "automatonChecks", unfollowed := true, recurses := true, plainKeys := false, apart := false }
def AutomatonChecksSaid : Prop := automatonChecksRow.holds Try.pinned (OpenSpec.ofChange automatonChecksSpec)

/-- ITS FALSE NEIGHBOUR: 'it returns false'. Refute it at one input. -/
def automatonChecksWrong : ChangeSpec := { name := "automatonChecks", fn := fun _ => fun
  | [d1, d2, d3] => { results := [.lit (.bool false)], args := [d1, d2, d3] }
  | _ => none }
def AutomatonChecksWrongFalsely : Prop := automatonChecksRow.holds Try.pinned (OpenSpec.ofChange automatonChecksWrong)

/-- 'ancepslaw06.AutomatonRelation': WHATEVER THE INPUT: true; the input reads as it did. -/
def automatonRelationSpec : ChangeSpec := { name := "automatonRelation", fn := fun _ => fun
  | [d1, d2] => { results := [.lit (.bool true)], args := [d1, d2] }
  | _ => none }
def automatonRelationRow : OpenClaim := { program := "ytbbikmikiefcoaa", sum := "0b45884637dd31ac00cc12837673e90e26363f67ac0d0365e1cbe9f06da5af1c", func := "anceps/ancepslaw06.AutomatonRelation", spec := "automatonRelation", unfollowed := true, recurses := true, plainKeys := false, apart := false }
def AutomatonRelationSaid : Prop := automatonRelationRow.holds Try.pinned (OpenSpec.ofChange automatonRelationSpec)

/-- ITS FALSE NEIGHBOUR: 'it returns false'. Refute it at one input. -/
def automatonRelationWrong : ChangeSpec := { name := "automatonRelation", fn := fun _ => fun
  | [d1, d2] => { results := [.lit (.bool false)], args := [d1, d2] }
  | _ => none }
def AutomatonRelationWrongFalsely : Prop := automatonRelationRow.holds Try.pinned (OpenSpec.ofChange automatonRelationWrong)

/- THE SECOND FORM. 'bulk': how many values and letters a reading holds, each counted each time it is reached (what is shared counts as often as it is met; a slice's spare places count too). A statement '..UptoSaid' is the law's where the arguments, and the package variables that the reading takes, are together of bulk at most 1048576: NARROWER than '..Said'. Prove '..Said' where nothing that the law and all that it calls make is longer than what came in: it says more and counts as full. Else prove '..UptoSaid'. A law counts once. -/
mutual
def uptoBulk {H : Type} : DataW H → Nat
  | .lit (.string bytes) => bytes.length + 1
  | .lit _ => 1
  | .nil => 1
  | .ptr d => uptoBulk d + 1
  | .slice elems spare => uptoBulkAll elems + uptoBulkAll spare + 1
  | .agg parts => uptoBulkAll parts + 1
  | .iface _ d => uptoBulk d + 1
  | .map entries => uptoBulkEntries entries + 1
  | .held _ => 1
def uptoBulkAll {H : Type} : List (DataW H) → Nat
  | [] => 0
  | d :: r => uptoBulk d + uptoBulkAll r
def uptoBulkEntries {H : Type} : List (Lit × DataW H) → Nat
  | [] => 0
  | x :: r => uptoBulkEntry x + uptoBulkEntries r
def uptoBulkEntry {H : Type} : Lit × DataW H → Nat
  | (.string bytes, d) => bytes.length + uptoBulk d + 1
  | (_, d) => uptoBulk d + 1
 end
def uptoSmall : (H : Type) → List (DataW H) → Bool := fun _ ds => decide (uptoBulkAll ds ≤ 1048576)
def OpenSpec.upto (s : _root_.Go.ChangeSpec) : _root_.Go.OpenSpec := { _root_.Go.OpenSpec.ofChange s with cond := some uptoSmall }

/-- 'ancepslaw06.AutomatonParts', WHERE WHAT IT READS IS OF BULK AT MOST 1048576: true; the input reads as it did. -/
def automatonPartsUptoRow : OpenClaim := { program := "ytbbikmikiefcoaa", sum := "0b45884637dd31ac00cc12837673e90e26363f67ac0d0365e1cbe9f06da5af1c", func := "anceps/ancepslaw06.AutomatonParts", spec := "automatonParts", unfollowed := true, recurses := true, plainKeys := false, apart := false, narrowed := true }
def AutomatonPartsUptoSaid : Prop := automatonPartsUptoRow.holds Try.pinned (OpenSpec.upto automatonPartsSpec)

/-- 'ancepslaw06.AutomatonRuns', WHERE WHAT IT READS IS OF BULK AT MOST 1048576: true; the input reads as it did. -/
def automatonRunsUptoRow : OpenClaim := { program := "ytbbikmikiefcoaa", sum := "0b45884637dd31ac00cc12837673e90e26363f67ac0d0365e1cbe9f06da5af1c", func := "anceps/ancepslaw06.AutomatonRuns", spec := "automatonRuns", unfollowed := true, recurses := true, plainKeys := false, apart := false, narrowed := true }
def AutomatonRunsUptoSaid : Prop := automatonRunsUptoRow.holds Try.pinned (OpenSpec.upto automatonRunsSpec)

/-- 'ancepslaw06.AutomatonMinimal', WHERE WHAT IT READS IS OF BULK AT MOST 1048576: true; the input reads as it did. -/
def automatonMinimalUptoRow : OpenClaim := { program := "ytbbikmikiefcoaa", sum := "0b45884637dd31ac00cc12837673e90e26363f67ac0d0365e1cbe9f06da5af1c", func := "anceps/ancepslaw06.AutomatonMinimal", spec := "automatonMinimal", unfollowed := true, recurses := true, plainKeys := false, apart := false, narrowed := true }
def AutomatonMinimalUptoSaid : Prop := automatonMinimalUptoRow.holds Try.pinned (OpenSpec.upto automatonMinimalSpec)

/-- 'ancepslaw06.AutomatonProduct', WHERE WHAT IT READS IS OF BULK AT MOST 1048576: true; the input reads as it did. -/
def automatonProductUptoRow : OpenClaim := { program := "ytbbikmikiefcoaa", sum := "0b45884637dd31ac00cc12837673e90e26363f67ac0d0365e1cbe9f06da5af1c", func := "anceps/ancepslaw06.AutomatonProduct", spec := "automatonProduct", unfollowed := true, recurses := true, plainKeys := false, apart := false, narrowed := true }
def AutomatonProductUptoSaid : Prop := automatonProductUptoRow.holds Try.pinned (OpenSpec.upto automatonProductSpec)

/-- 'ancepslaw06.AutomatonShortest', WHERE WHAT IT READS IS OF BULK AT MOST 1048576: true; the input reads as it did. -/
def automatonShortestUptoRow : OpenClaim := { program := "ytbbikmikiefcoaa", sum := "0b45884637dd31ac00cc12837673e90e26363f67ac0d0365e1cbe9f06da5af1c", func := "anceps/ancepslaw06.AutomatonShortest", spec := "automatonShortest", unfollowed := true, recurses := true, plainKeys := false, apart := false, narrowed := true }
def AutomatonShortestUptoSaid : Prop := automatonShortestUptoRow.holds Try.pinned (OpenSpec.upto automatonShortestSpec)

/-- 'ancepslaw06.AutomatonSame', WHERE WHAT IT READS IS OF BULK AT MOST 1048576: true; the input reads as it did. -/
def automatonSameUptoRow : OpenClaim := { program := "ytbbikmikiefcoaa", sum := "0b45884637dd31ac00cc12837673e90e26363f67ac0d0365e1cbe9f06da5af1c", func := "anceps/ancepslaw06.AutomatonSame", spec := "automatonSame", unfollowed := true, recurses := true, plainKeys := false, apart := false, narrowed := true }
def AutomatonSameUptoSaid : Prop := automatonSameUptoRow.holds Try.pinned (OpenSpec.upto automatonSameSpec)

/-- 'ancepslaw06.AutomatonChecks', WHERE WHAT IT READS IS OF BULK AT MOST 1048576: true; the input reads as it did. -/
def automatonChecksUptoRow : OpenClaim := { program := "ytbbikmikiefcoaa", sum := "0b45884637dd31ac00cc12837673e90e26363f67ac0d0365e1cbe9f06da5af1c", func := "anceps/ancepslaw06.AutomatonChecks", spec := "automatonChecks", unfollowed := true, recurses := true, plainKeys := false, apart := false, narrowed := true }
def AutomatonChecksUptoSaid : Prop := automatonChecksUptoRow.holds Try.pinned (OpenSpec.upto automatonChecksSpec)

/-- 'ancepslaw06.AutomatonRelation', WHERE WHAT IT READS IS OF BULK AT MOST 1048576: true; the input reads as it did. -/
def automatonRelationUptoRow : OpenClaim := { program := "ytbbikmikiefcoaa", sum := "0b45884637dd31ac00cc12837673e90e26363f67ac0d0365e1cbe9f06da5af1c", func := "anceps/ancepslaw06.AutomatonRelation", spec := "automatonRelation", unfollowed := true, recurses := true, plainKeys := false, apart := false, narrowed := true }
def AutomatonRelationUptoSaid : Prop := automatonRelationUptoRow.holds Try.pinned (OpenSpec.upto automatonRelationSpec)

end Rows
end Go.Proofs.Ytbbikmikiefcoaa
