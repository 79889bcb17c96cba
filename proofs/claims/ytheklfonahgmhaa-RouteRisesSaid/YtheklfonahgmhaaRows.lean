/-
  No cell of these rows narrows 'for every input' (looked for: loops, veiled, ifaces, maps, wideKeys, modest, calm, conditions, laid).
  DERIVED. THE GIVEN ROWS OF THIS SEAT. 7 by the template 'for every input the law returns true; each argument reads behind the call as it read before'; 0 by the template 'total and deterministic' (their statements: YtheklfonahgmhaaTotals.lean).
  GIVEN WITH THE SEED: the statements are not yours to turn. If you find one false, say at which input.
  Laid BY PROGRAM, IN A SANDBOX (cutbox-rows.mjs): the forced cells as the released guide's own fill.sh prints them over the translation 89065e5900e235ea… (all of the seat's roots in one cut). By AI agents, Wed Nov 11 2026. No macro, syntax, notation, axiom, sorry.
-/
import Derived.Test.YtheklfonahgmhaaChecked
import GoSem.Claim
import GoSem.ClaimJoined
import GoSem.ClaimMapViews
import Derived.JoinedTies
import Derived.KernelRfl
namespace Go.Proofs.Ytheklfonahgmhaa
/- THE CELL 'sum', in the pinned program and in every row, IS THE sha256 OF THE DUMP (.gsa) THAT YtheklfonahgmhaaProg.lean LOADS. Nothing in Lean hashes anything: it is a label: what it is worth is what the hold of that sum in a sandbox is worth. -/
noncomputable def Try.pinned : Pinned := { name := "ytheklfonahgmhaa", sum := "89065e5900e235eac0998f701d3c6758549670cc96614ba0791cded2cd92c990", checked := Try.checked }
namespace Rows
def none {H : Type} : Left H := { results := [], args := [] }

/-- 'ancepslaw10.RouteBest': WHATEVER THE INPUT: true; the input reads as it did. -/
def routeBestSpec : ChangeSpec := { name := "routeBest", fn := fun _ => fun
  | [d] => { results := [.lit (.bool true)], args := [d] }
  | _ => none }
def routeBestRow : OpenClaim := { program := "ytheklfonahgmhaa", sum := "89065e5900e235eac0998f701d3c6758549670cc96614ba0791cded2cd92c990", func := "anceps/ancepslaw10.RouteBest", spec := "routeBest", unfollowed := true, recurses := true, apart := false }
def RouteBestSaid : Prop := routeBestRow.holds Try.pinned (OpenSpec.ofChange routeBestSpec)

/-- ITS FALSE NEIGHBOUR: 'it returns false'. Refute it at one input. -/
def routeBestWrong : ChangeSpec := { name := "routeBest", fn := fun _ => fun
  | [d] => { results := [.lit (.bool false)], args := [d] }
  | _ => none }
def RouteBestWrongFalsely : Prop := routeBestRow.holds Try.pinned (OpenSpec.ofChange routeBestWrong)

/-- 'ancepslaw10.RouteChecks': WHATEVER THE INPUT: true; the input reads as it did. -/
def routeChecksSpec : ChangeSpec := { name := "routeChecks", fn := fun _ => fun
  | [d1, d2, d3] => { results := [.lit (.bool true)], args := [d1, d2, d3] }
  | _ => none }
def routeChecksRow : OpenClaim := { program := "ytheklfonahgmhaa", sum := "89065e5900e235eac0998f701d3c6758549670cc96614ba0791cded2cd92c990", func := "anceps/ancepslaw10.RouteChecks", spec := "routeChecks", unfollowed := true, recurses := true, apart := false }
def RouteChecksSaid : Prop := routeChecksRow.holds Try.pinned (OpenSpec.ofChange routeChecksSpec)

/-- ITS FALSE NEIGHBOUR: 'it returns false'. Refute it at one input. -/
def routeChecksWrong : ChangeSpec := { name := "routeChecks", fn := fun _ => fun
  | [d1, d2, d3] => { results := [.lit (.bool false)], args := [d1, d2, d3] }
  | _ => none }
def RouteChecksWrongFalsely : Prop := routeChecksRow.holds Try.pinned (OpenSpec.ofChange routeChecksWrong)

/-- 'ancepslaw10.RouteList': WHATEVER THE INPUT: true; the input reads as it did. -/
def routeListSpec : ChangeSpec := { name := "routeList", fn := fun _ => fun
  | [d1, d2] => { results := [.lit (.bool true)], args := [d1, d2] }
  | _ => none }
def routeListRow : OpenClaim := { program := "ytheklfonahgmhaa", sum := "89065e5900e235eac0998f701d3c6758549670cc96614ba0791cded2cd92c990", func := "anceps/ancepslaw10.RouteList", spec := "routeList", unfollowed := true, recurses := true, apart := false }
def RouteListSaid : Prop := routeListRow.holds Try.pinned (OpenSpec.ofChange routeListSpec)

/-- ITS FALSE NEIGHBOUR: 'it returns false'. Refute it at one input. -/
def routeListWrong : ChangeSpec := { name := "routeList", fn := fun _ => fun
  | [d1, d2] => { results := [.lit (.bool false)], args := [d1, d2] }
  | _ => none }
def RouteListWrongFalsely : Prop := routeListRow.holds Try.pinned (OpenSpec.ofChange routeListWrong)

/-- 'ancepslaw10.RouteNext': WHATEVER THE INPUT: true; the input reads as it did. -/
def routeNextSpec : ChangeSpec := { name := "routeNext", fn := fun _ => fun
  | [d1, d2] => { results := [.lit (.bool true)], args := [d1, d2] }
  | _ => none }
def routeNextRow : OpenClaim := { program := "ytheklfonahgmhaa", sum := "89065e5900e235eac0998f701d3c6758549670cc96614ba0791cded2cd92c990", func := "anceps/ancepslaw10.RouteNext", spec := "routeNext", unfollowed := true, recurses := true, apart := false }
def RouteNextSaid : Prop := routeNextRow.holds Try.pinned (OpenSpec.ofChange routeNextSpec)

/-- ITS FALSE NEIGHBOUR: 'it returns false'. Refute it at one input. -/
def routeNextWrong : ChangeSpec := { name := "routeNext", fn := fun _ => fun
  | [d1, d2] => { results := [.lit (.bool false)], args := [d1, d2] }
  | _ => none }
def RouteNextWrongFalsely : Prop := routeNextRow.holds Try.pinned (OpenSpec.ofChange routeNextWrong)

/-- 'ancepslaw10.RouteAll': WHATEVER THE INPUT: true; the input reads as it did. -/
def routeAllSpec : ChangeSpec := { name := "routeAll", fn := fun _ => fun
  | [d1, d2] => { results := [.lit (.bool true)], args := [d1, d2] }
  | _ => none }
def routeAllRow : OpenClaim := { program := "ytheklfonahgmhaa", sum := "89065e5900e235eac0998f701d3c6758549670cc96614ba0791cded2cd92c990", func := "anceps/ancepslaw10.RouteAll", spec := "routeAll", unfollowed := true, recurses := true, apart := false }
def RouteAllSaid : Prop := routeAllRow.holds Try.pinned (OpenSpec.ofChange routeAllSpec)

/-- ITS FALSE NEIGHBOUR: 'it returns false'. Refute it at one input. -/
def routeAllWrong : ChangeSpec := { name := "routeAll", fn := fun _ => fun
  | [d1, d2] => { results := [.lit (.bool false)], args := [d1, d2] }
  | _ => none }
def RouteAllWrongFalsely : Prop := routeAllRow.holds Try.pinned (OpenSpec.ofChange routeAllWrong)

/-- 'ancepslaw10.RouteRises': WHATEVER THE INPUT: true; the input reads as it did. -/
def routeRisesSpec : ChangeSpec := { name := "routeRises", fn := fun _ => fun
  | [d1, d2, d3] => { results := [.lit (.bool true)], args := [d1, d2, d3] }
  | _ => none }
def routeRisesRow : OpenClaim := { program := "ytheklfonahgmhaa", sum := "89065e5900e235eac0998f701d3c6758549670cc96614ba0791cded2cd92c990", func := "anceps/ancepslaw10.RouteRises", spec := "routeRises", unfollowed := true, recurses := true, apart := false }
def RouteRisesSaid : Prop := routeRisesRow.holds Try.pinned (OpenSpec.ofChange routeRisesSpec)

/-- ITS FALSE NEIGHBOUR: 'it returns false'. Refute it at one input. -/
def routeRisesWrong : ChangeSpec := { name := "routeRises", fn := fun _ => fun
  | [d1, d2, d3] => { results := [.lit (.bool false)], args := [d1, d2, d3] }
  | _ => none }
def RouteRisesWrongFalsely : Prop := routeRisesRow.holds Try.pinned (OpenSpec.ofChange routeRisesWrong)

/-- 'ancepslaw10.RouteWithin': WHATEVER THE INPUT: true; the input reads as it did. -/
def routeWithinSpec : ChangeSpec := { name := "routeWithin", fn := fun _ => fun
  | [d1, d2] => { results := [.lit (.bool true)], args := [d1, d2] }
  | _ => none }
def routeWithinRow : OpenClaim := { program := "ytheklfonahgmhaa", sum := "89065e5900e235eac0998f701d3c6758549670cc96614ba0791cded2cd92c990", func := "anceps/ancepslaw10.RouteWithin", spec := "routeWithin", unfollowed := true, recurses := true, apart := false }
def RouteWithinSaid : Prop := routeWithinRow.holds Try.pinned (OpenSpec.ofChange routeWithinSpec)

/-- ITS FALSE NEIGHBOUR: 'it returns false'. Refute it at one input. -/
def routeWithinWrong : ChangeSpec := { name := "routeWithin", fn := fun _ => fun
  | [d1, d2] => { results := [.lit (.bool false)], args := [d1, d2] }
  | _ => none }
def RouteWithinWrongFalsely : Prop := routeWithinRow.holds Try.pinned (OpenSpec.ofChange routeWithinWrong)

/- THE SECOND FORM. 'bulk': how many values and letters a reading holds, each counted each time it is reached (what is shared counts as often as it is met; a slice's spare places count too). A statement '..UptoSaid' is the law's where the arguments, and the package variables that the reading takes, are together of bulk at most 1048576: NARROWER than '..Said'. Prove '..Said' where nothing that the law and all that it calls make is longer than what came in: it says more and counts as full. Else prove '..UptoSaid'. A law counts once. -/
mutual
def uptoBulk {H : Type} : DataW H → Nat
  | .lit (.string bytes) => bytes.length + 1
  | .lit _ => 1
  | .nil => 1
  | .ptr d => uptoBulk d + 1
  | .slice elems spare => uptoBulkAll elems + uptoBulkAll spare + 1
  | .agg parts => uptoBulkAll parts + 1
  | .iface _ d => uptoBulk d + 1
  | .map entries => uptoBulkEntries entries + 1
  | .held _ => 1
def uptoBulkAll {H : Type} : List (DataW H) → Nat
  | [] => 0
  | d :: r => uptoBulk d + uptoBulkAll r
def uptoBulkEntries {H : Type} : List (Lit × DataW H) → Nat
  | [] => 0
  | x :: r => uptoBulkEntry x + uptoBulkEntries r
def uptoBulkEntry {H : Type} : Lit × DataW H → Nat
  | (.string bytes, d) => bytes.length + uptoBulk d + 1
  | (_, d) => uptoBulk d + 1
 end
def uptoSmall : (H : Type) → List (DataW H) → Bool := fun _ ds => decide (uptoBulkAll ds ≤ 1048576)
def OpenSpec.upto (s : _root_.Go.ChangeSpec) : _root_.Go.OpenSpec := { _root_.Go.OpenSpec.ofChange s with cond := some uptoSmall }

/-- 'ancepslaw10.RouteBest', WHERE WHAT IT READS IS OF BULK AT MOST 1048576: true; the input reads as it did. -/
def routeBestUptoRow : OpenClaim := { program := "ytheklfonahgmhaa", sum := "89065e5900e235eac0998f701d3c6758549670cc96614ba0791cded2cd92c990", func := "anceps/ancepslaw10.RouteBest", spec := "routeBest", unfollowed := true, recurses := true, apart := false, narrowed := true }
def RouteBestUptoSaid : Prop := routeBestUptoRow.holds Try.pinned (OpenSpec.upto routeBestSpec)

/-- 'ancepslaw10.RouteChecks', WHERE WHAT IT READS IS OF BULK AT MOST 1048576: true; the input reads as it did. -/
def routeChecksUptoRow : OpenClaim := { program := "ytheklfonahgmhaa", sum := "89065e5900e235eac0998f701d3c6758549670cc96614ba0791cded2cd92c990", func := "anceps/ancepslaw10.RouteChecks", spec := "routeChecks", unfollowed := true, recurses := true, apart := false, narrowed := true }
def RouteChecksUptoSaid : Prop := routeChecksUptoRow.holds Try.pinned (OpenSpec.upto routeChecksSpec)

/-- 'ancepslaw10.RouteList', WHERE WHAT IT READS IS OF BULK AT MOST 1048576: true; the input reads as it did. -/
def routeListUptoRow : OpenClaim := { program := "ytheklfonahgmhaa", sum := "89065e5900e235eac0998f701d3c6758549670cc96614ba0791cded2cd92c990", func := "anceps/ancepslaw10.RouteList", spec := "routeList", unfollowed := true, recurses := true, apart := false, narrowed := true }
def RouteListUptoSaid : Prop := routeListUptoRow.holds Try.pinned (OpenSpec.upto routeListSpec)

/-- 'ancepslaw10.RouteNext', WHERE WHAT IT READS IS OF BULK AT MOST 1048576: true; the input reads as it did. -/
def routeNextUptoRow : OpenClaim := { program := "ytheklfonahgmhaa", sum := "89065e5900e235eac0998f701d3c6758549670cc96614ba0791cded2cd92c990", func := "anceps/ancepslaw10.RouteNext", spec := "routeNext", unfollowed := true, recurses := true, apart := false, narrowed := true }
def RouteNextUptoSaid : Prop := routeNextUptoRow.holds Try.pinned (OpenSpec.upto routeNextSpec)

/-- 'ancepslaw10.RouteAll', WHERE WHAT IT READS IS OF BULK AT MOST 1048576: true; the input reads as it did. -/
def routeAllUptoRow : OpenClaim := { program := "ytheklfonahgmhaa", sum := "89065e5900e235eac0998f701d3c6758549670cc96614ba0791cded2cd92c990", func := "anceps/ancepslaw10.RouteAll", spec := "routeAll", unfollowed := true, recurses := true, apart := false, narrowed := true }
def RouteAllUptoSaid : Prop := routeAllUptoRow.holds Try.pinned (OpenSpec.upto routeAllSpec)

/-- 'ancepslaw10.RouteRises', WHERE WHAT IT READS IS OF BULK AT MOST 1048576: true; the input reads as it did. -/
def routeRisesUptoRow : OpenClaim := { program := "ytheklfonahgmhaa", sum := "89065e5900e235eac0998f701d3c6758549670cc96614ba0791cded2cd92c990", func := "anceps/ancepslaw10.RouteRises", spec := "routeRises", unfollowed := true, recurses := true, apart := false, narrowed := true }
def RouteRisesUptoSaid : Prop := routeRisesUptoRow.holds Try.pinned (OpenSpec.upto routeRisesSpec)

/-- 'ancepslaw10.RouteWithin', WHERE WHAT IT READS IS OF BULK AT MOST 1048576: true; the input reads as it did. -/
def routeWithinUptoRow : OpenClaim := { program := "ytheklfonahgmhaa", sum := "89065e5900e235eac0998f701d3c6758549670cc96614ba0791cded2cd92c990", func := "anceps/ancepslaw10.RouteWithin", spec := "routeWithin", unfollowed := true, recurses := true, apart := false, narrowed := true }
def RouteWithinUptoSaid : Prop := routeWithinUptoRow.holds Try.pinned (OpenSpec.upto routeWithinSpec)

end Rows
end Go.Proofs.Ytheklfonahgmhaa
