/-
  No cell of these rows narrows 'for every input' (looked for: loops, veiled, ifaces, maps, wideKeys, modest, calm, conditions, laid).
  DERIVED. THE GIVEN ROWS OF THIS SEAT. 8 by the template 'for every input the law returns true; each argument reads behind the call as it read before'; 0 by the template 'total and deterministic' (their statements: YtmnnfkhajhmjgaaTotals.lean).
  GIVEN WITH THE SEED: the statements are not yours to turn. If you find one false, say at which input.
  Laid BY PROGRAM, IN A SANDBOX (cutbox-rows.mjs): the forced cells as the released guide's own fill.sh prints them over the translation 8263a3ce5af3cc2f… (all of the seat's roots in one cut). By AI agents, Wed Nov 11 2026. No macro, syntax, notation, axiom, sorry.
-/
import Derived.Test.YtmnnfkhajhmjgaaChecked
import GoSem.Claim
import GoSem.ClaimJoined
import GoSem.ClaimMapViews
import Derived.JoinedTies
import Derived.KernelRfl
namespace Go.Proofs.Ytmnnfkhajhmjgaa
/- THE CELL 'sum', in the pinned program and in every row, IS THE sha256 OF THE DUMP (.gsa) THAT YtmnnfkhajhmjgaaProg.lean LOADS. Nothing in Lean hashes anything: it is a label: what it is worth is what the hold of that sum in a sandbox is worth. -/
noncomputable def Try.pinned : Pinned := { name := "ytmnnfkhajhmjgaa", sum := "8263a3ce5af3cc2f68542ddbde7aa42a774e0b8a42d0b5a9b9d369f498b13cd1", checked := Try.checked }
namespace Rows
def none {H : Type} : Left H := { results := [], args := [] }

/-- 'ancepslaw14.ClusterClass': WHATEVER THE INPUT: true; the input reads as it did. -/
def clusterClassSpec : ChangeSpec := { name := "clusterClass", fn := fun _ => fun
  | [d] => { results := [.lit (.bool true)], args := [d] }
  | _ => none }
def clusterClassRow : OpenClaim := { program := "ytmnnfkhajhmjgaa", sum := "8263a3ce5af3cc2f68542ddbde7aa42a774e0b8a42d0b5a9b9d369f498b13cd1", func := "anceps/ancepslaw14.ClusterClass", spec := "clusterClass", unfollowed := true, recurses := true, apart := false }
def ClusterClassSaid : Prop := clusterClassRow.holds Try.pinned (OpenSpec.ofChange clusterClassSpec)

/-- ITS FALSE NEIGHBOUR: 'it returns false'. Refute it at one input. -/
def clusterClassWrong : ChangeSpec := { name := "clusterClass", fn := fun _ => fun
  | [d] => { results := [.lit (.bool false)], args := [d] }
  | _ => none }
def ClusterClassWrongFalsely : Prop := clusterClassRow.holds Try.pinned (OpenSpec.ofChange clusterClassWrong)

/-- 'ancepslaw14.ClusterBreath': WHATEVER THE INPUT: true; the input reads as it did. -/
def clusterBreathSpec : ChangeSpec := { name := "clusterBreath", fn := fun _ => fun
  | [d] => { results := [.lit (.bool true)], args := [d] }
  | _ => none }
def clusterBreathRow : OpenClaim := { program := "ytmnnfkhajhmjgaa", sum := "8263a3ce5af3cc2f68542ddbde7aa42a774e0b8a42d0b5a9b9d369f498b13cd1", func := "anceps/ancepslaw14.ClusterBreath", spec := "clusterBreath", unfollowed := true, recurses := true, apart := false }
def ClusterBreathSaid : Prop := clusterBreathRow.holds Try.pinned (OpenSpec.ofChange clusterBreathSpec)

/-- ITS FALSE NEIGHBOUR: 'it returns false'. Refute it at one input. -/
def clusterBreathWrong : ChangeSpec := { name := "clusterBreath", fn := fun _ => fun
  | [d] => { results := [.lit (.bool false)], args := [d] }
  | _ => none }
def ClusterBreathWrongFalsely : Prop := clusterBreathRow.holds Try.pinned (OpenSpec.ofChange clusterBreathWrong)

/-- 'ancepslaw14.ClusterCoda': WHATEVER THE INPUT: true; the input reads as it did. -/
def clusterCodaSpec : ChangeSpec := { name := "clusterCoda", fn := fun _ => fun
  | [d] => { results := [.lit (.bool true)], args := [d] }
  | _ => none }
def clusterCodaRow : OpenClaim := { program := "ytmnnfkhajhmjgaa", sum := "8263a3ce5af3cc2f68542ddbde7aa42a774e0b8a42d0b5a9b9d369f498b13cd1", func := "anceps/ancepslaw14.ClusterCoda", spec := "clusterCoda", unfollowed := true, recurses := true, apart := false }
def ClusterCodaSaid : Prop := clusterCodaRow.holds Try.pinned (OpenSpec.ofChange clusterCodaSpec)

/-- ITS FALSE NEIGHBOUR: 'it returns false'. Refute it at one input. -/
def clusterCodaWrong : ChangeSpec := { name := "clusterCoda", fn := fun _ => fun
  | [d] => { results := [.lit (.bool false)], args := [d] }
  | _ => none }
def ClusterCodaWrongFalsely : Prop := clusterCodaRow.holds Try.pinned (OpenSpec.ofChange clusterCodaWrong)

/-- 'ancepslaw14.ClusterCore': WHATEVER THE INPUT: true; the input reads as it did. -/
def clusterCoreSpec : ChangeSpec := { name := "clusterCore", fn := fun _ => fun
  | [d] => { results := [.lit (.bool true)], args := [d] }
  | _ => none }
def clusterCoreRow : OpenClaim := { program := "ytmnnfkhajhmjgaa", sum := "8263a3ce5af3cc2f68542ddbde7aa42a774e0b8a42d0b5a9b9d369f498b13cd1", func := "anceps/ancepslaw14.ClusterCore", spec := "clusterCore", unfollowed := true, recurses := true, apart := false }
def ClusterCoreSaid : Prop := clusterCoreRow.holds Try.pinned (OpenSpec.ofChange clusterCoreSpec)

/-- ITS FALSE NEIGHBOUR: 'it returns false'. Refute it at one input. -/
def clusterCoreWrong : ChangeSpec := { name := "clusterCore", fn := fun _ => fun
  | [d] => { results := [.lit (.bool false)], args := [d] }
  | _ => none }
def ClusterCoreWrongFalsely : Prop := clusterCoreRow.holds Try.pinned (OpenSpec.ofChange clusterCoreWrong)

/-- 'ancepslaw14.ClusterExplain': WHATEVER THE INPUT: true; the input reads as it did. -/
def clusterExplainSpec : ChangeSpec := { name := "clusterExplain", fn := fun _ => fun
  | [d] => { results := [.lit (.bool true)], args := [d] }
  | _ => none }
def clusterExplainRow : OpenClaim := { program := "ytmnnfkhajhmjgaa", sum := "8263a3ce5af3cc2f68542ddbde7aa42a774e0b8a42d0b5a9b9d369f498b13cd1", func := "anceps/ancepslaw14.ClusterExplain", spec := "clusterExplain", unfollowed := true, recurses := true, apart := false }
def ClusterExplainSaid : Prop := clusterExplainRow.holds Try.pinned (OpenSpec.ofChange clusterExplainSpec)

/-- ITS FALSE NEIGHBOUR: 'it returns false'. Refute it at one input. -/
def clusterExplainWrong : ChangeSpec := { name := "clusterExplain", fn := fun _ => fun
  | [d] => { results := [.lit (.bool false)], args := [d] }
  | _ => none }
def ClusterExplainWrongFalsely : Prop := clusterExplainRow.holds Try.pinned (OpenSpec.ofChange clusterExplainWrong)

/-- 'ancepslaw14.ClusterJoin': WHATEVER THE INPUT: true; the input reads as it did. -/
def clusterJoinSpec : ChangeSpec := { name := "clusterJoin", fn := fun _ => fun
  | [d1, d2] => { results := [.lit (.bool true)], args := [d1, d2] }
  | _ => none }
def clusterJoinRow : OpenClaim := { program := "ytmnnfkhajhmjgaa", sum := "8263a3ce5af3cc2f68542ddbde7aa42a774e0b8a42d0b5a9b9d369f498b13cd1", func := "anceps/ancepslaw14.ClusterJoin", spec := "clusterJoin", unfollowed := true, recurses := true, apart := false }
def ClusterJoinSaid : Prop := clusterJoinRow.holds Try.pinned (OpenSpec.ofChange clusterJoinSpec)

/-- ITS FALSE NEIGHBOUR: 'it returns false'. Refute it at one input. -/
def clusterJoinWrong : ChangeSpec := { name := "clusterJoin", fn := fun _ => fun
  | [d1, d2] => { results := [.lit (.bool false)], args := [d1, d2] }
  | _ => none }
def ClusterJoinWrongFalsely : Prop := clusterJoinRow.holds Try.pinned (OpenSpec.ofChange clusterJoinWrong)

/-- 'ancepslaw14.ClusterSplit': WHATEVER THE INPUT: true; the input reads as it did. -/
def clusterSplitSpec : ChangeSpec := { name := "clusterSplit", fn := fun _ => fun
  | [d1, d2] => { results := [.lit (.bool true)], args := [d1, d2] }
  | _ => none }
def clusterSplitRow : OpenClaim := { program := "ytmnnfkhajhmjgaa", sum := "8263a3ce5af3cc2f68542ddbde7aa42a774e0b8a42d0b5a9b9d369f498b13cd1", func := "anceps/ancepslaw14.ClusterSplit", spec := "clusterSplit", unfollowed := true, recurses := true, apart := false }
def ClusterSplitSaid : Prop := clusterSplitRow.holds Try.pinned (OpenSpec.ofChange clusterSplitSpec)

/-- ITS FALSE NEIGHBOUR: 'it returns false'. Refute it at one input. -/
def clusterSplitWrong : ChangeSpec := { name := "clusterSplit", fn := fun _ => fun
  | [d1, d2] => { results := [.lit (.bool false)], args := [d1, d2] }
  | _ => none }
def ClusterSplitWrongFalsely : Prop := clusterSplitRow.holds Try.pinned (OpenSpec.ofChange clusterSplitWrong)

/-- 'ancepslaw14.ClusterOrder': WHATEVER THE INPUT: true; the input reads as it did. -/
def clusterOrderSpec : ChangeSpec := { name := "clusterOrder", fn := fun _ => fun
  | [d1, d2, d3] => { results := [.lit (.bool true)], args := [d1, d2, d3] }
  | _ => none }
def clusterOrderRow : OpenClaim := { program := "ytmnnfkhajhmjgaa", sum := "8263a3ce5af3cc2f68542ddbde7aa42a774e0b8a42d0b5a9b9d369f498b13cd1", func := "anceps/ancepslaw14.ClusterOrder", spec := "clusterOrder", unfollowed := true, recurses := true, apart := false }
def ClusterOrderSaid : Prop := clusterOrderRow.holds Try.pinned (OpenSpec.ofChange clusterOrderSpec)

/-- ITS FALSE NEIGHBOUR: 'it returns false'. Refute it at one input. -/
def clusterOrderWrong : ChangeSpec := { name := "clusterOrder", fn := fun _ => fun
  | [d1, d2, d3] => { results := [.lit (.bool false)], args := [d1, d2, d3] }
  | _ => none }
def ClusterOrderWrongFalsely : Prop := clusterOrderRow.holds Try.pinned (OpenSpec.ofChange clusterOrderWrong)

/- THE SECOND FORM. 'bulk': how many values and letters a reading holds, each counted each time it is reached (what is shared counts as often as it is met; a slice's spare places count too). A statement '..UptoSaid' is the law's where the arguments, and the package variables that the reading takes, are together of bulk at most 1048576: NARROWER than '..Said'. Prove '..Said' where nothing that the law and all that it calls make is longer than what came in: it says more and counts as full. Else prove '..UptoSaid'. A law counts once. -/
mutual
def uptoBulk {H : Type} : DataW H → Nat
  | .lit (.string bytes) => bytes.length + 1
  | .lit _ => 1
  | .nil => 1
  | .ptr d => uptoBulk d + 1
  | .slice elems spare => uptoBulkAll elems + uptoBulkAll spare + 1
  | .agg parts => uptoBulkAll parts + 1
  | .iface _ d => uptoBulk d + 1
  | .map entries => uptoBulkEntries entries + 1
  | .held _ => 1
def uptoBulkAll {H : Type} : List (DataW H) → Nat
  | [] => 0
  | d :: r => uptoBulk d + uptoBulkAll r
def uptoBulkEntries {H : Type} : List (Lit × DataW H) → Nat
  | [] => 0
  | x :: r => uptoBulkEntry x + uptoBulkEntries r
def uptoBulkEntry {H : Type} : Lit × DataW H → Nat
  | (.string bytes, d) => bytes.length + uptoBulk d + 1
  | (_, d) => uptoBulk d + 1
 end
def uptoSmall : (H : Type) → List (DataW H) → Bool := fun _ ds => decide (uptoBulkAll ds ≤ 1048576)
def OpenSpec.upto (s : _root_.Go.ChangeSpec) : _root_.Go.OpenSpec := { _root_.Go.OpenSpec.ofChange s with cond := some uptoSmall }

/-- 'ancepslaw14.ClusterClass', WHERE WHAT IT READS IS OF BULK AT MOST 1048576: true; the input reads as it did. -/
def clusterClassUptoRow : OpenClaim := { program := "ytmnnfkhajhmjgaa", sum := "8263a3ce5af3cc2f68542ddbde7aa42a774e0b8a42d0b5a9b9d369f498b13cd1", func := "anceps/ancepslaw14.ClusterClass", spec := "clusterClass", unfollowed := true, recurses := true, apart := false, narrowed := true }
def ClusterClassUptoSaid : Prop := clusterClassUptoRow.holds Try.pinned (OpenSpec.upto clusterClassSpec)

/-- 'ancepslaw14.ClusterBreath', WHERE WHAT IT READS IS OF BULK AT MOST 1048576: true; the input reads as it did. -/
def clusterBreathUptoRow : OpenClaim := { program := "ytmnnfkhajhmjgaa", sum := "8263a3ce5af3cc2f68542ddbde7aa42a774e0b8a42d0b5a9b9d369f498b13cd1", func := "anceps/ancepslaw14.ClusterBreath", spec := "clusterBreath", unfollowed := true, recurses := true, apart := false, narrowed := true }
def ClusterBreathUptoSaid : Prop := clusterBreathUptoRow.holds Try.pinned (OpenSpec.upto clusterBreathSpec)

/-- 'ancepslaw14.ClusterCoda', WHERE WHAT IT READS IS OF BULK AT MOST 1048576: true; the input reads as it did. -/
def clusterCodaUptoRow : OpenClaim := { program := "ytmnnfkhajhmjgaa", sum := "8263a3ce5af3cc2f68542ddbde7aa42a774e0b8a42d0b5a9b9d369f498b13cd1", func := "anceps/ancepslaw14.ClusterCoda", spec := "clusterCoda", unfollowed := true, recurses := true, apart := false, narrowed := true }
def ClusterCodaUptoSaid : Prop := clusterCodaUptoRow.holds Try.pinned (OpenSpec.upto clusterCodaSpec)

/-- 'ancepslaw14.ClusterCore', WHERE WHAT IT READS IS OF BULK AT MOST 1048576: true; the input reads as it did. -/
def clusterCoreUptoRow : OpenClaim := { program := "ytmnnfkhajhmjgaa", sum := "8263a3ce5af3cc2f68542ddbde7aa42a774e0b8a42d0b5a9b9d369f498b13cd1", func := "anceps/ancepslaw14.ClusterCore", spec := "clusterCore", unfollowed := true, recurses := true, apart := false, narrowed := true }
def ClusterCoreUptoSaid : Prop := clusterCoreUptoRow.holds Try.pinned (OpenSpec.upto clusterCoreSpec)

/-- 'ancepslaw14.ClusterExplain', WHERE WHAT IT READS IS OF BULK AT MOST 1048576: true; the input reads as it did. -/
def clusterExplainUptoRow : OpenClaim := { program := "ytmnnfkhajhmjgaa", sum := "8263a3ce5af3cc2f68542ddbde7aa42a774e0b8a42d0b5a9b9d369f498b13cd1", func := "anceps/ancepslaw14.ClusterExplain", spec := "clusterExplain", unfollowed := true, recurses := true, apart := false, narrowed := true }
def ClusterExplainUptoSaid : Prop := clusterExplainUptoRow.holds Try.pinned (OpenSpec.upto clusterExplainSpec)

/-- 'ancepslaw14.ClusterJoin', WHERE WHAT IT READS IS OF BULK AT MOST 1048576: true; the input reads as it did. -/
def clusterJoinUptoRow : OpenClaim := { program := "ytmnnfkhajhmjgaa", sum := "8263a3ce5af3cc2f68542ddbde7aa42a774e0b8a42d0b5a9b9d369f498b13cd1", func := "anceps/ancepslaw14.ClusterJoin", spec := "clusterJoin", unfollowed := true, recurses := true, apart := false, narrowed := true }
def ClusterJoinUptoSaid : Prop := clusterJoinUptoRow.holds Try.pinned (OpenSpec.upto clusterJoinSpec)

/-- 'ancepslaw14.ClusterSplit', WHERE WHAT IT READS IS OF BULK AT MOST 1048576: true; the input reads as it did. -/
def clusterSplitUptoRow : OpenClaim := { program := "ytmnnfkhajhmjgaa", sum := "8263a3ce5af3cc2f68542ddbde7aa42a774e0b8a42d0b5a9b9d369f498b13cd1", func := "anceps/ancepslaw14.ClusterSplit", spec := "clusterSplit", unfollowed := true, recurses := true, apart := false, narrowed := true }
def ClusterSplitUptoSaid : Prop := clusterSplitUptoRow.holds Try.pinned (OpenSpec.upto clusterSplitSpec)

/-- 'ancepslaw14.ClusterOrder', WHERE WHAT IT READS IS OF BULK AT MOST 1048576: true; the input reads as it did. -/
def clusterOrderUptoRow : OpenClaim := { program := "ytmnnfkhajhmjgaa", sum := "8263a3ce5af3cc2f68542ddbde7aa42a774e0b8a42d0b5a9b9d369f498b13cd1", func := "anceps/ancepslaw14.ClusterOrder", spec := "clusterOrder", unfollowed := true, recurses := true, apart := false, narrowed := true }
def ClusterOrderUptoSaid : Prop := clusterOrderUptoRow.holds Try.pinned (OpenSpec.upto clusterOrderSpec)

end Rows
end Go.Proofs.Ytmnnfkhajhmjgaa
