/-
  No cell of these rows narrows 'for every input' (looked for: loops, veiled, ifaces, maps, wideKeys, modest, calm, conditions, laid).
  DERIVED. THE GIVEN ROWS OF THIS SEAT. 8 by the template 'for every input the law returns true; each argument reads behind the call as it read before'; 0 by the template 'total and deterministic' (their statements: YtmbloefhgkhoaaaTotals.lean).
  GIVEN WITH THE SEED: the statements are not yours to turn. If you find one false, say at which input.
  Laid BY PROGRAM, IN A SANDBOX (cutbox-rows.mjs): the forced cells as the released guide's own fill.sh prints them over the translation 2896e751ac01f07c… (all of the seat's roots in one cut). By AI agents, Wed Nov 11 2026. No macro, syntax, notation, axiom, sorry.
-/
import Derived.Test.YtmbloefhgkhoaaaChecked
import GoSem.Claim
import GoSem.ClaimJoined
import GoSem.ClaimMapViews
import Derived.JoinedTies
import Derived.KernelRfl
namespace Go.Proofs.Ytmbloefhgkhoaaa
/- THE CELL 'sum', in the pinned program and in every row, IS THE sha256 OF THE DUMP (.gsa) THAT YtmbloefhgkhoaaaProg.lean LOADS. Nothing in Lean hashes anything: it is a label: what it is worth is what the hold of that sum in a sandbox is worth. -/
noncomputable def Try.pinned : Pinned := { name := "ytmbloefhgkhoaaa", sum := "2896e751ac01f07c66b73cc3dec66cca8730227050b2a8fc5bccf1ede6be5afa", checked := Try.checked }
namespace Rows
def none {H : Type} : Left H := { results := [], args := [] }

/-- 'ancepslaw07.NondetDetermine': WHATEVER THE INPUT: true; the input reads as it did. -/
def nondetDetermineSpec : ChangeSpec := { name := "nondetDetermine", fn := fun _ => fun
  | [d1, d2] => { results := [.lit (.bool true)], args := [d1, d2] }
  | _ => none }
def nondetDetermineRow : OpenClaim := { program := "ytmbloefhgkhoaaa", sum := "2896e751ac01f07c66b73cc3dec66cca8730227050b2a8fc5bccf1ede6be5afa", func := "anceps/ancepslaw07.NondetDetermine", spec := "nondetDetermine", inPlace := ["internal/abi.NoEscape"], unfollowed := true, recurses := true, plainKeys := false, apart := false }
def NondetDetermineSaid : Prop := nondetDetermineRow.holds Try.pinned (OpenSpec.ofChange nondetDetermineSpec)

/-- ITS FALSE NEIGHBOUR: 'it returns false'. Refute it at one input. -/
def nondetDetermineWrong : ChangeSpec := { name := "nondetDetermine", fn := fun _ => fun
  | [d1, d2] => { results := [.lit (.bool false)], args := [d1, d2] }
  | _ => none }
def NondetDetermineWrongFalsely : Prop := nondetDetermineRow.holds Try.pinned (OpenSpec.ofChange nondetDetermineWrong)

/-- 'ancepslaw07.NondetValid': WHATEVER THE INPUT: true; the input reads as it did. -/
def nondetValidSpec : ChangeSpec := { name := "nondetValid", fn := fun _ => fun
  | [d1, d2, d3] => { results := [.lit (.bool true)], args := [d1, d2, d3] }
  | _ => none }
def nondetValidRow : OpenClaim := { program := "ytmbloefhgkhoaaa", sum := "2896e751ac01f07c66b73cc3dec66cca8730227050b2a8fc5bccf1ede6be5afa", func := "anceps/ancepslaw07.NondetValid", spec := "nondetValid", inPlace := ["internal/abi.NoEscape"], unfollowed := true, recurses := true, plainKeys := false, apart := false }
def NondetValidSaid : Prop := nondetValidRow.holds Try.pinned (OpenSpec.ofChange nondetValidSpec)

/-- ITS FALSE NEIGHBOUR: 'it returns false'. Refute it at one input. -/
def nondetValidWrong : ChangeSpec := { name := "nondetValid", fn := fun _ => fun
  | [d1, d2, d3] => { results := [.lit (.bool false)], args := [d1, d2, d3] }
  | _ => none }
def NondetValidWrongFalsely : Prop := nondetValidRow.holds Try.pinned (OpenSpec.ofChange nondetValidWrong)

/-- 'ancepslaw07.NondetOf': WHATEVER THE INPUT: true; the input reads as it did. -/
def nondetOfSpec : ChangeSpec := { name := "nondetOf", fn := fun _ => fun
  | [d] => { results := [.lit (.bool true)], args := [d] }
  | _ => none }
def nondetOfRow : OpenClaim := { program := "ytmbloefhgkhoaaa", sum := "2896e751ac01f07c66b73cc3dec66cca8730227050b2a8fc5bccf1ede6be5afa", func := "anceps/ancepslaw07.NondetOf", spec := "nondetOf", inPlace := ["internal/abi.NoEscape"], unfollowed := true, recurses := true, plainKeys := false, apart := false }
def NondetOfSaid : Prop := nondetOfRow.holds Try.pinned (OpenSpec.ofChange nondetOfSpec)

/-- ITS FALSE NEIGHBOUR: 'it returns false'. Refute it at one input. -/
def nondetOfWrong : ChangeSpec := { name := "nondetOf", fn := fun _ => fun
  | [d] => { results := [.lit (.bool false)], args := [d] }
  | _ => none }
def NondetOfWrongFalsely : Prop := nondetOfRow.holds Try.pinned (OpenSpec.ofChange nondetOfWrong)

/-- 'ancepslaw07.NondetReversed': WHATEVER THE INPUT: true; the input reads as it did. -/
def nondetReversedSpec : ChangeSpec := { name := "nondetReversed", fn := fun _ => fun
  | [d1, d2] => { results := [.lit (.bool true)], args := [d1, d2] }
  | _ => none }
def nondetReversedRow : OpenClaim := { program := "ytmbloefhgkhoaaa", sum := "2896e751ac01f07c66b73cc3dec66cca8730227050b2a8fc5bccf1ede6be5afa", func := "anceps/ancepslaw07.NondetReversed", spec := "nondetReversed", inPlace := ["internal/abi.NoEscape"], unfollowed := true, recurses := true, plainKeys := false, apart := false }
def NondetReversedSaid : Prop := nondetReversedRow.holds Try.pinned (OpenSpec.ofChange nondetReversedSpec)

/-- ITS FALSE NEIGHBOUR: 'it returns false'. Refute it at one input. -/
def nondetReversedWrong : ChangeSpec := { name := "nondetReversed", fn := fun _ => fun
  | [d1, d2] => { results := [.lit (.bool false)], args := [d1, d2] }
  | _ => none }
def NondetReversedWrongFalsely : Prop := nondetReversedRow.holds Try.pinned (OpenSpec.ofChange nondetReversedWrong)

/-- 'ancepslaw07.NondetTwice': WHATEVER THE INPUT: true; the input reads as it did. -/
def nondetTwiceSpec : ChangeSpec := { name := "nondetTwice", fn := fun _ => fun
  | [d] => { results := [.lit (.bool true)], args := [d] }
  | _ => none }
def nondetTwiceRow : OpenClaim := { program := "ytmbloefhgkhoaaa", sum := "2896e751ac01f07c66b73cc3dec66cca8730227050b2a8fc5bccf1ede6be5afa", func := "anceps/ancepslaw07.NondetTwice", spec := "nondetTwice", inPlace := ["internal/abi.NoEscape"], unfollowed := true, recurses := true, plainKeys := false, apart := false }
def NondetTwiceSaid : Prop := nondetTwiceRow.holds Try.pinned (OpenSpec.ofChange nondetTwiceSpec)

/-- ITS FALSE NEIGHBOUR: 'it returns false'. Refute it at one input. -/
def nondetTwiceWrong : ChangeSpec := { name := "nondetTwice", fn := fun _ => fun
  | [d] => { results := [.lit (.bool false)], args := [d] }
  | _ => none }
def NondetTwiceWrongFalsely : Prop := nondetTwiceRow.holds Try.pinned (OpenSpec.ofChange nondetTwiceWrong)

/-- 'ancepslaw07.NondetLarge': WHATEVER THE INPUT: true; the input reads as it did. -/
def nondetLargeSpec : ChangeSpec := { name := "nondetLarge", fn := fun _ => fun
  | [d1, d2] => { results := [.lit (.bool true)], args := [d1, d2] }
  | _ => none }
def nondetLargeRow : OpenClaim := { program := "ytmbloefhgkhoaaa", sum := "2896e751ac01f07c66b73cc3dec66cca8730227050b2a8fc5bccf1ede6be5afa", func := "anceps/ancepslaw07.NondetLarge", spec := "nondetLarge", inPlace := ["internal/abi.NoEscape"], unfollowed := true, recurses := true, plainKeys := false, apart := false }
def NondetLargeSaid : Prop := nondetLargeRow.holds Try.pinned (OpenSpec.ofChange nondetLargeSpec)

/-- ITS FALSE NEIGHBOUR: 'it returns false'. Refute it at one input. -/
def nondetLargeWrong : ChangeSpec := { name := "nondetLarge", fn := fun _ => fun
  | [d1, d2] => { results := [.lit (.bool false)], args := [d1, d2] }
  | _ => none }
def NondetLargeWrongFalsely : Prop := nondetLargeRow.holds Try.pinned (OpenSpec.ofChange nondetLargeWrong)

/-- 'ancepslaw07.NondetParts': WHATEVER THE INPUT: true; the input reads as it did. -/
def nondetPartsSpec : ChangeSpec := { name := "nondetParts", fn := fun _ => fun
  | [d1, d2, d3] => { results := [.lit (.bool true)], args := [d1, d2, d3] }
  | _ => none }
def nondetPartsRow : OpenClaim := { program := "ytmbloefhgkhoaaa", sum := "2896e751ac01f07c66b73cc3dec66cca8730227050b2a8fc5bccf1ede6be5afa", func := "anceps/ancepslaw07.NondetParts", spec := "nondetParts", inPlace := ["internal/abi.NoEscape"], unfollowed := true, recurses := true, plainKeys := false, apart := false }
def NondetPartsSaid : Prop := nondetPartsRow.holds Try.pinned (OpenSpec.ofChange nondetPartsSpec)

/-- ITS FALSE NEIGHBOUR: 'it returns false'. Refute it at one input. -/
def nondetPartsWrong : ChangeSpec := { name := "nondetParts", fn := fun _ => fun
  | [d1, d2, d3] => { results := [.lit (.bool false)], args := [d1, d2, d3] }
  | _ => none }
def NondetPartsWrongFalsely : Prop := nondetPartsRow.holds Try.pinned (OpenSpec.ofChange nondetPartsWrong)

/-- 'ancepslaw07.NondetErrors': WHATEVER THE INPUT: true; the input reads as it did. -/
def nondetErrorsSpec : ChangeSpec := { name := "nondetErrors", fn := fun _ => fun
  | [d1, d2] => { results := [.lit (.bool true)], args := [d1, d2] }
  | _ => none }
def nondetErrorsRow : OpenClaim := { program := "ytmbloefhgkhoaaa", sum := "2896e751ac01f07c66b73cc3dec66cca8730227050b2a8fc5bccf1ede6be5afa", func := "anceps/ancepslaw07.NondetErrors", spec := "nondetErrors", inPlace := ["internal/abi.NoEscape"], unfollowed := true, recurses := true, plainKeys := false, apart := false }
def NondetErrorsSaid : Prop := nondetErrorsRow.holds Try.pinned (OpenSpec.ofChange nondetErrorsSpec)

/-- ITS FALSE NEIGHBOUR: 'it returns false'. Refute it at one input. -/
def nondetErrorsWrong : ChangeSpec := { name := "nondetErrors", fn := fun _ => fun
  | [d1, d2] => { results := [.lit (.bool false)], args := [d1, d2] }
  | _ => none }
def NondetErrorsWrongFalsely : Prop := nondetErrorsRow.holds Try.pinned (OpenSpec.ofChange nondetErrorsWrong)

/- THE SECOND FORM. 'bulk': how many values and letters a reading holds, each counted each time it is reached (what is shared counts as often as it is met; a slice's spare places count too). A statement '..UptoSaid' is the law's where the arguments, and the package variables that the reading takes, are together of bulk at most 1048576: NARROWER than '..Said'. Prove '..Said' where nothing that the law and all that it calls make is longer than what came in: it says more and counts as full. Else prove '..UptoSaid'. A law counts once. -/
mutual
def uptoBulk {H : Type} : DataW H → Nat
  | .lit (.string bytes) => bytes.length + 1
  | .lit _ => 1
  | .nil => 1
  | .ptr d => uptoBulk d + 1
  | .slice elems spare => uptoBulkAll elems + uptoBulkAll spare + 1
  | .agg parts => uptoBulkAll parts + 1
  | .iface _ d => uptoBulk d + 1
  | .map entries => uptoBulkEntries entries + 1
  | .held _ => 1
def uptoBulkAll {H : Type} : List (DataW H) → Nat
  | [] => 0
  | d :: r => uptoBulk d + uptoBulkAll r
def uptoBulkEntries {H : Type} : List (Lit × DataW H) → Nat
  | [] => 0
  | x :: r => uptoBulkEntry x + uptoBulkEntries r
def uptoBulkEntry {H : Type} : Lit × DataW H → Nat
  | (.string bytes, d) => bytes.length + uptoBulk d + 1
  | (_, d) => uptoBulk d + 1
 end
def uptoSmall : (H : Type) → List (DataW H) → Bool := fun _ ds => decide (uptoBulkAll ds ≤ 1048576)
def OpenSpec.upto (s : _root_.Go.ChangeSpec) : _root_.Go.OpenSpec := { _root_.Go.OpenSpec.ofChange s with cond := some uptoSmall }

/-- 'ancepslaw07.NondetDetermine', WHERE WHAT IT READS IS OF BULK AT MOST 1048576: true; the input reads as it did. -/
def nondetDetermineUptoRow : OpenClaim := { program := "ytmbloefhgkhoaaa", sum := "2896e751ac01f07c66b73cc3dec66cca8730227050b2a8fc5bccf1ede6be5afa", func := "anceps/ancepslaw07.NondetDetermine", spec := "nondetDetermine", inPlace := ["internal/abi.NoEscape"], unfollowed := true, recurses := true, plainKeys := false, apart := false, narrowed := true }
def NondetDetermineUptoSaid : Prop := nondetDetermineUptoRow.holds Try.pinned (OpenSpec.upto nondetDetermineSpec)

/-- 'ancepslaw07.NondetValid', WHERE WHAT IT READS IS OF BULK AT MOST 1048576: true; the input reads as it did. -/
def nondetValidUptoRow : OpenClaim := { program := "ytmbloefhgkhoaaa", sum := "2896e751ac01f07c66b73cc3dec66cca8730227050b2a8fc5bccf1ede6be5afa", func := "anceps/ancepslaw07.NondetValid", spec := "nondetValid", inPlace := ["internal/abi.NoEscape"], unfollowed := true, recurses := true, plainKeys := false, apart := false, narrowed := true }
def NondetValidUptoSaid : Prop := nondetValidUptoRow.holds Try.pinned (OpenSpec.upto nondetValidSpec)

/-- 'ancepslaw07.NondetOf', WHERE WHAT IT READS IS OF BULK AT MOST 1048576: true; the input reads as it did. -/
def nondetOfUptoRow : OpenClaim := { program := "ytmbloefhgkhoaaa", sum := "2896e751ac01f07c66b73cc3dec66cca8730227050b2a8fc5bccf1ede6be5afa", func := "anceps/ancepslaw07.NondetOf", spec := "nondetOf", inPlace := ["internal/abi.NoEscape"], unfollowed := true, recurses := true, plainKeys := false, apart := false, narrowed := true }
def NondetOfUptoSaid : Prop := nondetOfUptoRow.holds Try.pinned (OpenSpec.upto nondetOfSpec)

/-- 'ancepslaw07.NondetReversed', WHERE WHAT IT READS IS OF BULK AT MOST 1048576: true; the input reads as it did. -/
def nondetReversedUptoRow : OpenClaim := { program := "ytmbloefhgkhoaaa", sum := "2896e751ac01f07c66b73cc3dec66cca8730227050b2a8fc5bccf1ede6be5afa", func := "anceps/ancepslaw07.NondetReversed", spec := "nondetReversed", inPlace := ["internal/abi.NoEscape"], unfollowed := true, recurses := true, plainKeys := false, apart := false, narrowed := true }
def NondetReversedUptoSaid : Prop := nondetReversedUptoRow.holds Try.pinned (OpenSpec.upto nondetReversedSpec)

/-- 'ancepslaw07.NondetTwice', WHERE WHAT IT READS IS OF BULK AT MOST 1048576: true; the input reads as it did. -/
def nondetTwiceUptoRow : OpenClaim := { program := "ytmbloefhgkhoaaa", sum := "2896e751ac01f07c66b73cc3dec66cca8730227050b2a8fc5bccf1ede6be5afa", func := "anceps/ancepslaw07.NondetTwice", spec := "nondetTwice", inPlace := ["internal/abi.NoEscape"], unfollowed := true, recurses := true, plainKeys := false, apart := false, narrowed := true }
def NondetTwiceUptoSaid : Prop := nondetTwiceUptoRow.holds Try.pinned (OpenSpec.upto nondetTwiceSpec)

/-- 'ancepslaw07.NondetLarge', WHERE WHAT IT READS IS OF BULK AT MOST 1048576: true; the input reads as it did. -/
def nondetLargeUptoRow : OpenClaim := { program := "ytmbloefhgkhoaaa", sum := "2896e751ac01f07c66b73cc3dec66cca8730227050b2a8fc5bccf1ede6be5afa", func := "anceps/ancepslaw07.NondetLarge", spec := "nondetLarge", inPlace := ["internal/abi.NoEscape"], unfollowed := true, recurses := true, plainKeys := false, apart := false, narrowed := true }
def NondetLargeUptoSaid : Prop := nondetLargeUptoRow.holds Try.pinned (OpenSpec.upto nondetLargeSpec)

/-- 'ancepslaw07.NondetParts', WHERE WHAT IT READS IS OF BULK AT MOST 1048576: true; the input reads as it did. -/
def nondetPartsUptoRow : OpenClaim := { program := "ytmbloefhgkhoaaa", sum := "2896e751ac01f07c66b73cc3dec66cca8730227050b2a8fc5bccf1ede6be5afa", func := "anceps/ancepslaw07.NondetParts", spec := "nondetParts", inPlace := ["internal/abi.NoEscape"], unfollowed := true, recurses := true, plainKeys := false, apart := false, narrowed := true }
def NondetPartsUptoSaid : Prop := nondetPartsUptoRow.holds Try.pinned (OpenSpec.upto nondetPartsSpec)

/-- 'ancepslaw07.NondetErrors', WHERE WHAT IT READS IS OF BULK AT MOST 1048576: true; the input reads as it did. -/
def nondetErrorsUptoRow : OpenClaim := { program := "ytmbloefhgkhoaaa", sum := "2896e751ac01f07c66b73cc3dec66cca8730227050b2a8fc5bccf1ede6be5afa", func := "anceps/ancepslaw07.NondetErrors", spec := "nondetErrors", inPlace := ["internal/abi.NoEscape"], unfollowed := true, recurses := true, plainKeys := false, apart := false, narrowed := true }
def NondetErrorsUptoSaid : Prop := nondetErrorsUptoRow.holds Try.pinned (OpenSpec.upto nondetErrorsSpec)

end Rows
end Go.Proofs.Ytmbloefhgkhoaaa
