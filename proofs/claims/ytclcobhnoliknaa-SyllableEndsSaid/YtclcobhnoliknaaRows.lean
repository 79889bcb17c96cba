/-
  No cell of these rows narrows 'for every input' (looked for: loops, veiled, ifaces, maps, wideKeys, modest, calm, conditions, laid).
  DERIVED. THE GIVEN ROWS OF THIS SEAT. 7 by the template 'for every input the law returns true; each argument reads behind the call as it read before'; 0 by the template 'total and deterministic' (their statements: YtclcobhnoliknaaTotals.lean).
  GIVEN WITH THE SEED: the statements are not yours to turn. If you find one false, say at which input.
  Laid BY PROGRAM, IN A SANDBOX (cutbox-rows.mjs): the forced cells as the released guide's own fill.sh prints them over the translation eb91187be14538f6… (all of the seat's roots in one cut). By AI agents, Wed Nov 11 2026. No macro, syntax, notation, axiom, sorry.
-/
import Derived.Test.YtclcobhnoliknaaChecked
import GoSem.Claim
import GoSem.ClaimJoined
import GoSem.ClaimMapViews
import Derived.JoinedTies
import Derived.KernelRfl
namespace Go.Proofs.Ytclcobhnoliknaa
/- THE CELL 'sum', in the pinned program and in every row, IS THE sha256 OF THE DUMP (.gsa) THAT YtclcobhnoliknaaProg.lean LOADS. Nothing in Lean hashes anything: it is a label: what it is worth is what the hold of that sum in a sandbox is worth. -/
noncomputable def Try.pinned : Pinned := { name := "ytclcobhnoliknaa", sum := "eb91187be14538f67cc6e397afbc92135e2c21eab65d21d420479eb08bd9abec", checked := Try.checked }
namespace Rows
def none {H : Type} : Left H := { results := [], args := [] }

/-- 'ancepslaw15.SyllableText': WHATEVER THE INPUT: true; the input reads as it did. -/
def syllableTextSpec : ChangeSpec := { name := "syllableText", fn := fun _ => fun
  | [d1, d2] => { results := [.lit (.bool true)], args := [d1, d2] }
  | _ => none }
def syllableTextRow : OpenClaim := { program := "ytclcobhnoliknaa", sum := "eb91187be14538f67cc6e397afbc92135e2c21eab65d21d420479eb08bd9abec", func := "anceps/ancepslaw15.SyllableText", spec := "syllableText", inPlace := ["internal/abi.NoEscape"], unfollowed := true, recurses := true, apart := false }
def SyllableTextSaid : Prop := syllableTextRow.holds Try.pinned (OpenSpec.ofChange syllableTextSpec)

/-- ITS FALSE NEIGHBOUR: 'it returns false'. Refute it at one input. -/
def syllableTextWrong : ChangeSpec := { name := "syllableText", fn := fun _ => fun
  | [d1, d2] => { results := [.lit (.bool false)], args := [d1, d2] }
  | _ => none }
def SyllableTextWrongFalsely : Prop := syllableTextRow.holds Try.pinned (OpenSpec.ofChange syllableTextWrong)

/-- 'ancepslaw15.SyllableWord': WHATEVER THE INPUT: true; the input reads as it did. -/
def syllableWordSpec : ChangeSpec := { name := "syllableWord", fn := fun _ => fun
  | [d1, d2] => { results := [.lit (.bool true)], args := [d1, d2] }
  | _ => none }
def syllableWordRow : OpenClaim := { program := "ytclcobhnoliknaa", sum := "eb91187be14538f67cc6e397afbc92135e2c21eab65d21d420479eb08bd9abec", func := "anceps/ancepslaw15.SyllableWord", spec := "syllableWord", inPlace := ["internal/abi.NoEscape"], unfollowed := true, recurses := true, apart := false }
def SyllableWordSaid : Prop := syllableWordRow.holds Try.pinned (OpenSpec.ofChange syllableWordSpec)

/-- ITS FALSE NEIGHBOUR: 'it returns false'. Refute it at one input. -/
def syllableWordWrong : ChangeSpec := { name := "syllableWord", fn := fun _ => fun
  | [d1, d2] => { results := [.lit (.bool false)], args := [d1, d2] }
  | _ => none }
def SyllableWordWrongFalsely : Prop := syllableWordRow.holds Try.pinned (OpenSpec.ofChange syllableWordWrong)

/-- 'ancepslaw15.SyllableOpen': WHATEVER THE INPUT: true; the input reads as it did. -/
def syllableOpenSpec : ChangeSpec := { name := "syllableOpen", fn := fun _ => fun
  | [d1, d2] => { results := [.lit (.bool true)], args := [d1, d2] }
  | _ => none }
def syllableOpenRow : OpenClaim := { program := "ytclcobhnoliknaa", sum := "eb91187be14538f67cc6e397afbc92135e2c21eab65d21d420479eb08bd9abec", func := "anceps/ancepslaw15.SyllableOpen", spec := "syllableOpen", inPlace := ["internal/abi.NoEscape"], unfollowed := true, recurses := true, apart := false }
def SyllableOpenSaid : Prop := syllableOpenRow.holds Try.pinned (OpenSpec.ofChange syllableOpenSpec)

/-- ITS FALSE NEIGHBOUR: 'it returns false'. Refute it at one input. -/
def syllableOpenWrong : ChangeSpec := { name := "syllableOpen", fn := fun _ => fun
  | [d1, d2] => { results := [.lit (.bool false)], args := [d1, d2] }
  | _ => none }
def SyllableOpenWrongFalsely : Prop := syllableOpenRow.holds Try.pinned (OpenSpec.ofChange syllableOpenWrong)

/-- 'ancepslaw15.SyllableCovers': WHATEVER THE INPUT: true; the input reads as it did. -/
def syllableCoversSpec : ChangeSpec := { name := "syllableCovers", fn := fun _ => fun
  | [d] => { results := [.lit (.bool true)], args := [d] }
  | _ => none }
def syllableCoversRow : OpenClaim := { program := "ytclcobhnoliknaa", sum := "eb91187be14538f67cc6e397afbc92135e2c21eab65d21d420479eb08bd9abec", func := "anceps/ancepslaw15.SyllableCovers", spec := "syllableCovers", inPlace := ["internal/abi.NoEscape"], unfollowed := true, recurses := true, apart := false }
def SyllableCoversSaid : Prop := syllableCoversRow.holds Try.pinned (OpenSpec.ofChange syllableCoversSpec)

/-- ITS FALSE NEIGHBOUR: 'it returns false'. Refute it at one input. -/
def syllableCoversWrong : ChangeSpec := { name := "syllableCovers", fn := fun _ => fun
  | [d] => { results := [.lit (.bool false)], args := [d] }
  | _ => none }
def SyllableCoversWrongFalsely : Prop := syllableCoversRow.holds Try.pinned (OpenSpec.ofChange syllableCoversWrong)

/-- 'ancepslaw15.SyllableDivide': WHATEVER THE INPUT: true; the input reads as it did. -/
def syllableDivideSpec : ChangeSpec := { name := "syllableDivide", fn := fun _ => fun
  | [d1, d2, d3] => { results := [.lit (.bool true)], args := [d1, d2, d3] }
  | _ => none }
def syllableDivideRow : OpenClaim := { program := "ytclcobhnoliknaa", sum := "eb91187be14538f67cc6e397afbc92135e2c21eab65d21d420479eb08bd9abec", func := "anceps/ancepslaw15.SyllableDivide", spec := "syllableDivide", inPlace := ["internal/abi.NoEscape"], unfollowed := true, recurses := true, apart := false }
def SyllableDivideSaid : Prop := syllableDivideRow.holds Try.pinned (OpenSpec.ofChange syllableDivideSpec)

/-- ITS FALSE NEIGHBOUR: 'it returns false'. Refute it at one input. -/
def syllableDivideWrong : ChangeSpec := { name := "syllableDivide", fn := fun _ => fun
  | [d1, d2, d3] => { results := [.lit (.bool false)], args := [d1, d2, d3] }
  | _ => none }
def SyllableDivideWrongFalsely : Prop := syllableDivideRow.holds Try.pinned (OpenSpec.ofChange syllableDivideWrong)

/-- 'ancepslaw15.SyllableEnds': WHATEVER THE INPUT: true; the input reads as it did. -/
def syllableEndsSpec : ChangeSpec := { name := "syllableEnds", fn := fun _ => fun
  | [d] => { results := [.lit (.bool true)], args := [d] }
  | _ => none }
def syllableEndsRow : OpenClaim := { program := "ytclcobhnoliknaa", sum := "eb91187be14538f67cc6e397afbc92135e2c21eab65d21d420479eb08bd9abec", func := "anceps/ancepslaw15.SyllableEnds", spec := "syllableEnds", inPlace := ["internal/abi.NoEscape"], unfollowed := true, recurses := true, apart := false }
def SyllableEndsSaid : Prop := syllableEndsRow.holds Try.pinned (OpenSpec.ofChange syllableEndsSpec)

/-- ITS FALSE NEIGHBOUR: 'it returns false'. Refute it at one input. -/
def syllableEndsWrong : ChangeSpec := { name := "syllableEnds", fn := fun _ => fun
  | [d] => { results := [.lit (.bool false)], args := [d] }
  | _ => none }
def SyllableEndsWrongFalsely : Prop := syllableEndsRow.holds Try.pinned (OpenSpec.ofChange syllableEndsWrong)

/-- 'ancepslaw15.SyllableBetween': WHATEVER THE INPUT: true; the input reads as it did. -/
def syllableBetweenSpec : ChangeSpec := { name := "syllableBetween", fn := fun _ => fun
  | [d1, d2, d3] => { results := [.lit (.bool true)], args := [d1, d2, d3] }
  | _ => none }
def syllableBetweenRow : OpenClaim := { program := "ytclcobhnoliknaa", sum := "eb91187be14538f67cc6e397afbc92135e2c21eab65d21d420479eb08bd9abec", func := "anceps/ancepslaw15.SyllableBetween", spec := "syllableBetween", inPlace := ["internal/abi.NoEscape"], unfollowed := true, recurses := true, apart := false }
def SyllableBetweenSaid : Prop := syllableBetweenRow.holds Try.pinned (OpenSpec.ofChange syllableBetweenSpec)

/-- ITS FALSE NEIGHBOUR: 'it returns false'. Refute it at one input. -/
def syllableBetweenWrong : ChangeSpec := { name := "syllableBetween", fn := fun _ => fun
  | [d1, d2, d3] => { results := [.lit (.bool false)], args := [d1, d2, d3] }
  | _ => none }
def SyllableBetweenWrongFalsely : Prop := syllableBetweenRow.holds Try.pinned (OpenSpec.ofChange syllableBetweenWrong)

/- THE SECOND FORM. 'bulk': how many values and letters a reading holds, each counted each time it is reached (what is shared counts as often as it is met; a slice's spare places count too). A statement '..UptoSaid' is the law's where the arguments, and the package variables that the reading takes, are together of bulk at most 1048576: NARROWER than '..Said'. Prove '..Said' where nothing that the law and all that it calls make is longer than what came in: it says more and counts as full. Else prove '..UptoSaid'. A law counts once. -/
mutual
def uptoBulk {H : Type} : DataW H → Nat
  | .lit (.string bytes) => bytes.length + 1
  | .lit _ => 1
  | .nil => 1
  | .ptr d => uptoBulk d + 1
  | .slice elems spare => uptoBulkAll elems + uptoBulkAll spare + 1
  | .agg parts => uptoBulkAll parts + 1
  | .iface _ d => uptoBulk d + 1
  | .map entries => uptoBulkEntries entries + 1
  | .held _ => 1
def uptoBulkAll {H : Type} : List (DataW H) → Nat
  | [] => 0
  | d :: r => uptoBulk d + uptoBulkAll r
def uptoBulkEntries {H : Type} : List (Lit × DataW H) → Nat
  | [] => 0
  | x :: r => uptoBulkEntry x + uptoBulkEntries r
def uptoBulkEntry {H : Type} : Lit × DataW H → Nat
  | (.string bytes, d) => bytes.length + uptoBulk d + 1
  | (_, d) => uptoBulk d + 1
 end
def uptoSmall : (H : Type) → List (DataW H) → Bool := fun _ ds => decide (uptoBulkAll ds ≤ 1048576)
def OpenSpec.upto (s : _root_.Go.ChangeSpec) : _root_.Go.OpenSpec := { _root_.Go.OpenSpec.ofChange s with cond := some uptoSmall }

/-- 'ancepslaw15.SyllableText', WHERE WHAT IT READS IS OF BULK AT MOST 1048576: true; the input reads as it did. -/
def syllableTextUptoRow : OpenClaim := { program := "ytclcobhnoliknaa", sum := "eb91187be14538f67cc6e397afbc92135e2c21eab65d21d420479eb08bd9abec", func := "anceps/ancepslaw15.SyllableText", spec := "syllableText", inPlace := ["internal/abi.NoEscape"], unfollowed := true, recurses := true, apart := false, narrowed := true }
def SyllableTextUptoSaid : Prop := syllableTextUptoRow.holds Try.pinned (OpenSpec.upto syllableTextSpec)

/-- 'ancepslaw15.SyllableWord', WHERE WHAT IT READS IS OF BULK AT MOST 1048576: true; the input reads as it did. -/
def syllableWordUptoRow : OpenClaim := { program := "ytclcobhnoliknaa", sum := "eb91187be14538f67cc6e397afbc92135e2c21eab65d21d420479eb08bd9abec", func := "anceps/ancepslaw15.SyllableWord", spec := "syllableWord", inPlace := ["internal/abi.NoEscape"], unfollowed := true, recurses := true, apart := false, narrowed := true }
def SyllableWordUptoSaid : Prop := syllableWordUptoRow.holds Try.pinned (OpenSpec.upto syllableWordSpec)

/-- 'ancepslaw15.SyllableOpen', WHERE WHAT IT READS IS OF BULK AT MOST 1048576: true; the input reads as it did. -/
def syllableOpenUptoRow : OpenClaim := { program := "ytclcobhnoliknaa", sum := "eb91187be14538f67cc6e397afbc92135e2c21eab65d21d420479eb08bd9abec", func := "anceps/ancepslaw15.SyllableOpen", spec := "syllableOpen", inPlace := ["internal/abi.NoEscape"], unfollowed := true, recurses := true, apart := false, narrowed := true }
def SyllableOpenUptoSaid : Prop := syllableOpenUptoRow.holds Try.pinned (OpenSpec.upto syllableOpenSpec)

/-- 'ancepslaw15.SyllableCovers', WHERE WHAT IT READS IS OF BULK AT MOST 1048576: true; the input reads as it did. -/
def syllableCoversUptoRow : OpenClaim := { program := "ytclcobhnoliknaa", sum := "eb91187be14538f67cc6e397afbc92135e2c21eab65d21d420479eb08bd9abec", func := "anceps/ancepslaw15.SyllableCovers", spec := "syllableCovers", inPlace := ["internal/abi.NoEscape"], unfollowed := true, recurses := true, apart := false, narrowed := true }
def SyllableCoversUptoSaid : Prop := syllableCoversUptoRow.holds Try.pinned (OpenSpec.upto syllableCoversSpec)

/-- 'ancepslaw15.SyllableDivide', WHERE WHAT IT READS IS OF BULK AT MOST 1048576: true; the input reads as it did. -/
def syllableDivideUptoRow : OpenClaim := { program := "ytclcobhnoliknaa", sum := "eb91187be14538f67cc6e397afbc92135e2c21eab65d21d420479eb08bd9abec", func := "anceps/ancepslaw15.SyllableDivide", spec := "syllableDivide", inPlace := ["internal/abi.NoEscape"], unfollowed := true, recurses := true, apart := false, narrowed := true }
def SyllableDivideUptoSaid : Prop := syllableDivideUptoRow.holds Try.pinned (OpenSpec.upto syllableDivideSpec)

/-- 'ancepslaw15.SyllableEnds', WHERE WHAT IT READS IS OF BULK AT MOST 1048576: true; the input reads as it did. -/
def syllableEndsUptoRow : OpenClaim := { program := "ytclcobhnoliknaa", sum := "eb91187be14538f67cc6e397afbc92135e2c21eab65d21d420479eb08bd9abec", func := "anceps/ancepslaw15.SyllableEnds", spec := "syllableEnds", inPlace := ["internal/abi.NoEscape"], unfollowed := true, recurses := true, apart := false, narrowed := true }
def SyllableEndsUptoSaid : Prop := syllableEndsUptoRow.holds Try.pinned (OpenSpec.upto syllableEndsSpec)

/-- 'ancepslaw15.SyllableBetween', WHERE WHAT IT READS IS OF BULK AT MOST 1048576: true; the input reads as it did. -/
def syllableBetweenUptoRow : OpenClaim := { program := "ytclcobhnoliknaa", sum := "eb91187be14538f67cc6e397afbc92135e2c21eab65d21d420479eb08bd9abec", func := "anceps/ancepslaw15.SyllableBetween", spec := "syllableBetween", inPlace := ["internal/abi.NoEscape"], unfollowed := true, recurses := true, apart := false, narrowed := true }
def SyllableBetweenUptoSaid : Prop := syllableBetweenUptoRow.holds Try.pinned (OpenSpec.upto syllableBetweenSpec)

end Rows
end Go.Proofs.Ytclcobhnoliknaa
