/-
  NARROWER THAN 'FOR EVERY INPUT', by the rows' own cells (each row's printed sentence says how): CaesuraMain: loops.
  DERIVED. THE GIVEN ROWS OF THIS SEAT. 7 by the template 'for every input the law returns true; each argument reads behind the call as it read before'; 0 by the template 'total and deterministic' (their statements: YtpkckffbdojegaaTotals.lean).
  GIVEN WITH THE SEED: the statements are not yours to turn. If you find one false, say at which input.
  Laid BY PROGRAM, IN A SANDBOX (cutbox-rows.mjs): the forced cells as the released guide's own fill.sh prints them over the translation 16964eff001626b7… (all of the seat's roots in one cut). By AI agents, Wed Nov 11 2026. No macro, syntax, notation, axiom, sorry.
-/
import Derived.Test.YtpkckffbdojegaaChecked
import GoSem.Claim
import GoSem.ClaimJoined
import GoSem.ClaimMapViews
import Derived.JoinedTies
import Derived.KernelRfl
namespace Go.Proofs.Ytpkckffbdojegaa
/- THE CELL 'sum', in the pinned program and in every row, IS THE sha256 OF THE DUMP (.gsa) THAT YtpkckffbdojegaaProg.lean LOADS. Nothing in Lean hashes anything: it is a label: what it is worth is what the hold of that sum in a sandbox is worth. -/
noncomputable def Try.pinned : Pinned := { name := "ytpkckffbdojegaa", sum := "16964eff001626b7da0fe7d3aee8ff157d94624a0890a7b7e6b21995d5a26a49", checked := Try.checked }
namespace Rows
def none {H : Type} : Left H := { results := [], args := [] }

/-- 'ancepslaw27.CaesuraPlaces': WHATEVER THE INPUT: true; the input reads as it did. -/
def caesuraPlacesSpec : ChangeSpec := { name := "caesuraPlaces", fn := fun _ => fun
  | [d1, d2] => { results := [.lit (.bool true)], args := [d1, d2] }
  | _ => none }
def caesuraPlacesRow : OpenClaim := { program := "ytpkckffbdojegaa", sum := "16964eff001626b7da0fe7d3aee8ff157d94624a0890a7b7e6b21995d5a26a49", func := "anceps/ancepslaw27.CaesuraPlaces", spec := "caesuraPlaces", inPlace := ["internal/abi.NoEscape"], unfollowed := true, recurses := true, apart := false }
def CaesuraPlacesSaid : Prop := caesuraPlacesRow.holds Try.pinned (OpenSpec.ofChange caesuraPlacesSpec)

/-- ITS FALSE NEIGHBOUR: 'it returns false'. Refute it at one input. -/
def caesuraPlacesWrong : ChangeSpec := { name := "caesuraPlaces", fn := fun _ => fun
  | [d1, d2] => { results := [.lit (.bool false)], args := [d1, d2] }
  | _ => none }
def CaesuraPlacesWrongFalsely : Prop := caesuraPlacesRow.holds Try.pinned (OpenSpec.ofChange caesuraPlacesWrong)

/-- 'ancepslaw27.CaesuraBreaks': WHATEVER THE INPUT: true; the input reads as it did. -/
def caesuraBreaksSpec : ChangeSpec := { name := "caesuraBreaks", fn := fun _ => fun
  | [d1, d2] => { results := [.lit (.bool true)], args := [d1, d2] }
  | _ => none }
def caesuraBreaksRow : OpenClaim := { program := "ytpkckffbdojegaa", sum := "16964eff001626b7da0fe7d3aee8ff157d94624a0890a7b7e6b21995d5a26a49", func := "anceps/ancepslaw27.CaesuraBreaks", spec := "caesuraBreaks", inPlace := ["internal/abi.NoEscape"], unfollowed := true, recurses := true, apart := false }
def CaesuraBreaksSaid : Prop := caesuraBreaksRow.holds Try.pinned (OpenSpec.ofChange caesuraBreaksSpec)

/-- ITS FALSE NEIGHBOUR: 'it returns false'. Refute it at one input. -/
def caesuraBreaksWrong : ChangeSpec := { name := "caesuraBreaks", fn := fun _ => fun
  | [d1, d2] => { results := [.lit (.bool false)], args := [d1, d2] }
  | _ => none }
def CaesuraBreaksWrongFalsely : Prop := caesuraBreaksRow.holds Try.pinned (OpenSpec.ofChange caesuraBreaksWrong)

/-- 'ancepslaw27.CaesuraCola': WHATEVER THE INPUT: true; the input reads as it did. -/
def caesuraColaSpec : ChangeSpec := { name := "caesuraCola", fn := fun _ => fun
  | [d] => { results := [.lit (.bool true)], args := [d] }
  | _ => none }
def caesuraColaRow : OpenClaim := { program := "ytpkckffbdojegaa", sum := "16964eff001626b7da0fe7d3aee8ff157d94624a0890a7b7e6b21995d5a26a49", func := "anceps/ancepslaw27.CaesuraCola", spec := "caesuraCola", inPlace := ["internal/abi.NoEscape"], unfollowed := true, recurses := true, apart := false }
def CaesuraColaSaid : Prop := caesuraColaRow.holds Try.pinned (OpenSpec.ofChange caesuraColaSpec)

/-- ITS FALSE NEIGHBOUR: 'it returns false'. Refute it at one input. -/
def caesuraColaWrong : ChangeSpec := { name := "caesuraCola", fn := fun _ => fun
  | [d] => { results := [.lit (.bool false)], args := [d] }
  | _ => none }
def CaesuraColaWrongFalsely : Prop := caesuraColaRow.holds Try.pinned (OpenSpec.ofChange caesuraColaWrong)

/-- 'ancepslaw27.CaesuraText': WHATEVER THE INPUT: true; the input reads as it did. -/
def caesuraTextSpec : ChangeSpec := { name := "caesuraText", fn := fun _ => fun
  | [d1, d2] => { results := [.lit (.bool true)], args := [d1, d2] }
  | _ => none }
def caesuraTextRow : OpenClaim := { program := "ytpkckffbdojegaa", sum := "16964eff001626b7da0fe7d3aee8ff157d94624a0890a7b7e6b21995d5a26a49", func := "anceps/ancepslaw27.CaesuraText", spec := "caesuraText", inPlace := ["internal/abi.NoEscape"], unfollowed := true, recurses := true, apart := false }
def CaesuraTextSaid : Prop := caesuraTextRow.holds Try.pinned (OpenSpec.ofChange caesuraTextSpec)

/-- ITS FALSE NEIGHBOUR: 'it returns false'. Refute it at one input. -/
def caesuraTextWrong : ChangeSpec := { name := "caesuraText", fn := fun _ => fun
  | [d1, d2] => { results := [.lit (.bool false)], args := [d1, d2] }
  | _ => none }
def CaesuraTextWrongFalsely : Prop := caesuraTextRow.holds Try.pinned (OpenSpec.ofChange caesuraTextWrong)

/-- 'ancepslaw27.CaesuraBridges': WHATEVER THE INPUT: true; the input reads as it did. -/
def caesuraBridgesSpec : ChangeSpec := { name := "caesuraBridges", fn := fun _ => fun
  | [d1, d2] => { results := [.lit (.bool true)], args := [d1, d2] }
  | _ => none }
def caesuraBridgesRow : OpenClaim := { program := "ytpkckffbdojegaa", sum := "16964eff001626b7da0fe7d3aee8ff157d94624a0890a7b7e6b21995d5a26a49", func := "anceps/ancepslaw27.CaesuraBridges", spec := "caesuraBridges", inPlace := ["internal/abi.NoEscape"], unfollowed := true, recurses := true, apart := false }
def CaesuraBridgesSaid : Prop := caesuraBridgesRow.holds Try.pinned (OpenSpec.ofChange caesuraBridgesSpec)

/-- ITS FALSE NEIGHBOUR: 'it returns false'. Refute it at one input. -/
def caesuraBridgesWrong : ChangeSpec := { name := "caesuraBridges", fn := fun _ => fun
  | [d1, d2] => { results := [.lit (.bool false)], args := [d1, d2] }
  | _ => none }
def CaesuraBridgesWrongFalsely : Prop := caesuraBridgesRow.holds Try.pinned (OpenSpec.ofChange caesuraBridgesWrong)

/-- 'ancepslaw27.CaesuraRare': WHATEVER THE INPUT: true; the input reads as it did. -/
def caesuraRareSpec : ChangeSpec := { name := "caesuraRare", fn := fun _ => fun
  | [d] => { results := [.lit (.bool true)], args := [d] }
  | _ => none }
def caesuraRareRow : OpenClaim := { program := "ytpkckffbdojegaa", sum := "16964eff001626b7da0fe7d3aee8ff157d94624a0890a7b7e6b21995d5a26a49", func := "anceps/ancepslaw27.CaesuraRare", spec := "caesuraRare", inPlace := ["internal/abi.NoEscape"], unfollowed := true, recurses := true, apart := false }
def CaesuraRareSaid : Prop := caesuraRareRow.holds Try.pinned (OpenSpec.ofChange caesuraRareSpec)

/-- ITS FALSE NEIGHBOUR: 'it returns false'. Refute it at one input. -/
def caesuraRareWrong : ChangeSpec := { name := "caesuraRare", fn := fun _ => fun
  | [d] => { results := [.lit (.bool false)], args := [d] }
  | _ => none }
def CaesuraRareWrongFalsely : Prop := caesuraRareRow.holds Try.pinned (OpenSpec.ofChange caesuraRareWrong)

/-- 'ancepslaw27.CaesuraMain': WHATEVER THE INPUT: true; the input reads as it did. -/
def caesuraMainSpec : ChangeSpec := { name := "caesuraMain", fn := fun _ => fun
  | [d1, d2, d3] => { results := [.lit (.bool true)], args := [d1, d2, d3] }
  | _ => none }
def caesuraMainRow : OpenClaim := { program := "ytpkckffbdojegaa", sum := "16964eff001626b7da0fe7d3aee8ff157d94624a0890a7b7e6b21995d5a26a49", func := "anceps/ancepslaw27.CaesuraMain", spec := "caesuraMain", inPlace := ["internal/abi.NoEscape"], unfollowed := true, recurses := true, loops := true, apart := false }
def CaesuraMainSaid : Prop := caesuraMainRow.holds Try.pinned (OpenSpec.ofChange caesuraMainSpec)

/-- ITS FALSE NEIGHBOUR: 'it returns false'. Refute it at one input. -/
def caesuraMainWrong : ChangeSpec := { name := "caesuraMain", fn := fun _ => fun
  | [d1, d2, d3] => { results := [.lit (.bool false)], args := [d1, d2, d3] }
  | _ => none }
def CaesuraMainWrongFalsely : Prop := caesuraMainRow.holds Try.pinned (OpenSpec.ofChange caesuraMainWrong)

/- THE SECOND FORM. 'bulk': how many values and letters a reading holds, each counted each time it is reached (what is shared counts as often as it is met; a slice's spare places count too). A statement '..UptoSaid' is the law's where the arguments, and the package variables that the reading takes, are together of bulk at most 1048576: NARROWER than '..Said'. Prove '..Said' where nothing that the law and all that it calls make is longer than what came in: it says more and counts as full. Else prove '..UptoSaid'. A law counts once. -/
mutual
def uptoBulk {H : Type} : DataW H → Nat
  | .lit (.string bytes) => bytes.length + 1
  | .lit _ => 1
  | .nil => 1
  | .ptr d => uptoBulk d + 1
  | .slice elems spare => uptoBulkAll elems + uptoBulkAll spare + 1
  | .agg parts => uptoBulkAll parts + 1
  | .iface _ d => uptoBulk d + 1
  | .map entries => uptoBulkEntries entries + 1
  | .held _ => 1
def uptoBulkAll {H : Type} : List (DataW H) → Nat
  | [] => 0
  | d :: r => uptoBulk d + uptoBulkAll r
def uptoBulkEntries {H : Type} : List (Lit × DataW H) → Nat
  | [] => 0
  | x :: r => uptoBulkEntry x + uptoBulkEntries r
def uptoBulkEntry {H : Type} : Lit × DataW H → Nat
  | (.string bytes, d) => bytes.length + uptoBulk d + 1
  | (_, d) => uptoBulk d + 1
 end
def uptoSmall : (H : Type) → List (DataW H) → Bool := fun _ ds => decide (uptoBulkAll ds ≤ 1048576)
def OpenSpec.upto (s : _root_.Go.ChangeSpec) : _root_.Go.OpenSpec := { _root_.Go.OpenSpec.ofChange s with cond := some uptoSmall }

/-- 'ancepslaw27.CaesuraPlaces', WHERE WHAT IT READS IS OF BULK AT MOST 1048576: true; the input reads as it did. -/
def caesuraPlacesUptoRow : OpenClaim := { program := "ytpkckffbdojegaa", sum := "16964eff001626b7da0fe7d3aee8ff157d94624a0890a7b7e6b21995d5a26a49", func := "anceps/ancepslaw27.CaesuraPlaces", spec := "caesuraPlaces", inPlace := ["internal/abi.NoEscape"], unfollowed := true, recurses := true, apart := false, narrowed := true }
def CaesuraPlacesUptoSaid : Prop := caesuraPlacesUptoRow.holds Try.pinned (OpenSpec.upto caesuraPlacesSpec)

/-- 'ancepslaw27.CaesuraBreaks', WHERE WHAT IT READS IS OF BULK AT MOST 1048576: true; the input reads as it did. -/
def caesuraBreaksUptoRow : OpenClaim := { program := "ytpkckffbdojegaa", sum := "16964eff001626b7da0fe7d3aee8ff157d94624a0890a7b7e6b21995d5a26a49", func := "anceps/ancepslaw27.CaesuraBreaks", spec := "caesuraBreaks", inPlace := ["internal/abi.NoEscape"], unfollowed := true, recurses := true, apart := false, narrowed := true }
def CaesuraBreaksUptoSaid : Prop := caesuraBreaksUptoRow.holds Try.pinned (OpenSpec.upto caesuraBreaksSpec)

/-- 'ancepslaw27.CaesuraCola', WHERE WHAT IT READS IS OF BULK AT MOST 1048576: true; the input reads as it did. -/
def caesuraColaUptoRow : OpenClaim := { program := "ytpkckffbdojegaa", sum := "16964eff001626b7da0fe7d3aee8ff157d94624a0890a7b7e6b21995d5a26a49", func := "anceps/ancepslaw27.CaesuraCola", spec := "caesuraCola", inPlace := ["internal/abi.NoEscape"], unfollowed := true, recurses := true, apart := false, narrowed := true }
def CaesuraColaUptoSaid : Prop := caesuraColaUptoRow.holds Try.pinned (OpenSpec.upto caesuraColaSpec)

/-- 'ancepslaw27.CaesuraText', WHERE WHAT IT READS IS OF BULK AT MOST 1048576: true; the input reads as it did. -/
def caesuraTextUptoRow : OpenClaim := { program := "ytpkckffbdojegaa", sum := "16964eff001626b7da0fe7d3aee8ff157d94624a0890a7b7e6b21995d5a26a49", func := "anceps/ancepslaw27.CaesuraText", spec := "caesuraText", inPlace := ["internal/abi.NoEscape"], unfollowed := true, recurses := true, apart := false, narrowed := true }
def CaesuraTextUptoSaid : Prop := caesuraTextUptoRow.holds Try.pinned (OpenSpec.upto caesuraTextSpec)

/-- 'ancepslaw27.CaesuraBridges', WHERE WHAT IT READS IS OF BULK AT MOST 1048576: true; the input reads as it did. -/
def caesuraBridgesUptoRow : OpenClaim := { program := "ytpkckffbdojegaa", sum := "16964eff001626b7da0fe7d3aee8ff157d94624a0890a7b7e6b21995d5a26a49", func := "anceps/ancepslaw27.CaesuraBridges", spec := "caesuraBridges", inPlace := ["internal/abi.NoEscape"], unfollowed := true, recurses := true, apart := false, narrowed := true }
def CaesuraBridgesUptoSaid : Prop := caesuraBridgesUptoRow.holds Try.pinned (OpenSpec.upto caesuraBridgesSpec)

/-- 'ancepslaw27.CaesuraRare', WHERE WHAT IT READS IS OF BULK AT MOST 1048576: true; the input reads as it did. -/
def caesuraRareUptoRow : OpenClaim := { program := "ytpkckffbdojegaa", sum := "16964eff001626b7da0fe7d3aee8ff157d94624a0890a7b7e6b21995d5a26a49", func := "anceps/ancepslaw27.CaesuraRare", spec := "caesuraRare", inPlace := ["internal/abi.NoEscape"], unfollowed := true, recurses := true, apart := false, narrowed := true }
def CaesuraRareUptoSaid : Prop := caesuraRareUptoRow.holds Try.pinned (OpenSpec.upto caesuraRareSpec)

/-- 'ancepslaw27.CaesuraMain', WHERE WHAT IT READS IS OF BULK AT MOST 1048576: true; the input reads as it did. -/
def caesuraMainUptoRow : OpenClaim := { program := "ytpkckffbdojegaa", sum := "16964eff001626b7da0fe7d3aee8ff157d94624a0890a7b7e6b21995d5a26a49", func := "anceps/ancepslaw27.CaesuraMain", spec := "caesuraMain", inPlace := ["internal/abi.NoEscape"], unfollowed := true, recurses := true, loops := true, apart := false, narrowed := true }
def CaesuraMainUptoSaid : Prop := caesuraMainUptoRow.holds Try.pinned (OpenSpec.upto caesuraMainSpec)

end Rows
end Go.Proofs.Ytpkckffbdojegaa
