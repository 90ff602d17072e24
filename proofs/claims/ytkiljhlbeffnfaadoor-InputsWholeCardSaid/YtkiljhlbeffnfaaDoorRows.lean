/-
  NARROWER THAN 'FOR EVERY INPUT', by the rows' own cells (each row's printed sentence says how): InputsBytes: laid · InputsRunes: laid · InputsPlaces: laid · InputsKinds: laid · InputsLines: laid · InputsTurned: laid · InputsWhole: laid.
  DERIVED. THE GIVEN ROWS OF THIS SEAT. 7 by the template 'for every input the law returns true; each argument reads behind the call as it read before'; 0 by the template 'total and deterministic' (their statements: YtkiljhlbeffnfaaDoorTotals.lean).
  GIVEN WITH THE SEED: the statements are not yours to turn. If you find one false, say at which input.
  Laid BY PROGRAM, IN A SANDBOX (cutbox-rows.mjs): the forced cells as the released guide's own fill.sh prints them over the translation 8ce91294127f2795… (all of the seat's roots in one cut). By AI agents, Wed Nov 11 2026. No macro, syntax, notation, axiom, sorry.
-/
import Derived.Test.YtkiljhlbeffnfaaDoorChecked
import GoSem.PinnedTables
import GoSem.Claim
import GoSem.ClaimJoined
import GoSem.ClaimMapViews
import Derived.JoinedTies
import Derived.KernelRfl
namespace Go.Proofs.YtkiljhlbeffnfaaDoor
/- THE CELL 'sum', in the pinned program and in every row, IS THE sha256 OF THE DUMP (.gsa) THAT YtkiljhlbeffnfaaDoorProg.lean LOADS. Nothing in Lean hashes anything: it is a label: what it is worth is what the hold of that sum in a sandbox is worth. -/
noncomputable def Tryd.pinned : Pinned := { name := "ytkiljhlbeffnfaadoor", sum := "8ce91294127f2795a5bc9db6cfb62259be67dcb2a04d1ec7dae8e8b2532bfcf3", checked := Tryd.checked }
namespace Rows
def none {H : Type} : Left H := { results := [], args := [] }

/- WHAT THE LISTED PACKAGE-LEVEL VARIABLES READ AS WHEN THE CALL BEGINS. Each datum BY PROGRAM (the guide's laid-datum.mjs) off the statement by which the dump's own 'gosem.cut.vars' lays the variable. In a bare row this is a premise. The card (YtkiljhlbeffnfaaDoorCards.lean) ties it to the program's text. -/
def laid_unicode_utf8_acceptRanges {H : Type} : DataW H := .agg [.agg [.lit (.int .u8 128), .lit (.int .u8 191)], .agg [.lit (.int .u8 160), .lit (.int .u8 191)], .agg [.lit (.int .u8 128), .lit (.int .u8 159)], .agg [.lit (.int .u8 144), .lit (.int .u8 191)], .agg [.lit (.int .u8 128), .lit (.int .u8 143)], .agg [.lit (.int .u8 0), .lit (.int .u8 0)], .agg [.lit (.int .u8 0), .lit (.int .u8 0)], .agg [.lit (.int .u8 0), .lit (.int .u8 0)], .agg [.lit (.int .u8 0), .lit (.int .u8 0)], .agg [.lit (.int .u8 0), .lit (.int .u8 0)], .agg [.lit (.int .u8 0), .lit (.int .u8 0)], .agg [.lit (.int .u8 0), .lit (.int .u8 0)], .agg [.lit (.int .u8 0), .lit (.int .u8 0)], .agg [.lit (.int .u8 0), .lit (.int .u8 0)], .agg [.lit (.int .u8 0), .lit (.int .u8 0)], .agg [.lit (.int .u8 0), .lit (.int .u8 0)]]
/-- One of Go's own tables, pinned by name: the form's constant. -/
def laid_unicode_utf8_first : DataW Unit := Go.Pinned.utf8First

/-- 'martellolaw01.InputsBytes': WHATEVER THE INPUT: true; the input reads as it did. -/
def inputsBytesSpec : ChangeSpec := { name := "inputsBytes", fn := fun _ => fun
  | [d1, d2, d3, d4] => { results := [.lit (.bool true)], args := [d1, d2, d3, d4] }
  | _ => none }
def inputsBytesRow : OpenClaim := { program := "ytkiljhlbeffnfaadoor", sum := "8ce91294127f2795a5bc9db6cfb62259be67dcb2a04d1ec7dae8e8b2532bfcf3", func := "martello/martellolaw01.InputsBytes", spec := "inputsBytes", named := ["unicode/utf8.first", "unicode/utf8.acceptRanges"], apart := false, laid := [("unicode/utf8.acceptRanges", laid_unicode_utf8_acceptRanges), ("unicode/utf8.first", laid_unicode_utf8_first)] }
def InputsBytesSaid : Prop := inputsBytesRow.holds Tryd.pinned (OpenSpec.ofChange inputsBytesSpec)

/-- ITS FALSE NEIGHBOUR: 'it returns false'. Refute it at one input. -/
def inputsBytesWrong : ChangeSpec := { name := "inputsBytes", fn := fun _ => fun
  | [d1, d2, d3, d4] => { results := [.lit (.bool false)], args := [d1, d2, d3, d4] }
  | _ => none }
def InputsBytesWrongFalsely : Prop := inputsBytesRow.holds Tryd.pinned (OpenSpec.ofChange inputsBytesWrong)

/-- 'martellolaw01.InputsRunes': WHATEVER THE INPUT: true; the input reads as it did. -/
def inputsRunesSpec : ChangeSpec := { name := "inputsRunes", fn := fun _ => fun
  | [d1, d2] => { results := [.lit (.bool true)], args := [d1, d2] }
  | _ => none }
def inputsRunesRow : OpenClaim := { program := "ytkiljhlbeffnfaadoor", sum := "8ce91294127f2795a5bc9db6cfb62259be67dcb2a04d1ec7dae8e8b2532bfcf3", func := "martello/martellolaw01.InputsRunes", spec := "inputsRunes", unfollowed := true, recurses := true, named := ["unicode/utf8.first", "unicode/utf8.acceptRanges"], apart := false, laid := [("unicode/utf8.acceptRanges", laid_unicode_utf8_acceptRanges), ("unicode/utf8.first", laid_unicode_utf8_first)] }
def InputsRunesSaid : Prop := inputsRunesRow.holds Tryd.pinned (OpenSpec.ofChange inputsRunesSpec)

/-- ITS FALSE NEIGHBOUR: 'it returns false'. Refute it at one input. -/
def inputsRunesWrong : ChangeSpec := { name := "inputsRunes", fn := fun _ => fun
  | [d1, d2] => { results := [.lit (.bool false)], args := [d1, d2] }
  | _ => none }
def InputsRunesWrongFalsely : Prop := inputsRunesRow.holds Tryd.pinned (OpenSpec.ofChange inputsRunesWrong)

/-- 'martellolaw01.InputsPlaces': WHATEVER THE INPUT: true; the input reads as it did. -/
def inputsPlacesSpec : ChangeSpec := { name := "inputsPlaces", fn := fun _ => fun
  | [d1, d2] => { results := [.lit (.bool true)], args := [d1, d2] }
  | _ => none }
def inputsPlacesRow : OpenClaim := { program := "ytkiljhlbeffnfaadoor", sum := "8ce91294127f2795a5bc9db6cfb62259be67dcb2a04d1ec7dae8e8b2532bfcf3", func := "martello/martellolaw01.InputsPlaces", spec := "inputsPlaces", named := ["unicode/utf8.first", "unicode/utf8.acceptRanges"], apart := false, laid := [("unicode/utf8.acceptRanges", laid_unicode_utf8_acceptRanges), ("unicode/utf8.first", laid_unicode_utf8_first)] }
def InputsPlacesSaid : Prop := inputsPlacesRow.holds Tryd.pinned (OpenSpec.ofChange inputsPlacesSpec)

/-- ITS FALSE NEIGHBOUR: 'it returns false'. Refute it at one input. -/
def inputsPlacesWrong : ChangeSpec := { name := "inputsPlaces", fn := fun _ => fun
  | [d1, d2] => { results := [.lit (.bool false)], args := [d1, d2] }
  | _ => none }
def InputsPlacesWrongFalsely : Prop := inputsPlacesRow.holds Tryd.pinned (OpenSpec.ofChange inputsPlacesWrong)

/-- 'martellolaw01.InputsKinds': WHATEVER THE INPUT: true; the input reads as it did. -/
def inputsKindsSpec : ChangeSpec := { name := "inputsKinds", fn := fun _ => fun
  | [d] => { results := [.lit (.bool true)], args := [d] }
  | _ => none }
def inputsKindsRow : OpenClaim := { program := "ytkiljhlbeffnfaadoor", sum := "8ce91294127f2795a5bc9db6cfb62259be67dcb2a04d1ec7dae8e8b2532bfcf3", func := "martello/martellolaw01.InputsKinds", spec := "inputsKinds", named := ["unicode/utf8.first", "unicode/utf8.acceptRanges"], apart := false, laid := [("unicode/utf8.acceptRanges", laid_unicode_utf8_acceptRanges), ("unicode/utf8.first", laid_unicode_utf8_first)] }
def InputsKindsSaid : Prop := inputsKindsRow.holds Tryd.pinned (OpenSpec.ofChange inputsKindsSpec)

/-- ITS FALSE NEIGHBOUR: 'it returns false'. Refute it at one input. -/
def inputsKindsWrong : ChangeSpec := { name := "inputsKinds", fn := fun _ => fun
  | [d] => { results := [.lit (.bool false)], args := [d] }
  | _ => none }
def InputsKindsWrongFalsely : Prop := inputsKindsRow.holds Tryd.pinned (OpenSpec.ofChange inputsKindsWrong)

/-- 'martellolaw01.InputsLines': WHATEVER THE INPUT: true; the input reads as it did. -/
def inputsLinesSpec : ChangeSpec := { name := "inputsLines", fn := fun _ => fun
  | [d1, d2] => { results := [.lit (.bool true)], args := [d1, d2] }
  | _ => none }
def inputsLinesRow : OpenClaim := { program := "ytkiljhlbeffnfaadoor", sum := "8ce91294127f2795a5bc9db6cfb62259be67dcb2a04d1ec7dae8e8b2532bfcf3", func := "martello/martellolaw01.InputsLines", spec := "inputsLines", named := ["unicode/utf8.first", "unicode/utf8.acceptRanges"], apart := false, laid := [("unicode/utf8.acceptRanges", laid_unicode_utf8_acceptRanges), ("unicode/utf8.first", laid_unicode_utf8_first)] }
def InputsLinesSaid : Prop := inputsLinesRow.holds Tryd.pinned (OpenSpec.ofChange inputsLinesSpec)

/-- ITS FALSE NEIGHBOUR: 'it returns false'. Refute it at one input. -/
def inputsLinesWrong : ChangeSpec := { name := "inputsLines", fn := fun _ => fun
  | [d1, d2] => { results := [.lit (.bool false)], args := [d1, d2] }
  | _ => none }
def InputsLinesWrongFalsely : Prop := inputsLinesRow.holds Tryd.pinned (OpenSpec.ofChange inputsLinesWrong)

/-- 'martellolaw01.InputsTurned': WHATEVER THE INPUT: true; the input reads as it did. -/
def inputsTurnedSpec : ChangeSpec := { name := "inputsTurned", fn := fun _ => fun
  | [d1, d2] => { results := [.lit (.bool true)], args := [d1, d2] }
  | _ => none }
def inputsTurnedRow : OpenClaim := { program := "ytkiljhlbeffnfaadoor", sum := "8ce91294127f2795a5bc9db6cfb62259be67dcb2a04d1ec7dae8e8b2532bfcf3", func := "martello/martellolaw01.InputsTurned", spec := "inputsTurned", named := ["unicode/utf8.first", "unicode/utf8.acceptRanges"], apart := false, laid := [("unicode/utf8.acceptRanges", laid_unicode_utf8_acceptRanges), ("unicode/utf8.first", laid_unicode_utf8_first)] }
def InputsTurnedSaid : Prop := inputsTurnedRow.holds Tryd.pinned (OpenSpec.ofChange inputsTurnedSpec)

/-- ITS FALSE NEIGHBOUR: 'it returns false'. Refute it at one input. -/
def inputsTurnedWrong : ChangeSpec := { name := "inputsTurned", fn := fun _ => fun
  | [d1, d2] => { results := [.lit (.bool false)], args := [d1, d2] }
  | _ => none }
def InputsTurnedWrongFalsely : Prop := inputsTurnedRow.holds Tryd.pinned (OpenSpec.ofChange inputsTurnedWrong)

/-- 'martellolaw01.InputsWhole': WHATEVER THE INPUT: true; the input reads as it did. -/
def inputsWholeSpec : ChangeSpec := { name := "inputsWhole", fn := fun _ => fun
  | [d1, d2] => { results := [.lit (.bool true)], args := [d1, d2] }
  | _ => none }
def inputsWholeRow : OpenClaim := { program := "ytkiljhlbeffnfaadoor", sum := "8ce91294127f2795a5bc9db6cfb62259be67dcb2a04d1ec7dae8e8b2532bfcf3", func := "martello/martellolaw01.InputsWhole", spec := "inputsWhole", unfollowed := true, recurses := true, named := ["unicode/utf8.first", "unicode/utf8.acceptRanges"], apart := false, laid := [("unicode/utf8.acceptRanges", laid_unicode_utf8_acceptRanges), ("unicode/utf8.first", laid_unicode_utf8_first)] }
def InputsWholeSaid : Prop := inputsWholeRow.holds Tryd.pinned (OpenSpec.ofChange inputsWholeSpec)

/-- ITS FALSE NEIGHBOUR: 'it returns false'. Refute it at one input. -/
def inputsWholeWrong : ChangeSpec := { name := "inputsWhole", fn := fun _ => fun
  | [d1, d2] => { results := [.lit (.bool false)], args := [d1, d2] }
  | _ => none }
def InputsWholeWrongFalsely : Prop := inputsWholeRow.holds Tryd.pinned (OpenSpec.ofChange inputsWholeWrong)

/- THE SECOND FORM. 'bulk': how many values and letters a reading holds, each counted each time it is reached (what is shared counts as often as it is met; a slice's spare places count too). A statement '..UptoSaid' is the law's where the arguments, and the package variables that the reading takes, are together of bulk at most 1048576: NARROWER than '..Said'. Prove '..Said' where nothing that the law and all that it calls make is longer than what came in: it says more and counts as full. Else prove '..UptoSaid'. A law counts once. -/
mutual
def uptoBulk {H : Type} : DataW H → Nat
  | .lit (.string bytes) => bytes.length + 1
  | .lit _ => 1
  | .nil => 1
  | .ptr d => uptoBulk d + 1
  | .slice elems spare => uptoBulkAll elems + uptoBulkAll spare + 1
  | .agg parts => uptoBulkAll parts + 1
  | .iface _ d => uptoBulk d + 1
  | .map entries => uptoBulkEntries entries + 1
  | .held _ => 1
def uptoBulkAll {H : Type} : List (DataW H) → Nat
  | [] => 0
  | d :: r => uptoBulk d + uptoBulkAll r
def uptoBulkEntries {H : Type} : List (Lit × DataW H) → Nat
  | [] => 0
  | x :: r => uptoBulkEntry x + uptoBulkEntries r
def uptoBulkEntry {H : Type} : Lit × DataW H → Nat
  | (.string bytes, d) => bytes.length + uptoBulk d + 1
  | (_, d) => uptoBulk d + 1
 end
def uptoSmall : (H : Type) → List (DataW H) → Bool := fun _ ds => decide (uptoBulkAll ds ≤ 1048576)
def OpenSpec.upto (s : _root_.Go.ChangeSpec) : _root_.Go.OpenSpec := { _root_.Go.OpenSpec.ofChange s with cond := some uptoSmall }

/-- 'martellolaw01.InputsBytes', WHERE WHAT IT READS IS OF BULK AT MOST 1048576: true; the input reads as it did. -/
def inputsBytesUptoRow : OpenClaim := { program := "ytkiljhlbeffnfaadoor", sum := "8ce91294127f2795a5bc9db6cfb62259be67dcb2a04d1ec7dae8e8b2532bfcf3", func := "martello/martellolaw01.InputsBytes", spec := "inputsBytes", named := ["unicode/utf8.first", "unicode/utf8.acceptRanges"], apart := false, laid := [("unicode/utf8.acceptRanges", laid_unicode_utf8_acceptRanges), ("unicode/utf8.first", laid_unicode_utf8_first)], narrowed := true }
def InputsBytesUptoSaid : Prop := inputsBytesUptoRow.holds Tryd.pinned (OpenSpec.upto inputsBytesSpec)

/-- 'martellolaw01.InputsRunes', WHERE WHAT IT READS IS OF BULK AT MOST 1048576: true; the input reads as it did. -/
def inputsRunesUptoRow : OpenClaim := { program := "ytkiljhlbeffnfaadoor", sum := "8ce91294127f2795a5bc9db6cfb62259be67dcb2a04d1ec7dae8e8b2532bfcf3", func := "martello/martellolaw01.InputsRunes", spec := "inputsRunes", unfollowed := true, recurses := true, named := ["unicode/utf8.first", "unicode/utf8.acceptRanges"], apart := false, laid := [("unicode/utf8.acceptRanges", laid_unicode_utf8_acceptRanges), ("unicode/utf8.first", laid_unicode_utf8_first)], narrowed := true }
def InputsRunesUptoSaid : Prop := inputsRunesUptoRow.holds Tryd.pinned (OpenSpec.upto inputsRunesSpec)

/-- 'martellolaw01.InputsPlaces', WHERE WHAT IT READS IS OF BULK AT MOST 1048576: true; the input reads as it did. -/
def inputsPlacesUptoRow : OpenClaim := { program := "ytkiljhlbeffnfaadoor", sum := "8ce91294127f2795a5bc9db6cfb62259be67dcb2a04d1ec7dae8e8b2532bfcf3", func := "martello/martellolaw01.InputsPlaces", spec := "inputsPlaces", named := ["unicode/utf8.first", "unicode/utf8.acceptRanges"], apart := false, laid := [("unicode/utf8.acceptRanges", laid_unicode_utf8_acceptRanges), ("unicode/utf8.first", laid_unicode_utf8_first)], narrowed := true }
def InputsPlacesUptoSaid : Prop := inputsPlacesUptoRow.holds Tryd.pinned (OpenSpec.upto inputsPlacesSpec)

/-- 'martellolaw01.InputsKinds', WHERE WHAT IT READS IS OF BULK AT MOST 1048576: true; the input reads as it did. -/
def inputsKindsUptoRow : OpenClaim := { program := "ytkiljhlbeffnfaadoor", sum := "8ce91294127f2795a5bc9db6cfb62259be67dcb2a04d1ec7dae8e8b2532bfcf3", func := "martello/martellolaw01.InputsKinds", spec := "inputsKinds", named := ["unicode/utf8.first", "unicode/utf8.acceptRanges"], apart := false, laid := [("unicode/utf8.acceptRanges", laid_unicode_utf8_acceptRanges), ("unicode/utf8.first", laid_unicode_utf8_first)], narrowed := true }
def InputsKindsUptoSaid : Prop := inputsKindsUptoRow.holds Tryd.pinned (OpenSpec.upto inputsKindsSpec)

/-- 'martellolaw01.InputsLines', WHERE WHAT IT READS IS OF BULK AT MOST 1048576: true; the input reads as it did. -/
def inputsLinesUptoRow : OpenClaim := { program := "ytkiljhlbeffnfaadoor", sum := "8ce91294127f2795a5bc9db6cfb62259be67dcb2a04d1ec7dae8e8b2532bfcf3", func := "martello/martellolaw01.InputsLines", spec := "inputsLines", named := ["unicode/utf8.first", "unicode/utf8.acceptRanges"], apart := false, laid := [("unicode/utf8.acceptRanges", laid_unicode_utf8_acceptRanges), ("unicode/utf8.first", laid_unicode_utf8_first)], narrowed := true }
def InputsLinesUptoSaid : Prop := inputsLinesUptoRow.holds Tryd.pinned (OpenSpec.upto inputsLinesSpec)

/-- 'martellolaw01.InputsTurned', WHERE WHAT IT READS IS OF BULK AT MOST 1048576: true; the input reads as it did. -/
def inputsTurnedUptoRow : OpenClaim := { program := "ytkiljhlbeffnfaadoor", sum := "8ce91294127f2795a5bc9db6cfb62259be67dcb2a04d1ec7dae8e8b2532bfcf3", func := "martello/martellolaw01.InputsTurned", spec := "inputsTurned", named := ["unicode/utf8.first", "unicode/utf8.acceptRanges"], apart := false, laid := [("unicode/utf8.acceptRanges", laid_unicode_utf8_acceptRanges), ("unicode/utf8.first", laid_unicode_utf8_first)], narrowed := true }
def InputsTurnedUptoSaid : Prop := inputsTurnedUptoRow.holds Tryd.pinned (OpenSpec.upto inputsTurnedSpec)

/-- 'martellolaw01.InputsWhole', WHERE WHAT IT READS IS OF BULK AT MOST 1048576: true; the input reads as it did. -/
def inputsWholeUptoRow : OpenClaim := { program := "ytkiljhlbeffnfaadoor", sum := "8ce91294127f2795a5bc9db6cfb62259be67dcb2a04d1ec7dae8e8b2532bfcf3", func := "martello/martellolaw01.InputsWhole", spec := "inputsWhole", unfollowed := true, recurses := true, named := ["unicode/utf8.first", "unicode/utf8.acceptRanges"], apart := false, laid := [("unicode/utf8.acceptRanges", laid_unicode_utf8_acceptRanges), ("unicode/utf8.first", laid_unicode_utf8_first)], narrowed := true }
def InputsWholeUptoSaid : Prop := inputsWholeUptoRow.holds Tryd.pinned (OpenSpec.upto inputsWholeSpec)

end Rows
end Go.Proofs.YtkiljhlbeffnfaaDoor
