/-
  NARROWER THAN 'FOR EVERY INPUT', by the rows' own cells (each row's printed sentence says how): TreesRight: loops · TreesCaps: loops · TreesGroups: loops · TreesShaped: loops · TreesEmpty: loops · TreesTurned: loops · TreesTwice: loops.
  DERIVED. THE GIVEN ROWS OF THIS SEAT. 14 by the template 'for every input the law returns true; each argument reads behind the call as it read before'; 0 by the template 'total and deterministic' (their statements: YtbhcgjahlfpjoaaTotals.lean).
  GIVEN WITH THE SEED: the statements are not yours to turn. If you find one false, say at which input.
  Laid BY PROGRAM, IN A SANDBOX (cutbox-rows.mjs): the forced cells as the released guide's own fill.sh prints them over the translation 61f974096813c682… (all of the seat's roots in one cut). By AI agents, Wed Nov 11 2026. No macro, syntax, notation, axiom, sorry.
-/
import Derived.Test.YtbhcgjahlfpjoaaChecked
import GoSem.Claim
import GoSem.ClaimJoined
import GoSem.ClaimMapViews
import Derived.JoinedTies
import Derived.KernelRfl
namespace Go.Proofs.Ytbhcgjahlfpjoaa
/- THE CELL 'sum', in the pinned program and in every row, IS THE sha256 OF THE DUMP (.gsa) THAT YtbhcgjahlfpjoaaProg.lean LOADS. Nothing in Lean hashes anything: it is a label: what it is worth is what the hold of that sum in a sandbox is worth. -/
noncomputable def Try.pinned : Pinned := { name := "ytbhcgjahlfpjoaa", sum := "61f974096813c6820a0bbf0fb5acf7ee03dcc0ba00f91de2ec51b16d6c75efd0", checked := Try.checked }
namespace Rows
def none {H : Type} : Left H := { results := [], args := [] }

/-- 'martellolaw05.TreesRight': WHATEVER THE INPUT: true; the input reads as it did. -/
def treesRightSpec : ChangeSpec := { name := "treesRight", fn := fun _ => fun
  | [d] => { results := [.lit (.bool true)], args := [d] }
  | _ => none }
def treesRightRow : OpenClaim := { program := "ytbhcgjahlfpjoaa", sum := "61f974096813c6820a0bbf0fb5acf7ee03dcc0ba00f91de2ec51b16d6c75efd0", func := "martello/martellolaw05.TreesRight", spec := "treesRight", unfollowed := true, recurses := true, loops := true, apart := false }
def TreesRightSaid : Prop := treesRightRow.holds Try.pinned (OpenSpec.ofChange treesRightSpec)

/-- ITS FALSE NEIGHBOUR: 'it returns false'. Refute it at one input. -/
def treesRightWrong : ChangeSpec := { name := "treesRight", fn := fun _ => fun
  | [d] => { results := [.lit (.bool false)], args := [d] }
  | _ => none }
def TreesRightWrongFalsely : Prop := treesRightRow.holds Try.pinned (OpenSpec.ofChange treesRightWrong)

/-- 'martellolaw05.TreesCaps': WHATEVER THE INPUT: true; the input reads as it did. -/
def treesCapsSpec : ChangeSpec := { name := "treesCaps", fn := fun _ => fun
  | [d] => { results := [.lit (.bool true)], args := [d] }
  | _ => none }
def treesCapsRow : OpenClaim := { program := "ytbhcgjahlfpjoaa", sum := "61f974096813c6820a0bbf0fb5acf7ee03dcc0ba00f91de2ec51b16d6c75efd0", func := "martello/martellolaw05.TreesCaps", spec := "treesCaps", unfollowed := true, recurses := true, loops := true, apart := false }
def TreesCapsSaid : Prop := treesCapsRow.holds Try.pinned (OpenSpec.ofChange treesCapsSpec)

/-- ITS FALSE NEIGHBOUR: 'it returns false'. Refute it at one input. -/
def treesCapsWrong : ChangeSpec := { name := "treesCaps", fn := fun _ => fun
  | [d] => { results := [.lit (.bool false)], args := [d] }
  | _ => none }
def TreesCapsWrongFalsely : Prop := treesCapsRow.holds Try.pinned (OpenSpec.ofChange treesCapsWrong)

/-- 'martellolaw05.TreesGroups': WHATEVER THE INPUT: true; the input reads as it did. -/
def treesGroupsSpec : ChangeSpec := { name := "treesGroups", fn := fun _ => fun
  | [d] => { results := [.lit (.bool true)], args := [d] }
  | _ => none }
def treesGroupsRow : OpenClaim := { program := "ytbhcgjahlfpjoaa", sum := "61f974096813c6820a0bbf0fb5acf7ee03dcc0ba00f91de2ec51b16d6c75efd0", func := "martello/martellolaw05.TreesGroups", spec := "treesGroups", unfollowed := true, recurses := true, loops := true, apart := false }
def TreesGroupsSaid : Prop := treesGroupsRow.holds Try.pinned (OpenSpec.ofChange treesGroupsSpec)

/-- ITS FALSE NEIGHBOUR: 'it returns false'. Refute it at one input. -/
def treesGroupsWrong : ChangeSpec := { name := "treesGroups", fn := fun _ => fun
  | [d] => { results := [.lit (.bool false)], args := [d] }
  | _ => none }
def TreesGroupsWrongFalsely : Prop := treesGroupsRow.holds Try.pinned (OpenSpec.ofChange treesGroupsWrong)

/-- 'martellolaw05.TreesShaped': WHATEVER THE INPUT: true; the input reads as it did. -/
def treesShapedSpec : ChangeSpec := { name := "treesShaped", fn := fun _ => fun
  | [d] => { results := [.lit (.bool true)], args := [d] }
  | _ => none }
def treesShapedRow : OpenClaim := { program := "ytbhcgjahlfpjoaa", sum := "61f974096813c6820a0bbf0fb5acf7ee03dcc0ba00f91de2ec51b16d6c75efd0", func := "martello/martellolaw05.TreesShaped", spec := "treesShaped", unfollowed := true, recurses := true, loops := true, apart := false }
def TreesShapedSaid : Prop := treesShapedRow.holds Try.pinned (OpenSpec.ofChange treesShapedSpec)

/-- ITS FALSE NEIGHBOUR: 'it returns false'. Refute it at one input. -/
def treesShapedWrong : ChangeSpec := { name := "treesShaped", fn := fun _ => fun
  | [d] => { results := [.lit (.bool false)], args := [d] }
  | _ => none }
def TreesShapedWrongFalsely : Prop := treesShapedRow.holds Try.pinned (OpenSpec.ofChange treesShapedWrong)

/-- 'martellolaw05.TreesEmpty': WHATEVER THE INPUT: true; the input reads as it did. -/
def treesEmptySpec : ChangeSpec := { name := "treesEmpty", fn := fun _ => fun
  | [d] => { results := [.lit (.bool true)], args := [d] }
  | _ => none }
def treesEmptyRow : OpenClaim := { program := "ytbhcgjahlfpjoaa", sum := "61f974096813c6820a0bbf0fb5acf7ee03dcc0ba00f91de2ec51b16d6c75efd0", func := "martello/martellolaw05.TreesEmpty", spec := "treesEmpty", unfollowed := true, recurses := true, loops := true, apart := false }
def TreesEmptySaid : Prop := treesEmptyRow.holds Try.pinned (OpenSpec.ofChange treesEmptySpec)

/-- ITS FALSE NEIGHBOUR: 'it returns false'. Refute it at one input. -/
def treesEmptyWrong : ChangeSpec := { name := "treesEmpty", fn := fun _ => fun
  | [d] => { results := [.lit (.bool false)], args := [d] }
  | _ => none }
def TreesEmptyWrongFalsely : Prop := treesEmptyRow.holds Try.pinned (OpenSpec.ofChange treesEmptyWrong)

/-- 'martellolaw05.TreesTurned': WHATEVER THE INPUT: true; the input reads as it did. -/
def treesTurnedSpec : ChangeSpec := { name := "treesTurned", fn := fun _ => fun
  | [d] => { results := [.lit (.bool true)], args := [d] }
  | _ => none }
def treesTurnedRow : OpenClaim := { program := "ytbhcgjahlfpjoaa", sum := "61f974096813c6820a0bbf0fb5acf7ee03dcc0ba00f91de2ec51b16d6c75efd0", func := "martello/martellolaw05.TreesTurned", spec := "treesTurned", unfollowed := true, recurses := true, loops := true, apart := false }
def TreesTurnedSaid : Prop := treesTurnedRow.holds Try.pinned (OpenSpec.ofChange treesTurnedSpec)

/-- ITS FALSE NEIGHBOUR: 'it returns false'. Refute it at one input. -/
def treesTurnedWrong : ChangeSpec := { name := "treesTurned", fn := fun _ => fun
  | [d] => { results := [.lit (.bool false)], args := [d] }
  | _ => none }
def TreesTurnedWrongFalsely : Prop := treesTurnedRow.holds Try.pinned (OpenSpec.ofChange treesTurnedWrong)

/-- 'martellolaw05.TreesTwice': WHATEVER THE INPUT: true; the input reads as it did. -/
def treesTwiceSpec : ChangeSpec := { name := "treesTwice", fn := fun _ => fun
  | [d] => { results := [.lit (.bool true)], args := [d] }
  | _ => none }
def treesTwiceRow : OpenClaim := { program := "ytbhcgjahlfpjoaa", sum := "61f974096813c6820a0bbf0fb5acf7ee03dcc0ba00f91de2ec51b16d6c75efd0", func := "martello/martellolaw05.TreesTwice", spec := "treesTwice", unfollowed := true, recurses := true, loops := true, apart := false }
def TreesTwiceSaid : Prop := treesTwiceRow.holds Try.pinned (OpenSpec.ofChange treesTwiceSpec)

/-- ITS FALSE NEIGHBOUR: 'it returns false'. Refute it at one input. -/
def treesTwiceWrong : ChangeSpec := { name := "treesTwice", fn := fun _ => fun
  | [d] => { results := [.lit (.bool false)], args := [d] }
  | _ => none }
def TreesTwiceWrongFalsely : Prop := treesTwiceRow.holds Try.pinned (OpenSpec.ofChange treesTwiceWrong)

/-- 'martellolaw12.ProgsCheck': WHATEVER THE INPUT: true; the input reads as it did. -/
def progsCheckSpec : ChangeSpec := { name := "progsCheck", fn := fun _ => fun
  | [d] => { results := [.lit (.bool true)], args := [d] }
  | _ => none }
def progsCheckRow : OpenClaim := { program := "ytbhcgjahlfpjoaa", sum := "61f974096813c6820a0bbf0fb5acf7ee03dcc0ba00f91de2ec51b16d6c75efd0", func := "martello/martellolaw12.ProgsCheck", spec := "progsCheck", unfollowed := true, recurses := true, apart := false }
def ProgsCheckSaid : Prop := progsCheckRow.holds Try.pinned (OpenSpec.ofChange progsCheckSpec)

/-- ITS FALSE NEIGHBOUR: 'it returns false'. Refute it at one input. -/
def progsCheckWrong : ChangeSpec := { name := "progsCheck", fn := fun _ => fun
  | [d] => { results := [.lit (.bool false)], args := [d] }
  | _ => none }
def ProgsCheckWrongFalsely : Prop := progsCheckRow.holds Try.pinned (OpenSpec.ofChange progsCheckWrong)

/-- 'martellolaw12.ProgsClosure': WHATEVER THE INPUT: true; the input reads as it did. -/
def progsClosureSpec : ChangeSpec := { name := "progsClosure", fn := fun _ => fun
  | [d1, d2, d3, d4] => { results := [.lit (.bool true)], args := [d1, d2, d3, d4] }
  | _ => none }
def progsClosureRow : OpenClaim := { program := "ytbhcgjahlfpjoaa", sum := "61f974096813c6820a0bbf0fb5acf7ee03dcc0ba00f91de2ec51b16d6c75efd0", func := "martello/martellolaw12.ProgsClosure", spec := "progsClosure", unfollowed := true, recurses := true, apart := false }
def ProgsClosureSaid : Prop := progsClosureRow.holds Try.pinned (OpenSpec.ofChange progsClosureSpec)

/-- ITS FALSE NEIGHBOUR: 'it returns false'. Refute it at one input. -/
def progsClosureWrong : ChangeSpec := { name := "progsClosure", fn := fun _ => fun
  | [d1, d2, d3, d4] => { results := [.lit (.bool false)], args := [d1, d2, d3, d4] }
  | _ => none }
def ProgsClosureWrongFalsely : Prop := progsClosureRow.holds Try.pinned (OpenSpec.ofChange progsClosureWrong)

/-- 'martellolaw12.ProgsTwice': WHATEVER THE INPUT: true; the input reads as it did. -/
def progsTwiceSpec : ChangeSpec := { name := "progsTwice", fn := fun _ => fun
  | [d1, d2, d3] => { results := [.lit (.bool true)], args := [d1, d2, d3] }
  | _ => none }
def progsTwiceRow : OpenClaim := { program := "ytbhcgjahlfpjoaa", sum := "61f974096813c6820a0bbf0fb5acf7ee03dcc0ba00f91de2ec51b16d6c75efd0", func := "martello/martellolaw12.ProgsTwice", spec := "progsTwice", unfollowed := true, recurses := true, apart := false }
def ProgsTwiceSaid : Prop := progsTwiceRow.holds Try.pinned (OpenSpec.ofChange progsTwiceSpec)

/-- ITS FALSE NEIGHBOUR: 'it returns false'. Refute it at one input. -/
def progsTwiceWrong : ChangeSpec := { name := "progsTwice", fn := fun _ => fun
  | [d1, d2, d3] => { results := [.lit (.bool false)], args := [d1, d2, d3] }
  | _ => none }
def ProgsTwiceWrongFalsely : Prop := progsTwiceRow.holds Try.pinned (OpenSpec.ofChange progsTwiceWrong)

/-- 'martellolaw12.ProgsParts': WHATEVER THE INPUT: true; the input reads as it did. -/
def progsPartsSpec : ChangeSpec := { name := "progsParts", fn := fun _ => fun
  | [d1, d2, d3, d4] => { results := [.lit (.bool true)], args := [d1, d2, d3, d4] }
  | _ => none }
def progsPartsRow : OpenClaim := { program := "ytbhcgjahlfpjoaa", sum := "61f974096813c6820a0bbf0fb5acf7ee03dcc0ba00f91de2ec51b16d6c75efd0", func := "martello/martellolaw12.ProgsParts", spec := "progsParts", unfollowed := true, recurses := true, apart := false }
def ProgsPartsSaid : Prop := progsPartsRow.holds Try.pinned (OpenSpec.ofChange progsPartsSpec)

/-- ITS FALSE NEIGHBOUR: 'it returns false'. Refute it at one input. -/
def progsPartsWrong : ChangeSpec := { name := "progsParts", fn := fun _ => fun
  | [d1, d2, d3, d4] => { results := [.lit (.bool false)], args := [d1, d2, d3, d4] }
  | _ => none }
def ProgsPartsWrongFalsely : Prop := progsPartsRow.holds Try.pinned (OpenSpec.ofChange progsPartsWrong)

/-- 'martellolaw12.ProgsNext': WHATEVER THE INPUT: true; the input reads as it did. -/
def progsNextSpec : ChangeSpec := { name := "progsNext", fn := fun _ => fun
  | [d1, d2, d3] => { results := [.lit (.bool true)], args := [d1, d2, d3] }
  | _ => none }
def progsNextRow : OpenClaim := { program := "ytbhcgjahlfpjoaa", sum := "61f974096813c6820a0bbf0fb5acf7ee03dcc0ba00f91de2ec51b16d6c75efd0", func := "martello/martellolaw12.ProgsNext", spec := "progsNext", unfollowed := true, recurses := true, apart := false }
def ProgsNextSaid : Prop := progsNextRow.holds Try.pinned (OpenSpec.ofChange progsNextSpec)

/-- ITS FALSE NEIGHBOUR: 'it returns false'. Refute it at one input. -/
def progsNextWrong : ChangeSpec := { name := "progsNext", fn := fun _ => fun
  | [d1, d2, d3] => { results := [.lit (.bool false)], args := [d1, d2, d3] }
  | _ => none }
def ProgsNextWrongFalsely : Prop := progsNextRow.holds Try.pinned (OpenSpec.ofChange progsNextWrong)

/-- 'martellolaw12.ProgsClasses': WHATEVER THE INPUT: true; the input reads as it did. -/
def progsClassesSpec : ChangeSpec := { name := "progsClasses", fn := fun _ => fun
  | [d1, d2, d3] => { results := [.lit (.bool true)], args := [d1, d2, d3] }
  | _ => none }
def progsClassesRow : OpenClaim := { program := "ytbhcgjahlfpjoaa", sum := "61f974096813c6820a0bbf0fb5acf7ee03dcc0ba00f91de2ec51b16d6c75efd0", func := "martello/martellolaw12.ProgsClasses", spec := "progsClasses", unfollowed := true, recurses := true, apart := false }
def ProgsClassesSaid : Prop := progsClassesRow.holds Try.pinned (OpenSpec.ofChange progsClassesSpec)

/-- ITS FALSE NEIGHBOUR: 'it returns false'. Refute it at one input. -/
def progsClassesWrong : ChangeSpec := { name := "progsClasses", fn := fun _ => fun
  | [d1, d2, d3] => { results := [.lit (.bool false)], args := [d1, d2, d3] }
  | _ => none }
def ProgsClassesWrongFalsely : Prop := progsClassesRow.holds Try.pinned (OpenSpec.ofChange progsClassesWrong)

/-- 'martellolaw12.ProgsAlike': WHATEVER THE INPUT: true; the input reads as it did. -/
def progsAlikeSpec : ChangeSpec := { name := "progsAlike", fn := fun _ => fun
  | [d1, d2, d3] => { results := [.lit (.bool true)], args := [d1, d2, d3] }
  | _ => none }
def progsAlikeRow : OpenClaim := { program := "ytbhcgjahlfpjoaa", sum := "61f974096813c6820a0bbf0fb5acf7ee03dcc0ba00f91de2ec51b16d6c75efd0", func := "martello/martellolaw12.ProgsAlike", spec := "progsAlike", unfollowed := true, recurses := true, apart := false }
def ProgsAlikeSaid : Prop := progsAlikeRow.holds Try.pinned (OpenSpec.ofChange progsAlikeSpec)

/-- ITS FALSE NEIGHBOUR: 'it returns false'. Refute it at one input. -/
def progsAlikeWrong : ChangeSpec := { name := "progsAlike", fn := fun _ => fun
  | [d1, d2, d3] => { results := [.lit (.bool false)], args := [d1, d2, d3] }
  | _ => none }
def ProgsAlikeWrongFalsely : Prop := progsAlikeRow.holds Try.pinned (OpenSpec.ofChange progsAlikeWrong)

/- THE SECOND FORM. 'bulk': how many values and letters a reading holds, each counted each time it is reached (what is shared counts as often as it is met; a slice's spare places count too). A statement '..UptoSaid' is the law's where the arguments, and the package variables that the reading takes, are together of bulk at most 1048576: NARROWER than '..Said'. Prove '..Said' where nothing that the law and all that it calls make is longer than what came in: it says more and counts as full. Else prove '..UptoSaid'. A law counts once. -/
mutual
def uptoBulk {H : Type} : DataW H → Nat
  | .lit (.string bytes) => bytes.length + 1
  | .lit _ => 1
  | .nil => 1
  | .ptr d => uptoBulk d + 1
  | .slice elems spare => uptoBulkAll elems + uptoBulkAll spare + 1
  | .agg parts => uptoBulkAll parts + 1
  | .iface _ d => uptoBulk d + 1
  | .map entries => uptoBulkEntries entries + 1
  | .held _ => 1
def uptoBulkAll {H : Type} : List (DataW H) → Nat
  | [] => 0
  | d :: r => uptoBulk d + uptoBulkAll r
def uptoBulkEntries {H : Type} : List (Lit × DataW H) → Nat
  | [] => 0
  | x :: r => uptoBulkEntry x + uptoBulkEntries r
def uptoBulkEntry {H : Type} : Lit × DataW H → Nat
  | (.string bytes, d) => bytes.length + uptoBulk d + 1
  | (_, d) => uptoBulk d + 1
 end
def uptoSmall : (H : Type) → List (DataW H) → Bool := fun _ ds => decide (uptoBulkAll ds ≤ 1048576)
def OpenSpec.upto (s : _root_.Go.ChangeSpec) : _root_.Go.OpenSpec := { _root_.Go.OpenSpec.ofChange s with cond := some uptoSmall }

/-- 'martellolaw05.TreesRight', WHERE WHAT IT READS IS OF BULK AT MOST 1048576: true; the input reads as it did. -/
def treesRightUptoRow : OpenClaim := { program := "ytbhcgjahlfpjoaa", sum := "61f974096813c6820a0bbf0fb5acf7ee03dcc0ba00f91de2ec51b16d6c75efd0", func := "martello/martellolaw05.TreesRight", spec := "treesRight", unfollowed := true, recurses := true, loops := true, apart := false, narrowed := true }
def TreesRightUptoSaid : Prop := treesRightUptoRow.holds Try.pinned (OpenSpec.upto treesRightSpec)

/-- 'martellolaw05.TreesCaps', WHERE WHAT IT READS IS OF BULK AT MOST 1048576: true; the input reads as it did. -/
def treesCapsUptoRow : OpenClaim := { program := "ytbhcgjahlfpjoaa", sum := "61f974096813c6820a0bbf0fb5acf7ee03dcc0ba00f91de2ec51b16d6c75efd0", func := "martello/martellolaw05.TreesCaps", spec := "treesCaps", unfollowed := true, recurses := true, loops := true, apart := false, narrowed := true }
def TreesCapsUptoSaid : Prop := treesCapsUptoRow.holds Try.pinned (OpenSpec.upto treesCapsSpec)

/-- 'martellolaw05.TreesGroups', WHERE WHAT IT READS IS OF BULK AT MOST 1048576: true; the input reads as it did. -/
def treesGroupsUptoRow : OpenClaim := { program := "ytbhcgjahlfpjoaa", sum := "61f974096813c6820a0bbf0fb5acf7ee03dcc0ba00f91de2ec51b16d6c75efd0", func := "martello/martellolaw05.TreesGroups", spec := "treesGroups", unfollowed := true, recurses := true, loops := true, apart := false, narrowed := true }
def TreesGroupsUptoSaid : Prop := treesGroupsUptoRow.holds Try.pinned (OpenSpec.upto treesGroupsSpec)

/-- 'martellolaw05.TreesShaped', WHERE WHAT IT READS IS OF BULK AT MOST 1048576: true; the input reads as it did. -/
def treesShapedUptoRow : OpenClaim := { program := "ytbhcgjahlfpjoaa", sum := "61f974096813c6820a0bbf0fb5acf7ee03dcc0ba00f91de2ec51b16d6c75efd0", func := "martello/martellolaw05.TreesShaped", spec := "treesShaped", unfollowed := true, recurses := true, loops := true, apart := false, narrowed := true }
def TreesShapedUptoSaid : Prop := treesShapedUptoRow.holds Try.pinned (OpenSpec.upto treesShapedSpec)

/-- 'martellolaw05.TreesEmpty', WHERE WHAT IT READS IS OF BULK AT MOST 1048576: true; the input reads as it did. -/
def treesEmptyUptoRow : OpenClaim := { program := "ytbhcgjahlfpjoaa", sum := "61f974096813c6820a0bbf0fb5acf7ee03dcc0ba00f91de2ec51b16d6c75efd0", func := "martello/martellolaw05.TreesEmpty", spec := "treesEmpty", unfollowed := true, recurses := true, loops := true, apart := false, narrowed := true }
def TreesEmptyUptoSaid : Prop := treesEmptyUptoRow.holds Try.pinned (OpenSpec.upto treesEmptySpec)

/-- 'martellolaw05.TreesTurned', WHERE WHAT IT READS IS OF BULK AT MOST 1048576: true; the input reads as it did. -/
def treesTurnedUptoRow : OpenClaim := { program := "ytbhcgjahlfpjoaa", sum := "61f974096813c6820a0bbf0fb5acf7ee03dcc0ba00f91de2ec51b16d6c75efd0", func := "martello/martellolaw05.TreesTurned", spec := "treesTurned", unfollowed := true, recurses := true, loops := true, apart := false, narrowed := true }
def TreesTurnedUptoSaid : Prop := treesTurnedUptoRow.holds Try.pinned (OpenSpec.upto treesTurnedSpec)

/-- 'martellolaw05.TreesTwice', WHERE WHAT IT READS IS OF BULK AT MOST 1048576: true; the input reads as it did. -/
def treesTwiceUptoRow : OpenClaim := { program := "ytbhcgjahlfpjoaa", sum := "61f974096813c6820a0bbf0fb5acf7ee03dcc0ba00f91de2ec51b16d6c75efd0", func := "martello/martellolaw05.TreesTwice", spec := "treesTwice", unfollowed := true, recurses := true, loops := true, apart := false, narrowed := true }
def TreesTwiceUptoSaid : Prop := treesTwiceUptoRow.holds Try.pinned (OpenSpec.upto treesTwiceSpec)

/-- 'martellolaw12.ProgsCheck', WHERE WHAT IT READS IS OF BULK AT MOST 1048576: true; the input reads as it did. -/
def progsCheckUptoRow : OpenClaim := { program := "ytbhcgjahlfpjoaa", sum := "61f974096813c6820a0bbf0fb5acf7ee03dcc0ba00f91de2ec51b16d6c75efd0", func := "martello/martellolaw12.ProgsCheck", spec := "progsCheck", unfollowed := true, recurses := true, apart := false, narrowed := true }
def ProgsCheckUptoSaid : Prop := progsCheckUptoRow.holds Try.pinned (OpenSpec.upto progsCheckSpec)

/-- 'martellolaw12.ProgsClosure', WHERE WHAT IT READS IS OF BULK AT MOST 1048576: true; the input reads as it did. -/
def progsClosureUptoRow : OpenClaim := { program := "ytbhcgjahlfpjoaa", sum := "61f974096813c6820a0bbf0fb5acf7ee03dcc0ba00f91de2ec51b16d6c75efd0", func := "martello/martellolaw12.ProgsClosure", spec := "progsClosure", unfollowed := true, recurses := true, apart := false, narrowed := true }
def ProgsClosureUptoSaid : Prop := progsClosureUptoRow.holds Try.pinned (OpenSpec.upto progsClosureSpec)

/-- 'martellolaw12.ProgsTwice', WHERE WHAT IT READS IS OF BULK AT MOST 1048576: true; the input reads as it did. -/
def progsTwiceUptoRow : OpenClaim := { program := "ytbhcgjahlfpjoaa", sum := "61f974096813c6820a0bbf0fb5acf7ee03dcc0ba00f91de2ec51b16d6c75efd0", func := "martello/martellolaw12.ProgsTwice", spec := "progsTwice", unfollowed := true, recurses := true, apart := false, narrowed := true }
def ProgsTwiceUptoSaid : Prop := progsTwiceUptoRow.holds Try.pinned (OpenSpec.upto progsTwiceSpec)

/-- 'martellolaw12.ProgsParts', WHERE WHAT IT READS IS OF BULK AT MOST 1048576: true; the input reads as it did. -/
def progsPartsUptoRow : OpenClaim := { program := "ytbhcgjahlfpjoaa", sum := "61f974096813c6820a0bbf0fb5acf7ee03dcc0ba00f91de2ec51b16d6c75efd0", func := "martello/martellolaw12.ProgsParts", spec := "progsParts", unfollowed := true, recurses := true, apart := false, narrowed := true }
def ProgsPartsUptoSaid : Prop := progsPartsUptoRow.holds Try.pinned (OpenSpec.upto progsPartsSpec)

/-- 'martellolaw12.ProgsNext', WHERE WHAT IT READS IS OF BULK AT MOST 1048576: true; the input reads as it did. -/
def progsNextUptoRow : OpenClaim := { program := "ytbhcgjahlfpjoaa", sum := "61f974096813c6820a0bbf0fb5acf7ee03dcc0ba00f91de2ec51b16d6c75efd0", func := "martello/martellolaw12.ProgsNext", spec := "progsNext", unfollowed := true, recurses := true, apart := false, narrowed := true }
def ProgsNextUptoSaid : Prop := progsNextUptoRow.holds Try.pinned (OpenSpec.upto progsNextSpec)

/-- 'martellolaw12.ProgsClasses', WHERE WHAT IT READS IS OF BULK AT MOST 1048576: true; the input reads as it did. -/
def progsClassesUptoRow : OpenClaim := { program := "ytbhcgjahlfpjoaa", sum := "61f974096813c6820a0bbf0fb5acf7ee03dcc0ba00f91de2ec51b16d6c75efd0", func := "martello/martellolaw12.ProgsClasses", spec := "progsClasses", unfollowed := true, recurses := true, apart := false, narrowed := true }
def ProgsClassesUptoSaid : Prop := progsClassesUptoRow.holds Try.pinned (OpenSpec.upto progsClassesSpec)

/-- 'martellolaw12.ProgsAlike', WHERE WHAT IT READS IS OF BULK AT MOST 1048576: true; the input reads as it did. -/
def progsAlikeUptoRow : OpenClaim := { program := "ytbhcgjahlfpjoaa", sum := "61f974096813c6820a0bbf0fb5acf7ee03dcc0ba00f91de2ec51b16d6c75efd0", func := "martello/martellolaw12.ProgsAlike", spec := "progsAlike", unfollowed := true, recurses := true, apart := false, narrowed := true }
def ProgsAlikeUptoSaid : Prop := progsAlikeUptoRow.holds Try.pinned (OpenSpec.upto progsAlikeSpec)

end Rows
end Go.Proofs.Ytbhcgjahlfpjoaa
