/-
  NARROWER THAN 'FOR EVERY INPUT', by the rows' own cells (each row's printed sentence says how): ThreadsFinds: laid · ThreadsOn: laid · ThreadsAgain: laid · ThreadsAgree: laid.
  DERIVED. THE GIVEN ROWS OF THIS SEAT. 4 by the template 'for every input the law returns true; each argument reads behind the call as it read before'; 0 by the template 'total and deterministic' (their statements: YtbhcgjahlfpjoaaDoorTotals.lean).
  GIVEN WITH THE SEED: the statements are not yours to turn. If you find one false, say at which input.
  Laid BY PROGRAM, IN A SANDBOX (cutbox-rows.mjs): the forced cells as the released guide's own fill.sh prints them over the translation 3cd599a6c0b25f5b… (all of the seat's roots in one cut). By AI agents, Wed Nov 11 2026. No macro, syntax, notation, axiom, sorry.
-/
import Derived.Test.YtbhcgjahlfpjoaaDoorChecked
import GoSem.PinnedTables
import GoSem.Claim
import GoSem.ClaimJoined
import GoSem.ClaimMapViews
import Derived.JoinedTies
import Derived.KernelRfl
namespace Go.Proofs.YtbhcgjahlfpjoaaDoor
/- THE CELL 'sum', in the pinned program and in every row, IS THE sha256 OF THE DUMP (.gsa) THAT YtbhcgjahlfpjoaaDoorProg.lean LOADS. Nothing in Lean hashes anything: it is a label: what it is worth is what the hold of that sum in a sandbox is worth. -/
noncomputable def Tryd.pinned : Pinned := { name := "ytbhcgjahlfpjoaadoor", sum := "3cd599a6c0b25f5bd864e27bec0e30fe3c787578249a483902a1bf2197381137", checked := Tryd.checked }
namespace Rows
def none {H : Type} : Left H := { results := [], args := [] }

/- WHAT THE LISTED PACKAGE-LEVEL VARIABLES READ AS WHEN THE CALL BEGINS. Each datum BY PROGRAM (the guide's laid-datum.mjs) off the statement by which the dump's own 'gosem.cut.vars' lays the variable. In a bare row this is a premise. The card (YtbhcgjahlfpjoaaDoorCards.lean) ties it to the program's text. -/
def laid_unicode_utf8_acceptRanges {H : Type} : DataW H := .agg [.agg [.lit (.int .u8 128), .lit (.int .u8 191)], .agg [.lit (.int .u8 160), .lit (.int .u8 191)], .agg [.lit (.int .u8 128), .lit (.int .u8 159)], .agg [.lit (.int .u8 144), .lit (.int .u8 191)], .agg [.lit (.int .u8 128), .lit (.int .u8 143)], .agg [.lit (.int .u8 0), .lit (.int .u8 0)], .agg [.lit (.int .u8 0), .lit (.int .u8 0)], .agg [.lit (.int .u8 0), .lit (.int .u8 0)], .agg [.lit (.int .u8 0), .lit (.int .u8 0)], .agg [.lit (.int .u8 0), .lit (.int .u8 0)], .agg [.lit (.int .u8 0), .lit (.int .u8 0)], .agg [.lit (.int .u8 0), .lit (.int .u8 0)], .agg [.lit (.int .u8 0), .lit (.int .u8 0)], .agg [.lit (.int .u8 0), .lit (.int .u8 0)], .agg [.lit (.int .u8 0), .lit (.int .u8 0)], .agg [.lit (.int .u8 0), .lit (.int .u8 0)]]
/-- One of Go's own tables, pinned by name: the form's constant. -/
def laid_unicode_utf8_first : DataW Unit := Go.Pinned.utf8First

/-- 'martellolaw17.ThreadsFinds': WHATEVER THE INPUT: true; the input reads as it did. -/
def threadsFindsSpec : ChangeSpec := { name := "threadsFinds", fn := fun _ => fun
  | [d] => { results := [.lit (.bool true)], args := [d] }
  | _ => none }
def threadsFindsRow : OpenClaim := { program := "ytbhcgjahlfpjoaadoor", sum := "3cd599a6c0b25f5bd864e27bec0e30fe3c787578249a483902a1bf2197381137", func := "martello/martellolaw17.ThreadsFinds", spec := "threadsFinds", unfollowed := true, recurses := true, named := ["unicode/utf8.first", "unicode/utf8.acceptRanges"], apart := false, laid := [("unicode/utf8.acceptRanges", laid_unicode_utf8_acceptRanges), ("unicode/utf8.first", laid_unicode_utf8_first)] }
def ThreadsFindsSaid : Prop := threadsFindsRow.holds Tryd.pinned (OpenSpec.ofChange threadsFindsSpec)

/-- ITS FALSE NEIGHBOUR: 'it returns false'. Refute it at one input. -/
def threadsFindsWrong : ChangeSpec := { name := "threadsFinds", fn := fun _ => fun
  | [d] => { results := [.lit (.bool false)], args := [d] }
  | _ => none }
def ThreadsFindsWrongFalsely : Prop := threadsFindsRow.holds Tryd.pinned (OpenSpec.ofChange threadsFindsWrong)

/-- 'martellolaw17.ThreadsOn': WHATEVER THE INPUT: true; the input reads as it did. -/
def threadsOnSpec : ChangeSpec := { name := "threadsOn", fn := fun _ => fun
  | [d1, d2] => { results := [.lit (.bool true)], args := [d1, d2] }
  | _ => none }
def threadsOnRow : OpenClaim := { program := "ytbhcgjahlfpjoaadoor", sum := "3cd599a6c0b25f5bd864e27bec0e30fe3c787578249a483902a1bf2197381137", func := "martello/martellolaw17.ThreadsOn", spec := "threadsOn", unfollowed := true, recurses := true, named := ["unicode/utf8.first", "unicode/utf8.acceptRanges"], apart := false, laid := [("unicode/utf8.acceptRanges", laid_unicode_utf8_acceptRanges), ("unicode/utf8.first", laid_unicode_utf8_first)] }
def ThreadsOnSaid : Prop := threadsOnRow.holds Tryd.pinned (OpenSpec.ofChange threadsOnSpec)

/-- ITS FALSE NEIGHBOUR: 'it returns false'. Refute it at one input. -/
def threadsOnWrong : ChangeSpec := { name := "threadsOn", fn := fun _ => fun
  | [d1, d2] => { results := [.lit (.bool false)], args := [d1, d2] }
  | _ => none }
def ThreadsOnWrongFalsely : Prop := threadsOnRow.holds Tryd.pinned (OpenSpec.ofChange threadsOnWrong)

/-- 'martellolaw17.ThreadsAgain': WHATEVER THE INPUT: true; the input reads as it did. -/
def threadsAgainSpec : ChangeSpec := { name := "threadsAgain", fn := fun _ => fun
  | [d1, d2] => { results := [.lit (.bool true)], args := [d1, d2] }
  | _ => none }
def threadsAgainRow : OpenClaim := { program := "ytbhcgjahlfpjoaadoor", sum := "3cd599a6c0b25f5bd864e27bec0e30fe3c787578249a483902a1bf2197381137", func := "martello/martellolaw17.ThreadsAgain", spec := "threadsAgain", unfollowed := true, recurses := true, named := ["unicode/utf8.first", "unicode/utf8.acceptRanges"], apart := false, laid := [("unicode/utf8.acceptRanges", laid_unicode_utf8_acceptRanges), ("unicode/utf8.first", laid_unicode_utf8_first)] }
def ThreadsAgainSaid : Prop := threadsAgainRow.holds Tryd.pinned (OpenSpec.ofChange threadsAgainSpec)

/-- ITS FALSE NEIGHBOUR: 'it returns false'. Refute it at one input. -/
def threadsAgainWrong : ChangeSpec := { name := "threadsAgain", fn := fun _ => fun
  | [d1, d2] => { results := [.lit (.bool false)], args := [d1, d2] }
  | _ => none }
def ThreadsAgainWrongFalsely : Prop := threadsAgainRow.holds Tryd.pinned (OpenSpec.ofChange threadsAgainWrong)

/-- 'martellolaw17.ThreadsAgree': WHATEVER THE INPUT: true; the input reads as it did. -/
def threadsAgreeSpec : ChangeSpec := { name := "threadsAgree", fn := fun _ => fun
  | [d] => { results := [.lit (.bool true)], args := [d] }
  | _ => none }
def threadsAgreeRow : OpenClaim := { program := "ytbhcgjahlfpjoaadoor", sum := "3cd599a6c0b25f5bd864e27bec0e30fe3c787578249a483902a1bf2197381137", func := "martello/martellolaw17.ThreadsAgree", spec := "threadsAgree", unfollowed := true, recurses := true, named := ["unicode/utf8.first", "unicode/utf8.acceptRanges"], apart := false, laid := [("unicode/utf8.acceptRanges", laid_unicode_utf8_acceptRanges), ("unicode/utf8.first", laid_unicode_utf8_first)] }
def ThreadsAgreeSaid : Prop := threadsAgreeRow.holds Tryd.pinned (OpenSpec.ofChange threadsAgreeSpec)

/-- ITS FALSE NEIGHBOUR: 'it returns false'. Refute it at one input. -/
def threadsAgreeWrong : ChangeSpec := { name := "threadsAgree", fn := fun _ => fun
  | [d] => { results := [.lit (.bool false)], args := [d] }
  | _ => none }
def ThreadsAgreeWrongFalsely : Prop := threadsAgreeRow.holds Tryd.pinned (OpenSpec.ofChange threadsAgreeWrong)

/- THE SECOND FORM. 'bulk': how many values and letters a reading holds, each counted each time it is reached (what is shared counts as often as it is met; a slice's spare places count too). A statement '..UptoSaid' is the law's where the arguments, and the package variables that the reading takes, are together of bulk at most 1048576: NARROWER than '..Said'. Prove '..Said' where nothing that the law and all that it calls make is longer than what came in: it says more and counts as full. Else prove '..UptoSaid'. A law counts once. -/
mutual
def uptoBulk {H : Type} : DataW H → Nat
  | .lit (.string bytes) => bytes.length + 1
  | .lit _ => 1
  | .nil => 1
  | .ptr d => uptoBulk d + 1
  | .slice elems spare => uptoBulkAll elems + uptoBulkAll spare + 1
  | .agg parts => uptoBulkAll parts + 1
  | .iface _ d => uptoBulk d + 1
  | .map entries => uptoBulkEntries entries + 1
  | .held _ => 1
def uptoBulkAll {H : Type} : List (DataW H) → Nat
  | [] => 0
  | d :: r => uptoBulk d + uptoBulkAll r
def uptoBulkEntries {H : Type} : List (Lit × DataW H) → Nat
  | [] => 0
  | x :: r => uptoBulkEntry x + uptoBulkEntries r
def uptoBulkEntry {H : Type} : Lit × DataW H → Nat
  | (.string bytes, d) => bytes.length + uptoBulk d + 1
  | (_, d) => uptoBulk d + 1
 end
def uptoSmall : (H : Type) → List (DataW H) → Bool := fun _ ds => decide (uptoBulkAll ds ≤ 1048576)
def OpenSpec.upto (s : _root_.Go.ChangeSpec) : _root_.Go.OpenSpec := { _root_.Go.OpenSpec.ofChange s with cond := some uptoSmall }

/-- 'martellolaw17.ThreadsFinds', WHERE WHAT IT READS IS OF BULK AT MOST 1048576: true; the input reads as it did. -/
def threadsFindsUptoRow : OpenClaim := { program := "ytbhcgjahlfpjoaadoor", sum := "3cd599a6c0b25f5bd864e27bec0e30fe3c787578249a483902a1bf2197381137", func := "martello/martellolaw17.ThreadsFinds", spec := "threadsFinds", unfollowed := true, recurses := true, named := ["unicode/utf8.first", "unicode/utf8.acceptRanges"], apart := false, laid := [("unicode/utf8.acceptRanges", laid_unicode_utf8_acceptRanges), ("unicode/utf8.first", laid_unicode_utf8_first)], narrowed := true }
def ThreadsFindsUptoSaid : Prop := threadsFindsUptoRow.holds Tryd.pinned (OpenSpec.upto threadsFindsSpec)

/-- 'martellolaw17.ThreadsOn', WHERE WHAT IT READS IS OF BULK AT MOST 1048576: true; the input reads as it did. -/
def threadsOnUptoRow : OpenClaim := { program := "ytbhcgjahlfpjoaadoor", sum := "3cd599a6c0b25f5bd864e27bec0e30fe3c787578249a483902a1bf2197381137", func := "martello/martellolaw17.ThreadsOn", spec := "threadsOn", unfollowed := true, recurses := true, named := ["unicode/utf8.first", "unicode/utf8.acceptRanges"], apart := false, laid := [("unicode/utf8.acceptRanges", laid_unicode_utf8_acceptRanges), ("unicode/utf8.first", laid_unicode_utf8_first)], narrowed := true }
def ThreadsOnUptoSaid : Prop := threadsOnUptoRow.holds Tryd.pinned (OpenSpec.upto threadsOnSpec)

/-- 'martellolaw17.ThreadsAgain', WHERE WHAT IT READS IS OF BULK AT MOST 1048576: true; the input reads as it did. -/
def threadsAgainUptoRow : OpenClaim := { program := "ytbhcgjahlfpjoaadoor", sum := "3cd599a6c0b25f5bd864e27bec0e30fe3c787578249a483902a1bf2197381137", func := "martello/martellolaw17.ThreadsAgain", spec := "threadsAgain", unfollowed := true, recurses := true, named := ["unicode/utf8.first", "unicode/utf8.acceptRanges"], apart := false, laid := [("unicode/utf8.acceptRanges", laid_unicode_utf8_acceptRanges), ("unicode/utf8.first", laid_unicode_utf8_first)], narrowed := true }
def ThreadsAgainUptoSaid : Prop := threadsAgainUptoRow.holds Tryd.pinned (OpenSpec.upto threadsAgainSpec)

/-- 'martellolaw17.ThreadsAgree', WHERE WHAT IT READS IS OF BULK AT MOST 1048576: true; the input reads as it did. -/
def threadsAgreeUptoRow : OpenClaim := { program := "ytbhcgjahlfpjoaadoor", sum := "3cd599a6c0b25f5bd864e27bec0e30fe3c787578249a483902a1bf2197381137", func := "martello/martellolaw17.ThreadsAgree", spec := "threadsAgree", unfollowed := true, recurses := true, named := ["unicode/utf8.first", "unicode/utf8.acceptRanges"], apart := false, laid := [("unicode/utf8.acceptRanges", laid_unicode_utf8_acceptRanges), ("unicode/utf8.first", laid_unicode_utf8_first)], narrowed := true }
def ThreadsAgreeUptoSaid : Prop := threadsAgreeUptoRow.holds Tryd.pinned (OpenSpec.upto threadsAgreeSpec)

end Rows
end Go.Proofs.YtbhcgjahlfpjoaaDoor
