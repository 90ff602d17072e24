/-
  No cell of these rows narrows 'for every input' (looked for: loops, veiled, ifaces, maps, wideKeys, modest, calm, conditions, laid).
  DERIVED. THE GIVEN ROWS OF THIS SEAT. 20 by the template 'for every input the law returns true; each argument reads behind the call as it read before'; 0 by the template 'total and deterministic' (their statements: YtoglnankopdohaaTotals.lean).
  GIVEN WITH THE SEED: the statements are not yours to turn. If you find one false, say at which input.
  Laid BY PROGRAM, IN A SANDBOX (cutbox-rows.mjs): the forced cells as the released guide's own fill.sh prints them over the translation ab596fdb31660da3… (all of the seat's roots in one cut). By AI agents, Wed Nov 11 2026. No macro, syntax, notation, axiom, sorry.
-/
import Derived.Test.YtoglnankopdohaaChecked
import GoSem.Claim
import GoSem.ClaimJoined
import GoSem.ClaimMapViews
import Derived.JoinedTies
import Derived.KernelRfl
namespace Go.Proofs.Ytoglnankopdohaa
/- THE CELL 'sum', in the pinned program and in every row, IS THE sha256 OF THE DUMP (.gsa) THAT YtoglnankopdohaaProg.lean LOADS. Nothing in Lean hashes anything: it is a label: what it is worth is what the hold of that sum in a sandbox is worth. -/
noncomputable def Try.pinned : Pinned := { name := "ytoglnankopdohaa", sum := "ab596fdb31660da3ce659b4ff4587fa1827b74ead7ed45722d748bc7f35589c4", checked := Try.checked }
namespace Rows
def none {H : Type} : Left H := { results := [], args := [] }

/-- 'martellolaw03.TablesNames': WHATEVER THE INPUT: true; the input reads as it did. -/
def tablesNamesSpec : ChangeSpec := { name := "tablesNames", fn := fun _ => fun
  | [d] => { results := [.lit (.bool true)], args := [d] }
  | _ => none }
def tablesNamesRow : OpenClaim := { program := "ytoglnankopdohaa", sum := "ab596fdb31660da3ce659b4ff4587fa1827b74ead7ed45722d748bc7f35589c4", func := "martello/martellolaw03.TablesNames", spec := "tablesNames", unfollowed := true, recurses := true, apart := false }
def TablesNamesSaid : Prop := tablesNamesRow.holds Try.pinned (OpenSpec.ofChange tablesNamesSpec)

/-- ITS FALSE NEIGHBOUR: 'it returns false'. Refute it at one input. -/
def tablesNamesWrong : ChangeSpec := { name := "tablesNames", fn := fun _ => fun
  | [d] => { results := [.lit (.bool false)], args := [d] }
  | _ => none }
def TablesNamesWrongFalsely : Prop := tablesNamesRow.holds Try.pinned (OpenSpec.ofChange tablesNamesWrong)

/-- 'martellolaw03.TablesOrbits': WHATEVER THE INPUT: true; the input reads as it did. -/
def tablesOrbitsSpec : ChangeSpec := { name := "tablesOrbits", fn := fun _ => fun
  | [d] => { results := [.lit (.bool true)], args := [d] }
  | _ => none }
def tablesOrbitsRow : OpenClaim := { program := "ytoglnankopdohaa", sum := "ab596fdb31660da3ce659b4ff4587fa1827b74ead7ed45722d748bc7f35589c4", func := "martello/martellolaw03.TablesOrbits", spec := "tablesOrbits", unfollowed := true, recurses := true, apart := false }
def TablesOrbitsSaid : Prop := tablesOrbitsRow.holds Try.pinned (OpenSpec.ofChange tablesOrbitsSpec)

/-- ITS FALSE NEIGHBOUR: 'it returns false'. Refute it at one input. -/
def tablesOrbitsWrong : ChangeSpec := { name := "tablesOrbits", fn := fun _ => fun
  | [d] => { results := [.lit (.bool false)], args := [d] }
  | _ => none }
def TablesOrbitsWrongFalsely : Prop := tablesOrbitsRow.holds Try.pinned (OpenSpec.ofChange tablesOrbitsWrong)

/-- 'martellolaw03.TablesPairs': WHATEVER THE INPUT: true; the input reads as it did. -/
def tablesPairsSpec : ChangeSpec := { name := "tablesPairs", fn := fun _ => fun
  | [d] => { results := [.lit (.bool true)], args := [d] }
  | _ => none }
def tablesPairsRow : OpenClaim := { program := "ytoglnankopdohaa", sum := "ab596fdb31660da3ce659b4ff4587fa1827b74ead7ed45722d748bc7f35589c4", func := "martello/martellolaw03.TablesPairs", spec := "tablesPairs", unfollowed := true, recurses := true, apart := false }
def TablesPairsSaid : Prop := tablesPairsRow.holds Try.pinned (OpenSpec.ofChange tablesPairsSpec)

/-- ITS FALSE NEIGHBOUR: 'it returns false'. Refute it at one input. -/
def tablesPairsWrong : ChangeSpec := { name := "tablesPairs", fn := fun _ => fun
  | [d] => { results := [.lit (.bool false)], args := [d] }
  | _ => none }
def TablesPairsWrongFalsely : Prop := tablesPairsRow.holds Try.pinned (OpenSpec.ofChange tablesPairsWrong)

/-- 'martellolaw02.SetsRight': WHATEVER THE INPUT: true; the input reads as it did. -/
def setsRightSpec : ChangeSpec := { name := "setsRight", fn := fun _ => fun
  | [d] => { results := [.lit (.bool true)], args := [d] }
  | _ => none }
def setsRightRow : OpenClaim := { program := "ytoglnankopdohaa", sum := "ab596fdb31660da3ce659b4ff4587fa1827b74ead7ed45722d748bc7f35589c4", func := "martello/martellolaw02.SetsRight", spec := "setsRight", unfollowed := true, recurses := true, apart := false }
def SetsRightSaid : Prop := setsRightRow.holds Try.pinned (OpenSpec.ofChange setsRightSpec)

/-- ITS FALSE NEIGHBOUR: 'it returns false'. Refute it at one input. -/
def setsRightWrong : ChangeSpec := { name := "setsRight", fn := fun _ => fun
  | [d] => { results := [.lit (.bool false)], args := [d] }
  | _ => none }
def SetsRightWrongFalsely : Prop := setsRightRow.holds Try.pinned (OpenSpec.ofChange setsRightWrong)

/-- 'martellolaw02.SetsHas': WHATEVER THE INPUT: true; the input reads as it did. -/
def setsHasSpec : ChangeSpec := { name := "setsHas", fn := fun _ => fun
  | [d1, d2] => { results := [.lit (.bool true)], args := [d1, d2] }
  | _ => none }
def setsHasRow : OpenClaim := { program := "ytoglnankopdohaa", sum := "ab596fdb31660da3ce659b4ff4587fa1827b74ead7ed45722d748bc7f35589c4", func := "martello/martellolaw02.SetsHas", spec := "setsHas", unfollowed := true, recurses := true, apart := false }
def SetsHasSaid : Prop := setsHasRow.holds Try.pinned (OpenSpec.ofChange setsHasSpec)

/-- ITS FALSE NEIGHBOUR: 'it returns false'. Refute it at one input. -/
def setsHasWrong : ChangeSpec := { name := "setsHas", fn := fun _ => fun
  | [d1, d2] => { results := [.lit (.bool false)], args := [d1, d2] }
  | _ => none }
def SetsHasWrongFalsely : Prop := setsHasRow.holds Try.pinned (OpenSpec.ofChange setsHasWrong)

/-- 'martellolaw02.SetsNorm': WHATEVER THE INPUT: true; the input reads as it did. -/
def setsNormSpec : ChangeSpec := { name := "setsNorm", fn := fun _ => fun
  | [d] => { results := [.lit (.bool true)], args := [d] }
  | _ => none }
def setsNormRow : OpenClaim := { program := "ytoglnankopdohaa", sum := "ab596fdb31660da3ce659b4ff4587fa1827b74ead7ed45722d748bc7f35589c4", func := "martello/martellolaw02.SetsNorm", spec := "setsNorm", unfollowed := true, recurses := true, apart := false }
def SetsNormSaid : Prop := setsNormRow.holds Try.pinned (OpenSpec.ofChange setsNormSpec)

/-- ITS FALSE NEIGHBOUR: 'it returns false'. Refute it at one input. -/
def setsNormWrong : ChangeSpec := { name := "setsNorm", fn := fun _ => fun
  | [d] => { results := [.lit (.bool false)], args := [d] }
  | _ => none }
def SetsNormWrongFalsely : Prop := setsNormRow.holds Try.pinned (OpenSpec.ofChange setsNormWrong)

/-- 'martellolaw02.SetsUnion': WHATEVER THE INPUT: true; the input reads as it did. -/
def setsUnionSpec : ChangeSpec := { name := "setsUnion", fn := fun _ => fun
  | [d1, d2] => { results := [.lit (.bool true)], args := [d1, d2] }
  | _ => none }
def setsUnionRow : OpenClaim := { program := "ytoglnankopdohaa", sum := "ab596fdb31660da3ce659b4ff4587fa1827b74ead7ed45722d748bc7f35589c4", func := "martello/martellolaw02.SetsUnion", spec := "setsUnion", unfollowed := true, recurses := true, apart := false }
def SetsUnionSaid : Prop := setsUnionRow.holds Try.pinned (OpenSpec.ofChange setsUnionSpec)

/-- ITS FALSE NEIGHBOUR: 'it returns false'. Refute it at one input. -/
def setsUnionWrong : ChangeSpec := { name := "setsUnion", fn := fun _ => fun
  | [d1, d2] => { results := [.lit (.bool false)], args := [d1, d2] }
  | _ => none }
def SetsUnionWrongFalsely : Prop := setsUnionRow.holds Try.pinned (OpenSpec.ofChange setsUnionWrong)

/-- 'martellolaw02.SetsNot': WHATEVER THE INPUT: true; the input reads as it did. -/
def setsNotSpec : ChangeSpec := { name := "setsNot", fn := fun _ => fun
  | [d] => { results := [.lit (.bool true)], args := [d] }
  | _ => none }
def setsNotRow : OpenClaim := { program := "ytoglnankopdohaa", sum := "ab596fdb31660da3ce659b4ff4587fa1827b74ead7ed45722d748bc7f35589c4", func := "martello/martellolaw02.SetsNot", spec := "setsNot", unfollowed := true, recurses := true, apart := false }
def SetsNotSaid : Prop := setsNotRow.holds Try.pinned (OpenSpec.ofChange setsNotSpec)

/-- ITS FALSE NEIGHBOUR: 'it returns false'. Refute it at one input. -/
def setsNotWrong : ChangeSpec := { name := "setsNot", fn := fun _ => fun
  | [d] => { results := [.lit (.bool false)], args := [d] }
  | _ => none }
def SetsNotWrongFalsely : Prop := setsNotRow.holds Try.pinned (OpenSpec.ofChange setsNotWrong)

/-- 'martellolaw04.ClassesPerl': WHATEVER THE INPUT: true; the input reads as it did. -/
def classesPerlSpec : ChangeSpec := { name := "classesPerl", fn := fun _ => fun
  | [d] => { results := [.lit (.bool true)], args := [d] }
  | _ => none }
def classesPerlRow : OpenClaim := { program := "ytoglnankopdohaa", sum := "ab596fdb31660da3ce659b4ff4587fa1827b74ead7ed45722d748bc7f35589c4", func := "martello/martellolaw04.ClassesPerl", spec := "classesPerl", unfollowed := true, recurses := true, apart := false }
def ClassesPerlSaid : Prop := classesPerlRow.holds Try.pinned (OpenSpec.ofChange classesPerlSpec)

/-- ITS FALSE NEIGHBOUR: 'it returns false'. Refute it at one input. -/
def classesPerlWrong : ChangeSpec := { name := "classesPerl", fn := fun _ => fun
  | [d] => { results := [.lit (.bool false)], args := [d] }
  | _ => none }
def ClassesPerlWrongFalsely : Prop := classesPerlRow.holds Try.pinned (OpenSpec.ofChange classesPerlWrong)

/-- 'martellolaw02.SetsMeet': WHATEVER THE INPUT: true; the input reads as it did. -/
def setsMeetSpec : ChangeSpec := { name := "setsMeet", fn := fun _ => fun
  | [d1, d2] => { results := [.lit (.bool true)], args := [d1, d2] }
  | _ => none }
def setsMeetRow : OpenClaim := { program := "ytoglnankopdohaa", sum := "ab596fdb31660da3ce659b4ff4587fa1827b74ead7ed45722d748bc7f35589c4", func := "martello/martellolaw02.SetsMeet", spec := "setsMeet", unfollowed := true, recurses := true, apart := false }
def SetsMeetSaid : Prop := setsMeetRow.holds Try.pinned (OpenSpec.ofChange setsMeetSpec)

/-- ITS FALSE NEIGHBOUR: 'it returns false'. Refute it at one input. -/
def setsMeetWrong : ChangeSpec := { name := "setsMeet", fn := fun _ => fun
  | [d1, d2] => { results := [.lit (.bool false)], args := [d1, d2] }
  | _ => none }
def SetsMeetWrongFalsely : Prop := setsMeetRow.holds Try.pinned (OpenSpec.ofChange setsMeetWrong)

/-- 'martellolaw02.SetsOrder': WHATEVER THE INPUT: true; the input reads as it did. -/
def setsOrderSpec : ChangeSpec := { name := "setsOrder", fn := fun _ => fun
  | [d1, d2, d3] => { results := [.lit (.bool true)], args := [d1, d2, d3] }
  | _ => none }
def setsOrderRow : OpenClaim := { program := "ytoglnankopdohaa", sum := "ab596fdb31660da3ce659b4ff4587fa1827b74ead7ed45722d748bc7f35589c4", func := "martello/martellolaw02.SetsOrder", spec := "setsOrder", unfollowed := true, recurses := true, apart := false }
def SetsOrderSaid : Prop := setsOrderRow.holds Try.pinned (OpenSpec.ofChange setsOrderSpec)

/-- ITS FALSE NEIGHBOUR: 'it returns false'. Refute it at one input. -/
def setsOrderWrong : ChangeSpec := { name := "setsOrder", fn := fun _ => fun
  | [d1, d2, d3] => { results := [.lit (.bool false)], args := [d1, d2, d3] }
  | _ => none }
def SetsOrderWrongFalsely : Prop := setsOrderRow.holds Try.pinned (OpenSpec.ofChange setsOrderWrong)

/-- 'martellolaw02.SetsCount': WHATEVER THE INPUT: true; the input reads as it did. -/
def setsCountSpec : ChangeSpec := { name := "setsCount", fn := fun _ => fun
  | [d] => { results := [.lit (.bool true)], args := [d] }
  | _ => none }
def setsCountRow : OpenClaim := { program := "ytoglnankopdohaa", sum := "ab596fdb31660da3ce659b4ff4587fa1827b74ead7ed45722d748bc7f35589c4", func := "martello/martellolaw02.SetsCount", spec := "setsCount", unfollowed := true, recurses := true, apart := false }
def SetsCountSaid : Prop := setsCountRow.holds Try.pinned (OpenSpec.ofChange setsCountSpec)

/-- ITS FALSE NEIGHBOUR: 'it returns false'. Refute it at one input. -/
def setsCountWrong : ChangeSpec := { name := "setsCount", fn := fun _ => fun
  | [d] => { results := [.lit (.bool false)], args := [d] }
  | _ => none }
def SetsCountWrongFalsely : Prop := setsCountRow.holds Try.pinned (OpenSpec.ofChange setsCountWrong)

/-- 'martellolaw02.SetsRuns': WHATEVER THE INPUT: true; the input reads as it did. -/
def setsRunsSpec : ChangeSpec := { name := "setsRuns", fn := fun _ => fun
  | [d1, d2, d3] => { results := [.lit (.bool true)], args := [d1, d2, d3] }
  | _ => none }
def setsRunsRow : OpenClaim := { program := "ytoglnankopdohaa", sum := "ab596fdb31660da3ce659b4ff4587fa1827b74ead7ed45722d748bc7f35589c4", func := "martello/martellolaw02.SetsRuns", spec := "setsRuns", unfollowed := true, recurses := true, apart := false }
def SetsRunsSaid : Prop := setsRunsRow.holds Try.pinned (OpenSpec.ofChange setsRunsSpec)

/-- ITS FALSE NEIGHBOUR: 'it returns false'. Refute it at one input. -/
def setsRunsWrong : ChangeSpec := { name := "setsRuns", fn := fun _ => fun
  | [d1, d2, d3] => { results := [.lit (.bool false)], args := [d1, d2, d3] }
  | _ => none }
def SetsRunsWrongFalsely : Prop := setsRunsRow.holds Try.pinned (OpenSpec.ofChange setsRunsWrong)

/-- 'martellolaw02.SetsLaws': WHATEVER THE INPUT: true; the input reads as it did. -/
def setsLawsSpec : ChangeSpec := { name := "setsLaws", fn := fun _ => fun
  | [d1, d2, d3] => { results := [.lit (.bool true)], args := [d1, d2, d3] }
  | _ => none }
def setsLawsRow : OpenClaim := { program := "ytoglnankopdohaa", sum := "ab596fdb31660da3ce659b4ff4587fa1827b74ead7ed45722d748bc7f35589c4", func := "martello/martellolaw02.SetsLaws", spec := "setsLaws", unfollowed := true, recurses := true, apart := false }
def SetsLawsSaid : Prop := setsLawsRow.holds Try.pinned (OpenSpec.ofChange setsLawsSpec)

/-- ITS FALSE NEIGHBOUR: 'it returns false'. Refute it at one input. -/
def setsLawsWrong : ChangeSpec := { name := "setsLaws", fn := fun _ => fun
  | [d1, d2, d3] => { results := [.lit (.bool false)], args := [d1, d2, d3] }
  | _ => none }
def SetsLawsWrongFalsely : Prop := setsLawsRow.holds Try.pinned (OpenSpec.ofChange setsLawsWrong)

/-- 'martellolaw04.ClassesPosix': WHATEVER THE INPUT: true; the input reads as it did. -/
def classesPosixSpec : ChangeSpec := { name := "classesPosix", fn := fun _ => fun
  | [d] => { results := [.lit (.bool true)], args := [d] }
  | _ => none }
def classesPosixRow : OpenClaim := { program := "ytoglnankopdohaa", sum := "ab596fdb31660da3ce659b4ff4587fa1827b74ead7ed45722d748bc7f35589c4", func := "martello/martellolaw04.ClassesPosix", spec := "classesPosix", unfollowed := true, recurses := true, apart := false }
def ClassesPosixSaid : Prop := classesPosixRow.holds Try.pinned (OpenSpec.ofChange classesPosixSpec)

/-- ITS FALSE NEIGHBOUR: 'it returns false'. Refute it at one input. -/
def classesPosixWrong : ChangeSpec := { name := "classesPosix", fn := fun _ => fun
  | [d] => { results := [.lit (.bool false)], args := [d] }
  | _ => none }
def ClassesPosixWrongFalsely : Prop := classesPosixRow.holds Try.pinned (OpenSpec.ofChange classesPosixWrong)

/-- 'martellolaw04.ClassesAlike': WHATEVER THE INPUT: true; the input reads as it did. -/
def classesAlikeSpec : ChangeSpec := { name := "classesAlike", fn := fun _ => fun
  | [d] => { results := [.lit (.bool true)], args := [d] }
  | _ => none }
def classesAlikeRow : OpenClaim := { program := "ytoglnankopdohaa", sum := "ab596fdb31660da3ce659b4ff4587fa1827b74ead7ed45722d748bc7f35589c4", func := "martello/martellolaw04.ClassesAlike", spec := "classesAlike", unfollowed := true, recurses := true, apart := false }
def ClassesAlikeSaid : Prop := classesAlikeRow.holds Try.pinned (OpenSpec.ofChange classesAlikeSpec)

/-- ITS FALSE NEIGHBOUR: 'it returns false'. Refute it at one input. -/
def classesAlikeWrong : ChangeSpec := { name := "classesAlike", fn := fun _ => fun
  | [d] => { results := [.lit (.bool false)], args := [d] }
  | _ => none }
def ClassesAlikeWrongFalsely : Prop := classesAlikeRow.holds Try.pinned (OpenSpec.ofChange classesAlikeWrong)

/-- 'martellolaw04.ClassesProperty': WHATEVER THE INPUT: true; the input reads as it did. -/
def classesPropertySpec : ChangeSpec := { name := "classesProperty", fn := fun _ => fun
  | [d1, d2] => { results := [.lit (.bool true)], args := [d1, d2] }
  | _ => none }
def classesPropertyRow : OpenClaim := { program := "ytoglnankopdohaa", sum := "ab596fdb31660da3ce659b4ff4587fa1827b74ead7ed45722d748bc7f35589c4", func := "martello/martellolaw04.ClassesProperty", spec := "classesProperty", unfollowed := true, recurses := true, apart := false }
def ClassesPropertySaid : Prop := classesPropertyRow.holds Try.pinned (OpenSpec.ofChange classesPropertySpec)

/-- ITS FALSE NEIGHBOUR: 'it returns false'. Refute it at one input. -/
def classesPropertyWrong : ChangeSpec := { name := "classesProperty", fn := fun _ => fun
  | [d1, d2] => { results := [.lit (.bool false)], args := [d1, d2] }
  | _ => none }
def ClassesPropertyWrongFalsely : Prop := classesPropertyRow.holds Try.pinned (OpenSpec.ofChange classesPropertyWrong)

/-- 'martellolaw04.ClassesTurned': WHATEVER THE INPUT: true; the input reads as it did. -/
def classesTurnedSpec : ChangeSpec := { name := "classesTurned", fn := fun _ => fun
  | [d1, d2, d3] => { results := [.lit (.bool true)], args := [d1, d2, d3] }
  | _ => none }
def classesTurnedRow : OpenClaim := { program := "ytoglnankopdohaa", sum := "ab596fdb31660da3ce659b4ff4587fa1827b74ead7ed45722d748bc7f35589c4", func := "martello/martellolaw04.ClassesTurned", spec := "classesTurned", unfollowed := true, recurses := true, apart := false }
def ClassesTurnedSaid : Prop := classesTurnedRow.holds Try.pinned (OpenSpec.ofChange classesTurnedSpec)

/-- ITS FALSE NEIGHBOUR: 'it returns false'. Refute it at one input. -/
def classesTurnedWrong : ChangeSpec := { name := "classesTurned", fn := fun _ => fun
  | [d1, d2, d3] => { results := [.lit (.bool false)], args := [d1, d2, d3] }
  | _ => none }
def ClassesTurnedWrongFalsely : Prop := classesTurnedRow.holds Try.pinned (OpenSpec.ofChange classesTurnedWrong)

/-- 'martellolaw03.TablesFolds': WHATEVER THE INPUT: true; the input reads as it did. -/
def tablesFoldsSpec : ChangeSpec := { name := "tablesFolds", fn := fun _ => fun
  | [d] => { results := [.lit (.bool true)], args := [d] }
  | _ => none }
def tablesFoldsRow : OpenClaim := { program := "ytoglnankopdohaa", sum := "ab596fdb31660da3ce659b4ff4587fa1827b74ead7ed45722d748bc7f35589c4", func := "martello/martellolaw03.TablesFolds", spec := "tablesFolds", unfollowed := true, recurses := true, apart := false }
def TablesFoldsSaid : Prop := tablesFoldsRow.holds Try.pinned (OpenSpec.ofChange tablesFoldsSpec)

/-- ITS FALSE NEIGHBOUR: 'it returns false'. Refute it at one input. -/
def tablesFoldsWrong : ChangeSpec := { name := "tablesFolds", fn := fun _ => fun
  | [d] => { results := [.lit (.bool false)], args := [d] }
  | _ => none }
def TablesFoldsWrongFalsely : Prop := tablesFoldsRow.holds Try.pinned (OpenSpec.ofChange tablesFoldsWrong)

/-- 'martellolaw03.TablesAlike': WHATEVER THE INPUT: true; the input reads as it did. -/
def tablesAlikeSpec : ChangeSpec := { name := "tablesAlike", fn := fun _ => fun
  | [d1, d2] => { results := [.lit (.bool true)], args := [d1, d2] }
  | _ => none }
def tablesAlikeRow : OpenClaim := { program := "ytoglnankopdohaa", sum := "ab596fdb31660da3ce659b4ff4587fa1827b74ead7ed45722d748bc7f35589c4", func := "martello/martellolaw03.TablesAlike", spec := "tablesAlike", unfollowed := true, recurses := true, apart := false }
def TablesAlikeSaid : Prop := tablesAlikeRow.holds Try.pinned (OpenSpec.ofChange tablesAlikeSpec)

/-- ITS FALSE NEIGHBOUR: 'it returns false'. Refute it at one input. -/
def tablesAlikeWrong : ChangeSpec := { name := "tablesAlike", fn := fun _ => fun
  | [d1, d2] => { results := [.lit (.bool false)], args := [d1, d2] }
  | _ => none }
def TablesAlikeWrongFalsely : Prop := tablesAlikeRow.holds Try.pinned (OpenSpec.ofChange tablesAlikeWrong)

/- THE SECOND FORM. 'bulk': how many values and letters a reading holds, each counted each time it is reached (what is shared counts as often as it is met; a slice's spare places count too). A statement '..UptoSaid' is the law's where the arguments, and the package variables that the reading takes, are together of bulk at most 1048576: NARROWER than '..Said'. Prove '..Said' where nothing that the law and all that it calls make is longer than what came in: it says more and counts as full. Else prove '..UptoSaid'. A law counts once. -/
mutual
def uptoBulk {H : Type} : DataW H → Nat
  | .lit (.string bytes) => bytes.length + 1
  | .lit _ => 1
  | .nil => 1
  | .ptr d => uptoBulk d + 1
  | .slice elems spare => uptoBulkAll elems + uptoBulkAll spare + 1
  | .agg parts => uptoBulkAll parts + 1
  | .iface _ d => uptoBulk d + 1
  | .map entries => uptoBulkEntries entries + 1
  | .held _ => 1
def uptoBulkAll {H : Type} : List (DataW H) → Nat
  | [] => 0
  | d :: r => uptoBulk d + uptoBulkAll r
def uptoBulkEntries {H : Type} : List (Lit × DataW H) → Nat
  | [] => 0
  | x :: r => uptoBulkEntry x + uptoBulkEntries r
def uptoBulkEntry {H : Type} : Lit × DataW H → Nat
  | (.string bytes, d) => bytes.length + uptoBulk d + 1
  | (_, d) => uptoBulk d + 1
 end
def uptoSmall : (H : Type) → List (DataW H) → Bool := fun _ ds => decide (uptoBulkAll ds ≤ 1048576)
def OpenSpec.upto (s : _root_.Go.ChangeSpec) : _root_.Go.OpenSpec := { _root_.Go.OpenSpec.ofChange s with cond := some uptoSmall }

/-- 'martellolaw03.TablesNames', WHERE WHAT IT READS IS OF BULK AT MOST 1048576: true; the input reads as it did. -/
def tablesNamesUptoRow : OpenClaim := { program := "ytoglnankopdohaa", sum := "ab596fdb31660da3ce659b4ff4587fa1827b74ead7ed45722d748bc7f35589c4", func := "martello/martellolaw03.TablesNames", spec := "tablesNames", unfollowed := true, recurses := true, apart := false, narrowed := true }
def TablesNamesUptoSaid : Prop := tablesNamesUptoRow.holds Try.pinned (OpenSpec.upto tablesNamesSpec)

/-- 'martellolaw03.TablesOrbits', WHERE WHAT IT READS IS OF BULK AT MOST 1048576: true; the input reads as it did. -/
def tablesOrbitsUptoRow : OpenClaim := { program := "ytoglnankopdohaa", sum := "ab596fdb31660da3ce659b4ff4587fa1827b74ead7ed45722d748bc7f35589c4", func := "martello/martellolaw03.TablesOrbits", spec := "tablesOrbits", unfollowed := true, recurses := true, apart := false, narrowed := true }
def TablesOrbitsUptoSaid : Prop := tablesOrbitsUptoRow.holds Try.pinned (OpenSpec.upto tablesOrbitsSpec)

/-- 'martellolaw03.TablesPairs', WHERE WHAT IT READS IS OF BULK AT MOST 1048576: true; the input reads as it did. -/
def tablesPairsUptoRow : OpenClaim := { program := "ytoglnankopdohaa", sum := "ab596fdb31660da3ce659b4ff4587fa1827b74ead7ed45722d748bc7f35589c4", func := "martello/martellolaw03.TablesPairs", spec := "tablesPairs", unfollowed := true, recurses := true, apart := false, narrowed := true }
def TablesPairsUptoSaid : Prop := tablesPairsUptoRow.holds Try.pinned (OpenSpec.upto tablesPairsSpec)

/-- 'martellolaw02.SetsRight', WHERE WHAT IT READS IS OF BULK AT MOST 1048576: true; the input reads as it did. -/
def setsRightUptoRow : OpenClaim := { program := "ytoglnankopdohaa", sum := "ab596fdb31660da3ce659b4ff4587fa1827b74ead7ed45722d748bc7f35589c4", func := "martello/martellolaw02.SetsRight", spec := "setsRight", unfollowed := true, recurses := true, apart := false, narrowed := true }
def SetsRightUptoSaid : Prop := setsRightUptoRow.holds Try.pinned (OpenSpec.upto setsRightSpec)

/-- 'martellolaw02.SetsHas', WHERE WHAT IT READS IS OF BULK AT MOST 1048576: true; the input reads as it did. -/
def setsHasUptoRow : OpenClaim := { program := "ytoglnankopdohaa", sum := "ab596fdb31660da3ce659b4ff4587fa1827b74ead7ed45722d748bc7f35589c4", func := "martello/martellolaw02.SetsHas", spec := "setsHas", unfollowed := true, recurses := true, apart := false, narrowed := true }
def SetsHasUptoSaid : Prop := setsHasUptoRow.holds Try.pinned (OpenSpec.upto setsHasSpec)

/-- 'martellolaw02.SetsNorm', WHERE WHAT IT READS IS OF BULK AT MOST 1048576: true; the input reads as it did. -/
def setsNormUptoRow : OpenClaim := { program := "ytoglnankopdohaa", sum := "ab596fdb31660da3ce659b4ff4587fa1827b74ead7ed45722d748bc7f35589c4", func := "martello/martellolaw02.SetsNorm", spec := "setsNorm", unfollowed := true, recurses := true, apart := false, narrowed := true }
def SetsNormUptoSaid : Prop := setsNormUptoRow.holds Try.pinned (OpenSpec.upto setsNormSpec)

/-- 'martellolaw02.SetsUnion', WHERE WHAT IT READS IS OF BULK AT MOST 1048576: true; the input reads as it did. -/
def setsUnionUptoRow : OpenClaim := { program := "ytoglnankopdohaa", sum := "ab596fdb31660da3ce659b4ff4587fa1827b74ead7ed45722d748bc7f35589c4", func := "martello/martellolaw02.SetsUnion", spec := "setsUnion", unfollowed := true, recurses := true, apart := false, narrowed := true }
def SetsUnionUptoSaid : Prop := setsUnionUptoRow.holds Try.pinned (OpenSpec.upto setsUnionSpec)

/-- 'martellolaw02.SetsNot', WHERE WHAT IT READS IS OF BULK AT MOST 1048576: true; the input reads as it did. -/
def setsNotUptoRow : OpenClaim := { program := "ytoglnankopdohaa", sum := "ab596fdb31660da3ce659b4ff4587fa1827b74ead7ed45722d748bc7f35589c4", func := "martello/martellolaw02.SetsNot", spec := "setsNot", unfollowed := true, recurses := true, apart := false, narrowed := true }
def SetsNotUptoSaid : Prop := setsNotUptoRow.holds Try.pinned (OpenSpec.upto setsNotSpec)

/-- 'martellolaw04.ClassesPerl', WHERE WHAT IT READS IS OF BULK AT MOST 1048576: true; the input reads as it did. -/
def classesPerlUptoRow : OpenClaim := { program := "ytoglnankopdohaa", sum := "ab596fdb31660da3ce659b4ff4587fa1827b74ead7ed45722d748bc7f35589c4", func := "martello/martellolaw04.ClassesPerl", spec := "classesPerl", unfollowed := true, recurses := true, apart := false, narrowed := true }
def ClassesPerlUptoSaid : Prop := classesPerlUptoRow.holds Try.pinned (OpenSpec.upto classesPerlSpec)

/-- 'martellolaw02.SetsMeet', WHERE WHAT IT READS IS OF BULK AT MOST 1048576: true; the input reads as it did. -/
def setsMeetUptoRow : OpenClaim := { program := "ytoglnankopdohaa", sum := "ab596fdb31660da3ce659b4ff4587fa1827b74ead7ed45722d748bc7f35589c4", func := "martello/martellolaw02.SetsMeet", spec := "setsMeet", unfollowed := true, recurses := true, apart := false, narrowed := true }
def SetsMeetUptoSaid : Prop := setsMeetUptoRow.holds Try.pinned (OpenSpec.upto setsMeetSpec)

/-- 'martellolaw02.SetsOrder', WHERE WHAT IT READS IS OF BULK AT MOST 1048576: true; the input reads as it did. -/
def setsOrderUptoRow : OpenClaim := { program := "ytoglnankopdohaa", sum := "ab596fdb31660da3ce659b4ff4587fa1827b74ead7ed45722d748bc7f35589c4", func := "martello/martellolaw02.SetsOrder", spec := "setsOrder", unfollowed := true, recurses := true, apart := false, narrowed := true }
def SetsOrderUptoSaid : Prop := setsOrderUptoRow.holds Try.pinned (OpenSpec.upto setsOrderSpec)

/-- 'martellolaw02.SetsCount', WHERE WHAT IT READS IS OF BULK AT MOST 1048576: true; the input reads as it did. -/
def setsCountUptoRow : OpenClaim := { program := "ytoglnankopdohaa", sum := "ab596fdb31660da3ce659b4ff4587fa1827b74ead7ed45722d748bc7f35589c4", func := "martello/martellolaw02.SetsCount", spec := "setsCount", unfollowed := true, recurses := true, apart := false, narrowed := true }
def SetsCountUptoSaid : Prop := setsCountUptoRow.holds Try.pinned (OpenSpec.upto setsCountSpec)

/-- 'martellolaw02.SetsRuns', WHERE WHAT IT READS IS OF BULK AT MOST 1048576: true; the input reads as it did. -/
def setsRunsUptoRow : OpenClaim := { program := "ytoglnankopdohaa", sum := "ab596fdb31660da3ce659b4ff4587fa1827b74ead7ed45722d748bc7f35589c4", func := "martello/martellolaw02.SetsRuns", spec := "setsRuns", unfollowed := true, recurses := true, apart := false, narrowed := true }
def SetsRunsUptoSaid : Prop := setsRunsUptoRow.holds Try.pinned (OpenSpec.upto setsRunsSpec)

/-- 'martellolaw02.SetsLaws', WHERE WHAT IT READS IS OF BULK AT MOST 1048576: true; the input reads as it did. -/
def setsLawsUptoRow : OpenClaim := { program := "ytoglnankopdohaa", sum := "ab596fdb31660da3ce659b4ff4587fa1827b74ead7ed45722d748bc7f35589c4", func := "martello/martellolaw02.SetsLaws", spec := "setsLaws", unfollowed := true, recurses := true, apart := false, narrowed := true }
def SetsLawsUptoSaid : Prop := setsLawsUptoRow.holds Try.pinned (OpenSpec.upto setsLawsSpec)

/-- 'martellolaw04.ClassesPosix', WHERE WHAT IT READS IS OF BULK AT MOST 1048576: true; the input reads as it did. -/
def classesPosixUptoRow : OpenClaim := { program := "ytoglnankopdohaa", sum := "ab596fdb31660da3ce659b4ff4587fa1827b74ead7ed45722d748bc7f35589c4", func := "martello/martellolaw04.ClassesPosix", spec := "classesPosix", unfollowed := true, recurses := true, apart := false, narrowed := true }
def ClassesPosixUptoSaid : Prop := classesPosixUptoRow.holds Try.pinned (OpenSpec.upto classesPosixSpec)

/-- 'martellolaw04.ClassesAlike', WHERE WHAT IT READS IS OF BULK AT MOST 1048576: true; the input reads as it did. -/
def classesAlikeUptoRow : OpenClaim := { program := "ytoglnankopdohaa", sum := "ab596fdb31660da3ce659b4ff4587fa1827b74ead7ed45722d748bc7f35589c4", func := "martello/martellolaw04.ClassesAlike", spec := "classesAlike", unfollowed := true, recurses := true, apart := false, narrowed := true }
def ClassesAlikeUptoSaid : Prop := classesAlikeUptoRow.holds Try.pinned (OpenSpec.upto classesAlikeSpec)

/-- 'martellolaw04.ClassesProperty', WHERE WHAT IT READS IS OF BULK AT MOST 1048576: true; the input reads as it did. -/
def classesPropertyUptoRow : OpenClaim := { program := "ytoglnankopdohaa", sum := "ab596fdb31660da3ce659b4ff4587fa1827b74ead7ed45722d748bc7f35589c4", func := "martello/martellolaw04.ClassesProperty", spec := "classesProperty", unfollowed := true, recurses := true, apart := false, narrowed := true }
def ClassesPropertyUptoSaid : Prop := classesPropertyUptoRow.holds Try.pinned (OpenSpec.upto classesPropertySpec)

/-- 'martellolaw04.ClassesTurned', WHERE WHAT IT READS IS OF BULK AT MOST 1048576: true; the input reads as it did. -/
def classesTurnedUptoRow : OpenClaim := { program := "ytoglnankopdohaa", sum := "ab596fdb31660da3ce659b4ff4587fa1827b74ead7ed45722d748bc7f35589c4", func := "martello/martellolaw04.ClassesTurned", spec := "classesTurned", unfollowed := true, recurses := true, apart := false, narrowed := true }
def ClassesTurnedUptoSaid : Prop := classesTurnedUptoRow.holds Try.pinned (OpenSpec.upto classesTurnedSpec)

/-- 'martellolaw03.TablesFolds', WHERE WHAT IT READS IS OF BULK AT MOST 1048576: true; the input reads as it did. -/
def tablesFoldsUptoRow : OpenClaim := { program := "ytoglnankopdohaa", sum := "ab596fdb31660da3ce659b4ff4587fa1827b74ead7ed45722d748bc7f35589c4", func := "martello/martellolaw03.TablesFolds", spec := "tablesFolds", unfollowed := true, recurses := true, apart := false, narrowed := true }
def TablesFoldsUptoSaid : Prop := tablesFoldsUptoRow.holds Try.pinned (OpenSpec.upto tablesFoldsSpec)

/-- 'martellolaw03.TablesAlike', WHERE WHAT IT READS IS OF BULK AT MOST 1048576: true; the input reads as it did. -/
def tablesAlikeUptoRow : OpenClaim := { program := "ytoglnankopdohaa", sum := "ab596fdb31660da3ce659b4ff4587fa1827b74ead7ed45722d748bc7f35589c4", func := "martello/martellolaw03.TablesAlike", spec := "tablesAlike", unfollowed := true, recurses := true, apart := false, narrowed := true }
def TablesAlikeUptoSaid : Prop := tablesAlikeUptoRow.holds Try.pinned (OpenSpec.upto tablesAlikeSpec)

end Rows
end Go.Proofs.Ytoglnankopdohaa
